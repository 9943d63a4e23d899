/- Texts of this claim, one after the other: T31, T32, T33, T34, T35, T23, T24, T25, T26, A11, T27, T36, T29, T37, T43, T47, T48, T49, T50, T44, T45, T51, T52, T53, T54, T55, T56, T57, T63, T64, T59, T60, T58, T61, T62, T65, T66, A14, T46, T67, T8, T9. -/
import Derived.Test.YtjgpfclngkcedaaGreatXG4
import Derived.Test.YtjgpfclngkcedaaGreatXG5
import Derived.Test.YtjgpfclngkcedaaGreatXG3
import Derived.Test.YtjgpfclngkcedaaGreatRows
import Derived.WalkKit
import Derived.ProofKit
import Derived.OpenShut

set_option linter.unusedSimpArgs false
set_option linter.unusedVariables false
namespace Go.Proofs.YtjgpfclngkcedaaGreat
open Go Go.Abs
open Nat (reduceEqDiff reduceAdd reduceLeDiff)
def pz (l:List Int) (i:Nat):Int:=if l.getD i default < 0 ∨ (l.length:Int) ≤ l.getD i default then 2 else if (l.take i).any (fun x=>decide (x=l.getD i default)) then 7 else 0
def b0 (l:List Int):Int:=if l.length < 1 ∨ 5 < l.length then 2 else bw (pz l) l.length
theorem eM {l:List Int} (h:b0 l=0):1 ≤ l.length∧l.length ≤ 5∧(∀ i,i < l.length→0 ≤ l.getD i default∧l.getD i default < l.length)∧∀ i j,i < j→j < l.length→l.getD i default ≠ l.getD j default:=by
 unfold b0 at h
 split at h
 ·exact absurd h (by decide)
 rename_i h1
 have hz:=cT h
 have hp:∀ i,i < l.length→(0 ≤ l.getD i default∧l.getD i default < l.length)∧(l.take i).any (fun x=>decide (x=l.getD i default))=false:=fun i hi=>by
  have:=hz i hi
  unfold pz at this
  split at this
  ·exact absurd this (by decide)
  rename_i h2
  split at this
  ·exact absurd this (by decide)
  rename_i h3
  exact ⟨by omega,by cases hq:(l.take i).any (fun x=>decide (x=l.getD i default)) with
   | false=>rfl
   | true=>exact absurd hq h3⟩
 refine ⟨by omega,by omega,fun i hi=>(hp i hi).1,fun i j hij hj e=>?_⟩
 have:=(hp j hj).2
 rw [List.any_eq_false] at this
 refine this (l.getD i default) ?_ (decide_eq_true e)
 rw [List.mem_iff_getElem?]
 refine ⟨i,?_⟩
 rw [List.getElem?_take,if_pos hij]
 simp [List.getD,show i < l.length by omega]
def gU (l:List Int) (k:Nat):List Bool:=(List.range 5).map fun (p:Nat)=>(l.take k).any fun x=>decide (x=(p:Int))
theorem nD (l:List Int) (k:Nat):(gU l k).length=5:=by simp [gU]
theorem sw {l:List Int} {k p:Nat} (hp:p < 5):(gU l k).getD p default=(l.take k).any fun x=>decide (x=(p:Int)):=by simp [gU,List.getD,hp]
theorem sr {l:List Int} {k p:Nat} (hk:k < l.length) (e:l.getD k default=(p:Int)):(gU l k).set p true=gU l (k + 1):=by
 refine List.ext_getElem (by simp [gU]) fun i h1 h2=>?_
 rw [List.getElem_set]
 simp only [gU,List.getElem_map,List.getElem_range,bx hk,List.any_append,List.any_cons,List.any_nil,Bool.or_false,e]
 by_cases hi:p=i
 ·subst hi; rw [if_pos rfl]; simp
 ·rw [if_neg hi,decide_eq_false (by omega),Bool.or_false]
def mvK (v p:List Int):Nat→List Int
 | 0=>List.replicate v.length 0
 | k + 1=>(mvK v p k).set (p.getD k default).toNat (v.getD k default)
def bn (v p:List Int):List Int:=mvK v p v.length
theorem jg (v p:List Int) (k:Nat):(mvK v p k).length=v.length:=by
 induction k with
 | zero=>simp [mvK]
 | succ k ih=>rw [mvK,List.length_set,ih]
theorem ck (v p:List Int):(bn v p).length=v.length:=jg v p _
theorem r9 {v p:List Int} (hp:b0 p=0) (hl:v.length=p.length):∀ {k i:Nat},i < k→k ≤ p.length→(mvK v p k).getD (p.getD i default).toNat default=v.getD i default
 | 0,i,h,_=>absurd h (by omega)
 | k + 1,i,h,hk=>by
  obtain ⟨_,_,p3,p4⟩:=eM hp
  have a1:=p3 i (by omega)
  have a2:=p3 k (by omega)
  have hlen:=jg v p k
  rw [mvK]
  by_cases e:i=k
  ·subst e
   rw [bP (by omega),if_pos rfl]
  ·have hne:p.getD i default ≠ p.getD k default:=p4 i k (by omega) (by omega)
   rw [bP (by omega),if_neg (by omega)]
   exact r9 hp hl (by omega) (by omega)
theorem nz {v p:List Int} (hp:b0 p=0) (hl:v.length=p.length) {i:Nat} (hi:i < p.length):(bn v p).getD (p.getD i default).toNat default=v.getD i default:=r9 hp hl (by omega) (by omega)
theorem sJ {v w p:List Int} (hp:b0 p=0) (hv:v.length=p.length) (hw:w.length=p.length) (h:bn v p=bn w p):v=w:=by
 refine List.ext_getElem (by omega) fun i h1 h2=>?_
 have a:=nz hp hv (i:=i) (by omega)
 have b:=nz hp hw (i:=i) (by omega)
 rw [h,b] at a
 simpa [List.getD,h1,h2] using a.symm
attribute [local irreducible] aB ag aR aO aF aH ay aJ aP aZ Go.Abs.Fn aM Go.Abs.Pure an aC Yl
theorem ma {T:Tm} {H:Hp} {b n off len sz q:Nat} {x i:Opd} (hx:ov T x=.ptr b n off) (hi:ov T i=.int .i64 (q:Int)) (h:q < len):aV T H (.ixaA len sz x i)=some (.ptr b n (off + q * sz)):=by
 simp only [aV,hx,hi,iU]
 rw [if_pos ⟨by omega,by omega⟩]
 simp [fW]
theorem qw (n:Int):Pure Tryz.prog 118 [.int .i64 n] (.int .i64 (if n < 1 ∨ 5 < n then 2 else 0)):=by
 refine Pure.of_c2 follows xj (Nat.le_of_ble_eq_true rfl) ?_
 simp only [xU,cO,cG,cN,cM,cD,cF,cB,au,aD]
 by_cases h:n < 1 ∨ 5 < n
 ·rw [if_pos h]
  (have zz:=and_self; repeat' (first | refine zW ?_ | apply a_n | apply a_r | refine zO ?_ | refine vZ ?_ | refine gTZ ?_ | refine gFZ ?_ | refine cTZ ?_ | (refine zGZ ?_ ?_ <;> (intro _hg; try (exfalso; omega))) | refine aa rfl ?_ | refine r1Z ?_ | fail)) <;> (try clear zz)
  all_goals exact bb rfl
 ·rw [if_neg h]
  (have zz:=and_self; repeat' (first | refine zW ?_ | apply a_n | refine zO ?_ | refine vZ ?_ | refine gTZ ?_ | (refine zGZ ?_ ?_ <;> (intro _hg; try (exfalso; omega))) | refine aa rfl ?_ | refine r1Z ?_ | fail)) <;> (try clear zz)
  all_goals exact bb rfl
theorem kB (l:List Int) (hl:Sh l):Pure Tryz.prog 86 [av l] (.int .i64 (b0 l)):=by
 have hl':l.length ≤ 17592186044416:=hl
 refine Pure.of_c2 follows zS (Nat.le_of_ble_eq_true rfl) ?_
 simp only [b86,cO,cG,cN,cM,cD,cF,cB,au,aD]
 have hn:=qw l.length
 by_cases h:l.length < 1 ∨ 5 < l.length
 ·have e:b0 l=2:=by unfold b0; rw [if_pos h]
  rw [if_pos (by omega)] at hn
  rw [e]
  (have zz:=and_self; repeat' (first | refine zW ?_ | apply a_n | apply a_r | refine zO ?_ | refine vZ ?_ | refine cZ ?_ (hp:=hn) | (refine zGZ ?_ ?_ <;> (intro _hg; try (exfalso; omega))) | refine aa rfl ?_ | refine r1Z ?_ | fail)) <;> (try clear zz)
  exact bb rfl
 rw [if_neg (by omega)] at hn
 have e:b0 l=bw (pz l) l.length:=by unfold b0; rw [if_neg h]
 rw [e]
 (have zz:=and_self; repeat' (first | refine zW ?_ | apply a_n | refine zO ?_ | refine vZ ?_ | refine cZ ?_ (hp:=hn) | refine alZ ?_ | (refine zGZ ?_ ?_ <;> (intro _hg; try (exfalso; omega))) | fail)) <;> (try clear zz)
 refine aW (X:=Nat) (fun k=>[(0,av l),(4,.ptr 0 5 0),(13,av l),(14,.int .i64 l.length),(15,.int .i64 k)]) (fun k H nx=>k ≤ l.length∧H=ah aL 0 ((gU l k).map AV.bool)∧nx=1∧∀ i,i < k→pz l i=0) (fun k=>l.length - k) 0 ⟨Nat.zero_le _,rfl,rfl,fun i hi=>absurd hi (by omega)⟩ (by simp (disch:=omega) only [agr,ZG,reduceEqDiff,↓reduceIte,List.length_cons,List.length_nil,Nat.zero_add,reduceAdd]) ?_
 rintro k H nx ⟨hk,rfl,rfl,hz⟩
 by_cases hk2:k < l.length
 rotate_left
 ·(have zz:=and_self; repeat' (first | refine zW ?_ | apply a_n | apply a_x | refine zO ?_ | refine vZ ?_ | (refine zGZ ?_ ?_ <;> (intro _hg; try (exfalso; omega))) | refine aa rfl ?_ | refine r1Z ?_ | fail)) <;> (try clear zz)
  refine bb ?_
  rw [bV fun i hi=>hz i (by omega)]
 have ho:pz l k=if l.getD k default < 0 ∨ (l.length:Int) ≤ l.getD k default then 2 else if (l.take k).any (fun x=>decide (x=l.getD k default)) then 7 else 0:=rfl
 by_cases hr:l.getD k default < 0 ∨ (l.length:Int) ≤ l.getD k default
 ·rw [if_pos hr] at ho
  (have zz:=and_self; repeat' (first | refine zW ?_ | apply a_n | apply a_r | refine zO ?_ | refine vZ ?_ | refine gTZ ?_ | refine gFZ ?_ | refine cTZ ?_ | (refine zGZ ?_ ?_ <;> (intro _hg; try (exfalso; omega))) | refine aa rfl ?_ | refine r1Z ?_ | fail)) <;> (try clear zz)
  all_goals (refine bb ?_; rw [bQ hk2 hz (by rw [ho]; decide),ho])
 rw [if_neg hr] at ho
 obtain ⟨q,hq⟩:∃ q:Nat,l.getD k default=q:=⟨(l.getD k default).toNat,by omega⟩
 have hq5:q < 5:=by omega
 have hsb:=sw (l:=l) (k:=k) hq5
 have hsl:=nD l k
 have hss:=sr hk2 hq
 rw [hq] at ho hr
 have hge:((gU l k).map AV.bool)[q]?=some (.bool ((l.take k).any fun x=>decide (x=(q:Int)))):=by
  rw [← hsb,getElem?_map_lt (by omega)]
 have hla:=nD l k
 cases hb:(l.take k).any (fun x=>decide (x=(q:Int)))
 ·rw [hb] at hge ho
  rw [if_neg (by decide)] at ho
  have hlm:=c8 (f:=AV.bool) (l:=gU l k) (k:=q) (x:=true) (by omega)
  have hlm2:=hlm
  simp only [bg,List.length_cons,List.length_nil,Nat.zero_add] at hlm2
  (have zz:=@hq; repeat' (first | refine zW ?_ | apply a_n | refine zO ?_ | refine vZ ?_ | refine gTZ ?_ | (refine zGZ ?_ ?_ <;> (intro _hg; try (exfalso; omega))) | fail)) <;> (try clear zz)
  refine pm rfl rfl (ma ev0 (have zz:=@hq; evZ) hq5) ?_
  (have zz:=aI @hq @hge; repeat' (first | apply a_n | refine zO ?_ | refine vZ ?_ | refine cFZ ?_ | fail)) <;> (try clear zz)
  refine pm rfl rfl (ma ev0 (have zz:=@hq; evZ) hq5) ?_
  (have zz:=@hq; repeat' (first | apply a_n | refine zO ?_ | refine vZ ?_ | refine stZ ?_ | fail)) <;> (try clear zz)
  exact ⟨k + 1,by omega,⟨by omega,by rw [am,Nat.mul_one,hlm,hss],rfl,fun i hi=>by
   rcases Nat.lt_succ_iff_lt_or_eq.1 hi with h | rfl
   ·exact hz i h
   ·exact ho⟩,ag0⟩
 ·rw [hb] at hge ho
  rw [if_pos rfl] at ho
  (have zz:=@hq; repeat' (first | refine zW ?_ | apply a_n | refine zO ?_ | refine vZ ?_ | refine gTZ ?_ | (refine zGZ ?_ ?_ <;> (intro _hg; try (exfalso; omega))) | fail)) <;> (try clear zz)
  refine pm rfl rfl (ma ev0 (have zz:=@hq; evZ) hq5) ?_
  (have zz:=aI @hq @hge; repeat' (first | refine zW ?_ | apply a_n | apply a_r | refine zO ?_ | refine vZ ?_ | refine cTZ ?_ | refine aa rfl ?_ | refine r1Z ?_ | fail)) <;> (try clear zz)
  refine bb ?_
  rw [bQ hk2 hz (by rw [ho]; decide),ho]
theorem sT (v p:List Int) (hp:b0 p=0) (hl:v.length=p.length):Pure Tryz.prog 126 [av p,av v] (.tup [av (bn v p),.int .i64 0]):=by
 obtain ⟨p1,p2,p3,p4⟩:=eM hp
 have hc:=kB p (show p.length ≤ _ by omega)
 rw [hp] at hc
 have hlv:decide ((v.length:Int)=(p.length:Int))=true:=decide_eq_true (by omega)
 have hz:aX (.agg [.int .i64 0]) v.length=(mvK v p 0).map (AV.int .i64):=by
  simp [aX,mvK,AV.cells]
 refine Pure.of_c2 follows wQ (Nat.le_of_ble_eq_true rfl) ?_
 simp only [yU,cO,cG,cN,cM,cD,cF,cB,au,aD]
 (have zz:=@hlv; repeat' (first | refine zW ?_ | apply a_n | refine zO ?_ | refine vZ ?_ | refine cZ ?_ (hp:=hc) | (refine zGZ ?_ ?_ <;> (intro _hg; try (exfalso; omega))) | fail)) <;> (try clear zz)
 refine xD rfl ev0 ev0 (by omega) (by omega) (by omega) (by omega) ?_
 rw [Int.toNat_natCast,hz]
 (have zz:=and_self; repeat' (first | refine zW ?_ | apply a_n | refine zO ?_ | refine vZ ?_ | fail)) <;> (try clear zz)
 refine aW (X:=Nat) (fun k=>[(0,av p),(1,av v),(7,.msl 0 v.length 1 0 v.length),(23,av p),(24,.int .i64 p.length),(25,.int .i64 k)]) (fun k H nx=>k ≤ p.length∧H=ah aL 0 ((mvK v p k).map (AV.int .i64))∧nx=1) (fun k=>p.length - k) 0 ⟨Nat.zero_le _,rfl,rfl⟩ (by simp (disch:=omega) only [agr,ZG,reduceEqDiff,↓reduceIte,Nat.mul_one]) ?_
 rintro k H nx ⟨hk,rfl,rfl⟩
 have hml:=jg v p k
 by_cases hk2:k < p.length
 ·have hr:=p3 k hk2
  have hlm:=c8 (f:=AV.int .i64) (l:=mvK v p k) (k:=(p.getD k default).toNat) (x:=v.getD k default) (by omega)
  (have zz:=and_self; repeat' (first | refine zW ?_ | apply a_n | refine zO ?_ | refine vZ ?_ | refine stZ ?_ | (refine zGZ ?_ ?_ <;> (intro _hg; try (exfalso; omega))) | fail)) <;> (try clear zz)
  exact ⟨k + 1,by omega,⟨by omega,by rw [am,hlm]; rfl,rfl⟩,ag0⟩
 ·obtain rfl:k=p.length:=by omega
  (have zz:=and_self; repeat' (first | refine zW ?_ | apply a_n | apply a_x | refine zO ?_ | refine vZ ?_ | (refine zGZ ?_ ?_ <;> (intro _hg; try (exfalso; omega))) | refine aa rfl ?_ | refine r2Z ?_ | fail)) <;> (try clear zz)
  rw [show bn v p=mvK v p p.length by unfold bn; rw [hl]]
  exact er (ax (gQ ai rfl (by rw [jg])) (ax (.int _ _) af))
theorem pH (v p:List Int) (hp:b0 p=0) (hl:v.length=p.length):Pure Tryz.prog 123 [av v,av p] (av (bn v p)):=by
 obtain ⟨p1,p2,p3,p4⟩:=eM hp
 have hz:aX (.agg [.int .i64 0]) v.length=(mvK v p 0).map (AV.int .i64):=by
  simp [aX,mvK,AV.cells]
 refine Pure.of_c2 follows zA (Nat.le_of_ble_eq_true rfl) ?_
 simp only [Ar,cO,cG,cN,cM,cD,cF,cB,au,aD]
 (have zz:=and_self; repeat' (first | refine zW ?_ | apply a_n | refine zO ?_ | refine vZ ?_ | fail)) <;> (try clear zz)
 refine xD rfl ev0 ev0 (by omega) (by omega) (by omega) (by omega) ?_
 rw [Int.toNat_natCast,hz]
 (have zz:=and_self; repeat' (first | refine zW ?_ | apply a_n | refine zO ?_ | refine vZ ?_ | fail)) <;> (try clear zz)
 refine aW (X:=Nat) (fun k=>[(0,av v),(1,av p),(5,.msl 0 v.length 1 0 v.length),(6,.int .i64 k)]) (fun k H nx=>k ≤ v.length∧H=ah aL 0 ((mvK v p k).map (AV.int .i64))∧nx=1) (fun k=>v.length - k) 0 ⟨Nat.zero_le _,rfl,rfl⟩ (by simp (disch:=omega) only [agr,ZG,reduceEqDiff,↓reduceIte,Nat.mul_one]) ?_
 rintro k H nx ⟨hk,rfl,rfl⟩
 have hml:=jg v p k
 by_cases hk2:k < v.length
 ·have hr:=p3 k (by omega)
  have hlm:=c8 (f:=AV.int .i64) (l:=mvK v p k) (k:=(p.getD k default).toNat) (x:=v.getD k default) (by omega)
  (have zz:=and_self; repeat' (first | refine zW ?_ | apply a_n | refine zO ?_ | refine vZ ?_ | refine stZ ?_ | (refine zGZ ?_ ?_ <;> (intro _hg; try (exfalso; omega))) | fail)) <;> (try clear zz)
  exact ⟨k + 1,by omega,⟨by omega,by rw [am,hlm]; rfl,rfl⟩,ag0⟩
 ·obtain rfl:k=v.length:=by omega
  (have zz:=and_self; repeat' (first | refine zW ?_ | apply a_n | apply a_x | refine zO ?_ | refine vZ ?_ | (refine zGZ ?_ ?_ <;> (intro _hg; try (exfalso; omega))) | refine aa rfl ?_ | refine r1Z ?_ | fail)) <;> (try clear zz)
  exact gQ ai rfl (ck v p)
end Go.Proofs.YtjgpfclngkcedaaGreat
namespace Go.Proofs.YtjgpfclngkcedaaGreat
open Go Go.Abs
open Nat (reduceEqDiff reduceAdd reduceLeDiff)
section
variable {α:Type} [Inhabited α] {K:α→α→Int}
def dU (K:α→α→Int) (l:List α) (v:α):Nat→Nat
 | 0=>0
 | k + 1=>if K v (l.getD k default) < 0 then dU K l v k else k + 1
def fR (K:α→α→Int) (l:List α) (v:α):List α:=l.take (dU K l v l.length) ++ v :: l.drop (dU K l v l.length)
def dI (K:α→α→Int) (l:List α):List α:=l.foldl (fR K) []
theorem lj (l:List α) (v:α):∀ k,dU K l v k ≤ k
 | 0=>Nat.le_refl _
 | k + 1=>by
  rw [dU]
  split
  ·exact Nat.le_succ_of_le (lj l v k)
  ·exact Nat.le_refl _
theorem lN {l:List α} {v:α}:∀ {k i:Nat},dU K l v k ≤ i→i < k→K v (l.getD i default) < 0
 | 0,i,_,h=>absurd h (by omega)
 | k + 1,i,h1,h2=>by
  rw [dU] at h1
  split at h1
  ·by_cases e:i=k
   ·subst e; assumption
   ·exact lN h1 (by omega)
  ·omega
theorem lv {l:List α} {v:α}:∀ {k:Nat},0 < dU K l v k→¬ K v (l.getD (dU K l v k - 1) default) < 0
 | 0,h=>absurd h (Nat.lt_irrefl _)
 | k + 1,h=>by
  rw [dU] at h ⊢
  split
  ·rename_i c
   rw [if_pos c] at h
   exact lv h
  ·rename_i c
   rw [Nat.add_sub_cancel]; exact c
theorem ib (l:List α) (v:α):(fR K l v).Perm (v :: l):=by
 unfold fR
 refine List.perm_middle.trans ?_
 rw [List.take_append_drop]
theorem pY (l:List α) (v:α):(fR K l v).length=l.length + 1:=by
 rw [(ib l v).length_eq]; rfl
def bX (K:α→α→Int) (l:List α):Prop:=l.Pairwise fun x y=>¬ K y x < 0
theorem bX.of {l:List α} (h:aN K 0 l.length l):bX K l:=by
 unfold bX
 rw [List.pairwise_iff_getElem]
 intro i j hi hj hij
 have:=h i j (Nat.zero_le _) hij hj
 simpa [List.getD,hi,hj] using this
theorem kF (hK:Ord K) {l:List α} {v:α} (h:bX K l):bX K (fR K l v):=by
 unfold fR
 have hle:=lj (K:=K) l v l.length
 have hab:∀ i,dU K l v l.length ≤ i→i < l.length→K v (l.getD i default) < 0:=fun i h1 h2=>lN h1 h2
 have hbe:0 < dU K l v l.length→¬ K v (l.getD (dU K l v l.length - 1) default) < 0:=fun h=>lv h
 generalize dU K l v l.length=k at *
 have hs:∀ i j (hi:i < l.length) (hj:j < l.length),i < j→¬ K l[j] l[i] < 0:=List.pairwise_iff_getElem.1 h
 have hlow:∀ x ∈ l.take k,¬ K v x < 0:=fun x hx=>by
  obtain ⟨i,hi,rfl⟩:=List.getElem_of_mem hx
  rw [List.length_take] at hi
  rw [List.getElem_take]
  have hk:=hbe (by omega)
  have e:l.getD (k - 1) default=l[k - 1]'(by omega):=by simp [List.getD,show k - 1 < l.length by omega]
  rw [e] at hk
  by_cases hik:i=k - 1
  ·subst hik; exact hk
  ·exact hK.negtr _ _ _ (hs i (k - 1) (by omega) (by omega) (by omega)) hk
 have hup:∀ x ∈ l.drop k,K v x < 0:=fun x hx=>by
  obtain ⟨i,hi,rfl⟩:=List.getElem_of_mem hx
  rw [List.length_drop] at hi
  rw [List.getElem_drop]
  have:=hab (k + i) (by omega) (by omega)
  simpa [List.getD,show k + i < l.length by omega] using this
 unfold bX
 rw [List.pairwise_append,List.pairwise_cons]
 refine ⟨List.Pairwise.sublist (List.take_sublist _ _) h,⟨fun x hx=>hK.asym _ _ (hup x hx),List.Pairwise.sublist (List.drop_sublist _ _) h⟩,fun x hx y hy=>?_⟩
 rcases List.mem_cons.1 hy with rfl | hy
 ·exact hlow x hx
 ·exact hK.negtr _ _ _ (hlow x hx) (hK.asym _ _ (hup y hy))
theorem gV:∀ (l acc:List α),(l.foldl (fR K) acc).Perm (acc ++ l)
 | [],acc=>by simp
 | v :: l,acc=>by
  refine (gV l (fR K acc v)).trans ?_
  refine (List.Perm.append_right l (ib acc v)).trans ?_
  rw [List.cons_append]
  exact List.perm_middle.symm
theorem fN (hK:Ord K):∀ (l acc:List α),bX K acc→bX K (l.foldl (fR K) acc)
 | [],acc,h=>h
 | v :: l,acc,h=>fN hK l (fR K acc v) (kF hK h)
theorem ca (l:List α):(dI K l).Perm l:=by
 have:=gV (K:=K) l []
 rwa [List.nil_append] at this
theorem jG (hK:Ord K) (l:List α):bX K (dI K l):=fN hK l [] .nil
theorem eS (l:List α):(dI K l).length=l.length:=(ca l).length_eq
theorem lM (l:List α) (v:α):dI K (l ++ [v])=fR K (dI K l) v:=by
 unfold dI
 rw [List.foldl_append]; rfl
theorem f8 (hK:Ord K) {L L':List α} (hA:∀ x ∈ L,∀ y ∈ L,¬ K x y < 0→¬ K y x < 0→x=y) (hs:bX K L') (hp:L'.Perm L):L'=dI K L :=
 List.Perm.eq_of_pairwise (fun x y hx hy hxy hyx=>hA x (hp.mem_iff.1 hx) y ((ca L).mem_iff.1 hy) hyx hxy) hs (jG hK L) (hp.trans (ca L).symm)
end
theorem lR:Ord aQ where
 irr x:=by rw [cu]; omega
 asym x y h:=by rw [eb]; omega
 negtr x y z h1 h2 h3:=by
  rcases iX y x with h | h | h
  ·omega
  ·have e:=e7 h; subst e; exact h2 h3
  ·have hxy:aQ x y < 0:=by rw [eb]; omega
   have:=gI h3 hxy
   omega
theorem oO {x y:List Int} (h1:¬ aQ x y < 0) (h2:¬ aQ y x < 0):x=y:=by
 rw [eb] at h2
 exact e7 (by omega)
abbrev hZ (l:List (List Int)):List (List Int):=dI aQ l
theorem zj:Cmp Tryz.prog av aQ (fun l=>Sh l) 64 [] where
 cells _:=rfl
 one _:=rfl
 dat v:=bf v
 dcaps:=by simp
 run x y hx hy:=ik x y hx hy
 ord:=lR
attribute [local irreducible] aB ag aR aO aF aH ay aJ aP aZ Go.Abs.Fn aM Go.Abs.Pure an aC Yl
def bT (l:List (List Int)) (p:List Int):List (List Int):=hZ (l.map fun v=>bn v p)
theorem oJ (l:List (List Int)) (p:List Int) (hp:b0 p=0) (hl:l.length ≤ 100000) (hv:∀ v ∈ l,v.length=p.length):Pure Tryz.prog 87 [aw l,av p] (aw (bT l p)):=by
 refine Pure.of_c2 follows z5 (Nat.le_of_ble_eq_true rfl) ?_
 simp only [b87,cO,cG,cN,cM,cD,cF,cB,au,aD]
 have hp5:=(eM hp).2.1
 (have zz:=and_self; repeat' (first | refine zW ?_ | apply a_n | refine zO ?_ | refine vZ ?_ | fail)) <;> (try clear zz)
 refine aW (X:=AV × Nat) (fun x=>[(1,av p),(5,x.1),(10,aw l),(11,.int .i64 l.length),(12,.int .i64 x.2)]) (fun x H nx=>x.2 ≤ l.length∧Row H 1 x.1 (((l.take x.2).map fun v=>bn v p).map av)∧(∀ b,cp x.1=some b→b < nx)∧(x.2=0→x.1=.esl)) (fun x=>l.length - x.2) (.esl,0) ⟨Nat.zero_le _,Row.nil,fun b hb=>(by cases hb),fun _=>rfl⟩ ag0 ?_
 rintro ⟨s,j⟩ H nx ⟨h1,h2,h3,h4⟩
 dsimp only at h1 h2 h3 h4 ⊢
 by_cases hj:j < l.length
 ·have hw:=aj hj
  have hvc:=sT (l.getD j default) p hp (hv _ hw)
  (have zz:=and_self; repeat' (first | refine zW ?_ | apply a_n | refine zO ?_ | refine vZ ?_ | refine cZ ?_ (hp:=hvc) | refine blZ ?_ | (refine zGZ ?_ ?_ <;> (intro _hg; try (exfalso; omega))) | fail)) <;> (try clear zz)
  refine fl rfl ev0 (h2.same fun b hb=>?_) ev0 jA rfl rfl Nat.one_pos (by simp; omega) (by simp; omega) ?_
  ·have:=h3 b hb
   rw [ab (by omega)]
  rintro s2 E e hrow hle1 hle2 hsame hb2
  (have zz:=and_self; repeat' (first | apply a_n | refine zO ?_ | refine vZ ?_ | fail)) <;> (try clear zz)
  refine ⟨(s2,j + 1),by dsimp only; omega,⟨by dsimp only; omega,?_,fun b hb=>?_,fun h=>absurd h (Nat.succ_ne_zero _)⟩,ag0⟩
  ·dsimp only
   rw [bx hj,List.map_append,List.map_append]
   exact hrow
  ·rcases hb2 b hb with h | h
   ·have:=h3 b h; omega
   ·omega
 ·rw [List.take_of_length_le (by omega)] at h2
  unfold bT
  generalize hL:(l.map fun v=>bn v p)=L at h2 ⊢
  have hLl:L.length=l.length:=by rw [← hL,List.length_map]
  have hLs:∀ x ∈ L,Sh x:=fun x hx=>by
   rw [← hL] at hx
   obtain ⟨v,hv2,rfl⟩:=List.mem_map.1 hx
   show (bn v p).length ≤ _
   rw [ck,hv v hv2]; omega
  rcases Nat.eq_zero_or_pos L.length with h0 | h0
  ·have e:=List.length_eq_zero_iff.1 h0
   subst e
   obtain rfl:s=.esl:=h4 (by simp at hLl; omega)
   (have zz:=and_self; repeat' (first | refine zW ?_ | apply a_n | apply a_x | refine zO ?_ | refine vZ ?_ | (refine zGZ ?_ ?_ <;> (intro _hg; try (exfalso; omega))) | fail)) <;> (try clear zz)
   refine az ev0 ev0 wq ?_
   rintro _ _ _ ⟨rfl,rfl⟩
   (have zz:=and_self; repeat' (first | refine zW ?_ | apply a_n | refine zO ?_ | refine vZ ?_ | refine aa rfl ?_ | refine r1Z ?_ | fail)) <;> (try clear zz)
   exact .eslsl 1
  have hrow:∃ B,s=.msl B L.length 1 0 L.length∧H B=some (L.map av)∧B < nx:=by
   generalize hcs:L.map av=cs at h2
   cases h2 with
   | nil =>
    rw [List.map_eq_nil_iff] at hcs
    rw [hcs] at h0; exact absurd h0 (Nat.lt_irrefl _)
   | box B len cs hb hl2 =>
    have e:len=L.length:=by rw [← hcs,List.length_map] at hl2; omega
    subst e
    exact ⟨B,by rw [Nat.mul_one],hb,h3 B rfl⟩
  obtain ⟨B,rfl,hB,hBn⟩:=hrow
  (have zz:=and_self; repeat' (first | refine zW ?_ | apply a_n | apply a_x | refine zO ?_ | refine vZ ?_ | (refine zGZ ?_ ?_ <;> (intro _hg; try (exfalso; omega))) | fail)) <;> (try clear zz)
  refine az ev0 ev0 (rG zj hB hBn rfl h0 hLs (by omega)) ?_
  rintro _ H1 n1 ⟨M,hps,hpM,hsM⟩
  have hMl:M.length=L.length:=hpM.length_eq
  have hM:M=hZ L:=f8 lR (fun x _ y _=>oO) (bX.of (by rw [hMl]; exact hsM)) hpM
  (have zz:=and_self; repeat' (first | refine zW ?_ | apply a_n | refine zO ?_ | refine vZ ?_ | refine aa rfl ?_ | refine r1Z ?_ | fail)) <;> (try clear zz)
  rw [← hM]
  exact sL hps.at_ rfl hMl
theorem rf {l:List (List Int)} {k:Nat} (h:k ≤ l.length):gp 1 (aw l) none (some (.int .i64 k)) none=some (aw (l.take k)):=by
 have h2:¬ ((k:Int) < 0):=by omega
 simp [gp,aw,bd,h]
theorem qZ {l:List (List Int)} {k:Nat} (h:k ≤ l.length):gp 1 (aw l) (some (.int .i64 k)) none none=some (aw (l.drop k)):=by
 have e:List.take l.length (l.map av)=l.map av:=List.take_of_length_le (by simp)
 simp [gp,aw,bd,h,e]
theorem nL (l:List (List Int)) (v:List Int) (hl:l.length ≤ 100000) (hv:Sh v) (hs:∀ x ∈ l,Sh x):Pure Tryz.prog 114 [aw l,av v] (aw (fR aQ l v)):=by
 refine Pure.of_c2 follows Ay (Nat.le_of_ble_eq_true rfl) ?_
 simp only [AR,cO,cG,cN,cM,cD,cF,cB,au,aD]
 have hle:=lj (K:=aQ) l v l.length
 unfold fR
 refine aA (fun T H nx=>T 0=aw l∧T 1=av v∧H=aL∧nx=0) ?_ ?_
 ·(have zz:=and_self; repeat' (first | apply a_n | refine zO ?_ | refine vZ ?_ | fail)) <;> (try clear zz)
  exact ⟨rfl,rfl,rfl,rfl⟩
 rintro T H nx ⟨t0,t1,rfl,rfl⟩
 refine aA (fun T H nx=>T 0=aw l∧T 1=av v∧T 5=.int .i64 l.length∧H=aL∧nx=0) ?_ ?_
 ·(have zz:=@t0; repeat' (first | apply a_n | refine zO ?_ | refine vZ ?_ | fail)) <;> (try clear zz)
  exact ⟨(have zz:=@t0; evZ),(have zz:=@t1; evZ),ev0,rfl,rfl⟩
 clear t0 t1
 rintro T H nx ⟨t0,t1,t5,rfl,rfl⟩
 refine aA (fun T H nx=>T 0=aw l∧T 1=av v∧T 5=.int .i64 (dU aQ l v l.length:Nat)∧H=aL∧nx=0) ?_ ?_
 ·(have zz:=and_self; repeat' (first | refine zW ?_ | apply a_n | refine zO ?_ | fail)) <;> (try clear zz)
  refine gr (X:=Nat) (fun k=>[(0,aw l),(1,av v),(5,.int .i64 (k:Nat))]) (fun k=>k ≤ l.length∧dU aQ l v l.length=dU aQ l v k) (fun k=>k) l.length ⟨Nat.le_refl _,rfl⟩ (have zz:=aI @t0 (aI @t1 @t5); agZ) ?_
  rintro k ⟨hk,he⟩
  rcases Nat.eq_zero_or_pos k with h0 | h0
  ·subst h0
   (have zz:=(show ((0:Nat):Int)=0 from rfl); repeat' (first | refine zW ?_ | apply a_n | apply a_x | refine zO ?_ | refine vZ ?_ | refine gFZ ?_ | (refine zGZ ?_ ?_ <;> (intro _hg; try (exfalso; omega))) | refine cFZ ?_ | fail)) <;> (try clear zz)
   exact ⟨rfl,rfl,by rw [he]; rfl,rfl,rfl⟩
  ·obtain ⟨q,rfl⟩:∃ q,k=q + 1:=⟨k - 1,by omega⟩
   have tq:((q + 1:Nat):Int) - 1=(q:Int):=by omega
   have hO:=gd v (l.getD q default) hv (hs _ (aj (by omega)))
   have hst:dU aQ l v (q + 1)=if aQ v (l.getD q default) < 0 then dU aQ l v q else q + 1:=rfl
   by_cases ho:aQ v (l.getD q default) < 0
   ·rw [if_pos ho] at hst
    have z:decide (aQ v (l.getD q default) < 0)=true:=decide_eq_true ho
    have zp:decide ((0:Int) < ((q + 1:Nat):Int))=true:=decide_eq_true (by omega)
    (have zz:=aI @tq (aI @Int.toNat_natCast (aI @z @zp)); repeat' (first | refine zW ?_ | apply a_n | refine zO ?_ | refine vZ ?_ | refine cZ ?_ (hp:=hO) | refine gTZ ?_ | refine cTZ ?_ | fail)) <;> (try clear zz)
    exact ⟨q,⟨by omega,he.trans hst⟩,by omega,(have zz:=@tq; agZ),rfl,rfl⟩
   ·rw [if_neg ho] at hst
    have z:decide (aQ v (l.getD q default) < 0)=false:=decide_eq_false ho
    have zp:decide ((0:Int) < ((q + 1:Nat):Int))=true:=decide_eq_true (by omega)
    (have zz:=aI @tq (aI @Int.toNat_natCast (aI @z @zp)); repeat' (first | refine zW ?_ | apply a_n | apply a_x | refine zO ?_ | refine vZ ?_ | refine cZ ?_ (hp:=hO) | refine gTZ ?_ | refine cFZ ?_ | fail)) <;> (try clear zz)
    exact ⟨rfl,rfl,by rw [he,hst]; ((try simp only [bo,ZA,reduceEqDiff,↓reduceIte,reduceAdd,reduceLeDiff]); (try with_reducible rfl)),rfl,rfl⟩
 clear t0 t1 t5
 rintro T H nx ⟨t0,t1,t5,rfl,rfl⟩
 generalize dU aQ l v l.length=k at *
 have s1:=rf (l:=l) hle
 have s2:=qZ (l:=l) hle
 have l1:(l.take k).length=k:=by rw [List.length_take]; omega
 have l2:(l.drop k).length=l.length - k:=by rw [List.length_drop]
 generalize l.take k=A at *
 generalize l.drop k=B at *
 (have zz:=aI @t0 (aI @t1 (aI @t5 (aI @s1 @s2))); repeat' (first | refine zW ?_ | apply a_n | refine zO ?_ | refine vZ ?_ | refine blZ ?_ | refine a0Z ?_ | fail)) <;> (try clear zz)
 have r1:Row (ah (ah aL 0 (A.map av)) (0 + 1) [av v]) 1 (.msl 0 A.length 1 0 A.length) (A.map av):=by
  have h:=Row.box (H:=ah (ah aL 0 (A.map av)) (0 + 1) [av v]) (sz:=1) 0 A.length (A.map av) (by rw [ab (by omega),ai]) (by simp)
  rwa [Nat.mul_one] at h
 refine fl rfl ev0 r1 ev0 jA rfl rfl Nat.one_pos (by simp; omega) (by simp; omega) ?_
 rintro sv2 H2 n2 r2 - - - -
 (have zz:=aI @t0 (aI @t1 (aI @t5 @s2)); repeat' (first | refine zW ?_ | apply a_n | refine zO ?_ | refine vZ ?_ | fail)) <;> (try clear zz)
 refine fl rfl ev0 r2 ev0 iV d9 (by simp) Nat.one_pos (by simp; omega) (by simp; omega) ?_
 rintro sv3 H3 n3 r3 - - - -
 (have zz:=and_self; repeat' (first | apply a_n | refine zO ?_ | refine vZ ?_ | refine aa rfl ?_ | refine r1Z ?_ | fail)) <;> (try clear zz)
 refine Row.snapV ?_
 have e:(A ++ v :: B).map av=(A.map av ++ [av v]) ++ B.map av:=by simp
 rw [e]
 exact r3
theorem nj (l:List (List Int)) (p:List Int) (hp:b0 p=0) (hl:l.length ≤ 100000) (hv:∀ v ∈ l,v.length=p.length):Pure Tryz.prog 124 [aw l,av p] (aw (bT l p)):=by
 refine Pure.of_c2 follows Af (Nat.le_of_ble_eq_true rfl) ?_
 simp only [zY,cO,cG,cN,cM,cD,cF,cB,au,aD]
 have hp5:=(eM hp).2.1
 (have zz:=and_self; repeat' (first | refine zW ?_ | apply a_n | refine zO ?_ | refine vZ ?_ | fail)) <;> (try clear zz)
 refine aW (X:=AV × Nat) (fun x=>[(0,aw l),(1,av p),(5,x.1),(6,.int .i64 x.2)]) (fun x H nx=>x.2 ≤ l.length∧∀ H',Snap H' x.1 (aw (hZ ((l.take x.2).map fun v=>bn v p)))) (fun x=>l.length - x.2) (.esl,0) ⟨Nat.zero_le _,fun _=>.eslsl 1⟩ ag0 ?_
 rintro ⟨s,k⟩ H nx ⟨hk,hsn⟩
 dsimp only at hk hsn ⊢
 by_cases hk2:k < l.length
 rotate_left
 ·rw [List.take_of_length_le (by omega)] at hsn
  (have zz:=and_self; repeat' (first | refine zW ?_ | apply a_n | apply a_x | refine zO ?_ | refine vZ ?_ | (refine zGZ ?_ ?_ <;> (intro _hg; try (exfalso; omega))) | refine aa rfl ?_ | refine r1Z ?_ | fail)) <;> (try clear zz)
  exact hsn _
 have hvl:=hv _ (aj hk2)
 have hm:=pH (l.getD k default) p hp hvl
 have hlen:(hZ ((l.take k).map fun v=>bn v p)).length ≤ 100000:=by
  rw [eS,List.length_map,List.length_take]; omega
 have hins:=nL (hZ ((l.take k).map fun v=>bn v p)) (bn (l.getD k default) p) hlen (by show (bn _ _).length ≤ _; rw [ck,hvl]; omega) (fun x hx=>by
  obtain ⟨v,hv2,rfl⟩:=List.mem_map.1 ((ca _).mem_iff.1 hx)
  show (bn _ _).length ≤ _
  rw [ck,hv v (List.mem_of_mem_take hv2)]; omega)
 have hst:hZ ((l.take (k + 1)).map fun v=>bn v p)=fR aQ (hZ ((l.take k).map fun v=>bn v p)) (bn (l.getD k default) p):=by
  rw [bx hk2,List.map_append]
  exact lM _ _
 rw [← hst] at hins
 (have zz:=and_self; repeat' (first | refine zW ?_ | apply a_n | refine zO ?_ | refine vZ ?_ | refine cZ ?_ (hp:=hm) | (refine zGZ ?_ ?_ <;> (intro _hg; try (exfalso; omega))) | fail)) <;> (try clear zz)
 refine bU ev0 ev0 hins (ao (ax (hsn _) (ax (bf _ _) af))) ?_
 (have zz:=and_self; repeat' (first | apply a_n | refine zO ?_ | refine vZ ?_ | fail)) <;> (try clear zz)
 exact ⟨(aw (hZ ((l.take (k + 1)).map fun v=>bn v p)),k + 1),by dsimp only; omega,⟨by dsimp only; omega,fun H'=>a7 _ H'⟩,ag0⟩
end Go.Proofs.YtjgpfclngkcedaaGreat
namespace Go.Proofs.YtjgpfclngkcedaaGreat
open Go Go.Abs
open Nat (reduceEqDiff reduceAdd reduceLeDiff)
def KC (c d:CaseV):Int:=aQ c.inp d.inp
def gA (p:List Int) (c:CaseV):CaseV:=⟨bn c.inp p,bT c.out p,bT c.calm p⟩
def dY (t:TaskV) (p:List Int):TaskV:=⟨t.n,t.ins,t.outs,dI KC (t.cases.map (gA p))⟩
def cz (t:TaskV) (p:List Int):TaskV × Int:=if a8 t ≠ 0 then (T00,a8 t) else if b0 p ≠ 0 then (T00,b0 p) else if (p.length:Int) ≠ t.n then (T00,22) else (dY t p,0)
theorem AQ:Ord KC where
 irr x:=lR.irr x.inp
 asym x y:=lR.asym x.inp y.inp
 negtr x y z:=lR.negtr x.inp y.inp z.inp
theorem tH (v p:List Int):bT [v] p=[bn v p]:=rfl
theorem sa {t:TaskV} {k:Nat} (h:a8 t=0) (hk:k < t.cases.length):((t.cases.getD k default).inp.length:Int)=t.n:=by
 have:=(jL ((fi h).2.2 k hk).1).1
 exact this
def mz (b1:Nat) (c1:List AV) (b2:Nat) (c2:List AV):Hp:=fun b=>if b=b1 then some c1 else if b=b2 then some c2 else none
theorem nB {H:Hp} {b1 b2:Nat} {c1 c2:List AV} (h1:H b1=some c1) (h2:H b2=some c2):Sub (mz b1 c1 b2 c2) H:=fun x c hx=>by
 unfold mz at hx
 split at hx
 ·cases hx; subst_vars; exact h1
 ·split at hx <;> cases hx
  subst_vars; exact h2
attribute [local irreducible] aB ag aR aO aF aH ay aJ aP aZ Go.Abs.Fn aM Go.Abs.Pure an aC Yl
theorem qO (x y:CaseV) (hx:ShC x) (hy:ShC y):Pure Tryz.prog 88 [bk x,bk y] (.int .i64 (KC x y)):=by
 refine Pure.of_c2 follows zq (Nat.le_of_ble_eq_true rfl) ?_
 simp only [b88,cO,cG,cN,cM,cD,cF,cB,au,aD]
 have hc:=ik x.inp y.inp hx.1 hy.1
 unfold bk KC
 (have zz:=and_self; repeat' (first | refine zW ?_ | apply a_n | refine zO ?_ | refine vZ ?_ | refine cZ ?_ (hp:=hc) | refine bxZ ?_ | refine aa rfl ?_ | refine r1Z ?_ | fail)) <;> (try clear zz)
 exact bb rfl
theorem Bv:Cmp3 Tryz.prog bk KC ShC 88 [] where
 len _:=rfl
 agg _:=rfl
 ones _:=rfl
 dat v:=lW v
 dcaps:=by simp
 run x y hx hy:=qO x y hx hy
 ord:=AQ
theorem ri {H:Hp} {B n:Nat} {M:List CaseV} (hB:H B=some (M.c3 bk)) (hM:M.length=n):Snap H (.msl B (n * 3) 3 0 n) (ba M):=by
 subst hM
 refine Row.snap (elems:=M.map bk) ?_ (fun y hy=>?_) (by omega) (fun y hy c hc=>?_)
 ·rw [List.flatMap_map]
  exact .box B M.length _ hB (aS (fun _=>rfl) M)
 ·obtain ⟨x,_,rfl⟩:=List.mem_map.1 hy; rfl
 ·obtain ⟨x,_,rfl⟩:=List.mem_map.1 hy
  simp only [bk,AV.cells,List.mem_cons,List.not_mem_nil,or_false] at hc
  rcases hc with rfl | rfl | rfl
  ·exact bf _
  ·exact a7 _
  ·exact a7 _
set_option maxHeartbeats 1000000 in
theorem th (t:TaskV) (p:List Int) (hs:∀ c ∈ t.cases,ShC c) (hsc:Sh t.cases) (hq:∀ c ∈ t.cases,c.out.length ≤ 100000∧c.calm.length ≤ 100000) (hl:Sh p):Pure Tryz.prog 33 [bt t,av p] (.tup [bt (cz t p).1,.int .i64 (cz t p).2]):=by
 refine Pure.of_c2 follows zX (Nat.le_of_ble_eq_true rfl) ?_
 simp only [b33,cO,cG,cN,cM,cD,cF,cB,au,aD]
 have hl':p.length ≤ 17592186044416:=hl
 have hsc':t.cases.length ≤ 17592186044416:=hsc
 have hc:=oB t hs hsc
 have hpc:=kB p hl
 have d2:=bW t
 by_cases he:a8 t=0
 rotate_left
 ·have e:cz t p=(T00,a8 t):=by unfold cz; rw [if_pos he]
  rw [e]
  generalize a8 t=C at *
  unfold bt at hc d2
  rw [show bt t=.agg [.int .i64 t.n,.int .i64 t.ins,.int .i64 t.outs,ba t.cases] from rfl]
  (have zz:=aI @ak (aI @ae @ap); repeat' (first | refine zW ?_ | apply a_n | apply a_r | refine zO ?_ | refine vZ ?_ | refine cZ ?_ (hp:=hc) | refine alZ ?_ | refine bxZ ?_ | refine stZ ?_ | (refine zGZ ?_ ?_ <;> (intro _hg; try (exfalso; omega))) | refine aa rfl ?_ | refine r2Z ?_ | fail)) <;> (try clear zz)
  exact dj _
 rw [he] at hc
 by_cases hp:b0 p=0
 rotate_left
 ·have e:cz t p=(T00,b0 p):=by unfold cz; rw [if_neg (fun h=>h he),if_pos hp]
  rw [e]
  generalize b0 p=C at *
  unfold bt at hc d2
  rw [show bt t=.agg [.int .i64 t.n,.int .i64 t.ins,.int .i64 t.outs,ba t.cases] from rfl]
  (have zz:=aI @ak (aI @ae @ap); repeat' (first | refine zW ?_ | apply a_n | apply a_r | refine zO ?_ | refine vZ ?_ | refine cZ ?_ (hp:=by first | exact hc | exact hpc) | refine alZ ?_ | refine bxZ ?_ | refine stZ ?_ | (refine zGZ ?_ ?_ <;> (intro _hg; try (exfalso; omega))) | refine aa rfl ?_ | refine r2Z ?_ | fail)) <;> (try clear zz)
  exact dj _
 rw [hp] at hpc
 by_cases hn:(p.length:Int) ≠ t.n
 ·have e:cz t p=(T00,22):=by unfold cz; rw [if_neg (fun h=>h he),if_neg (fun h=>h hp),if_pos hn]
  rw [e]
  have z:decide ((p.length:Int)=t.n)=false:=decide_eq_false hn
  unfold bt at hc d2
  rw [show bt t=.agg [.int .i64 t.n,.int .i64 t.ins,.int .i64 t.outs,ba t.cases] from rfl]
  (have zz:=aI @ak (aI @ae (aI @ap @z)); repeat' (first | refine zW ?_ | apply a_n | apply a_r | refine zO ?_ | refine vZ ?_ | refine cZ ?_ (hp:=by first | exact hc | exact hpc) | refine alZ ?_ | refine bxZ ?_ | refine stZ ?_ | (refine zGZ ?_ ?_ <;> (intro _hg; try (exfalso; omega))) | refine aa rfl ?_ | refine r2Z ?_ | fail)) <;> (try clear zz)
  exact dj _
 have e:cz t p=(dY t p,0):=by unfold cz; rw [if_neg (fun h=>h he),if_neg (fun h=>h hp),if_neg hn]
 rw [e]
 have hn:(p.length:Int)=t.n:=Decidable.of_not_not hn
 obtain ⟨p1,p5,-,-⟩:=eM hp
 have z:decide ((p.length:Int)=t.n)=true:=decide_eq_true hn
 have hcl:=(fi he).2.1
 have hren:∀ k,k < t.cases.length→(t.cases.getD k default).inp.length=p.length∧(∀ v ∈ (t.cases.getD k default).out,v.length=p.length)∧(∀ v ∈ (t.cases.getD k default).calm,v.length=p.length):=fun k hk=>by
  have h1:=sa he hk
  obtain ⟨_,h2,h3⟩:=nq he hk
  exact ⟨by omega,fun v hv=>by have:=(h2 v hv).1; omega,fun v hv=>by have:=(h2 v (h3 v hv)).1; omega⟩
 generalize hA:[.int .i64 t.n,.int .i64 t.ins,.int .i64 t.outs,ba t.cases]=A
 have hTA:bt t=.agg A:=by rw [← hA]; rfl
 rw [hTA] at hc d2 ⊢
 refine aA (fun T H nx=>T 1=av p∧T 2=.ptr 0 4 0∧T 4=.ptr 1 4 0∧T 5=.int .i64 0∧H=ah (ah aL 0 A) 1 [.int .i64 0,.int .i64 0,.int .i64 0,.esl]∧nx=2) ?_ ?_
 ·subst hA
  (have zz:=aI @ak @ae; repeat' (first | apply a_n | refine zO ?_ | refine vZ ?_ | refine alZ ?_ | refine bxZ ?_ | fail)) <;> (try clear zz)
  exact ⟨rfl,rfl,rfl,rfl,rfl,rfl⟩
 rintro T H nx ⟨t1,t2,t4,t5,rfl,rfl⟩
 refine aA (fun T H nx=>T 1=av p∧T 2=.ptr 0 4 0∧T 4=.ptr 1 4 0∧T 5=.int .i64 0∧H=ah (ah aL 0 A) 1 [.int .i64 0,.int .i64 0,.int .i64 0,.esl]∧nx=2) ?_ ?_
 ·subst hA
  (have zz:=aI @t1 (aI @t2 (aI @t4 @t5)); repeat' (first | refine zW ?_ | apply a_n | refine zO ?_ | refine vZ ?_ | refine cZ ?_ (hp:=hc) | (refine zGZ ?_ ?_ <;> (intro _hg; try (exfalso; omega))) | fail)) <;> (try clear zz)
  exact ⟨(have zz:=aI @t1 (aI @t2 (aI @t4 @t5)); evZ),(have zz:=aI @t1 (aI @t2 (aI @t4 @t5)); evZ),(have zz:=aI @t1 (aI @t2 (aI @t4 @t5)); evZ),(have zz:=aI @t1 (aI @t2 (aI @t4 @t5)); evZ),rfl,rfl⟩
 clear t1 t2 t4 t5
 rintro T H nx ⟨t1,t2,t4,t5,rfl,rfl⟩
 refine aA (fun T H nx=>T 1=av p∧T 2=.ptr 0 4 0∧T 4=.ptr 1 4 0∧T 5=.int .i64 0∧H=ah (ah aL 0 A) 1 [.int .i64 0,.int .i64 0,.int .i64 0,.esl]∧nx=2) ?_ ?_
 ·(have zz:=aI @t1 (aI @t2 (aI @t4 @t5)); repeat' (first | refine zW ?_ | apply a_n | refine zO ?_ | refine vZ ?_ | refine cZ ?_ (hp:=hpc) | (refine zGZ ?_ ?_ <;> (intro _hg; try (exfalso; omega))) | fail)) <;> (try clear zz)
  exact ⟨(have zz:=aI @t1 (aI @t2 (aI @t4 @t5)); evZ),(have zz:=aI @t1 (aI @t2 (aI @t4 @t5)); evZ),(have zz:=aI @t1 (aI @t2 (aI @t4 @t5)); evZ),(have zz:=aI @t1 (aI @t2 (aI @t4 @t5)); evZ),rfl,rfl⟩
 clear t1 t2 t4 t5
 rintro T H nx ⟨t1,t2,t4,t5,rfl,rfl⟩
 refine aA (fun T H nx=>T 1=av p∧T 2=.ptr 0 4 0∧T 4=.ptr 1 4 0∧T 5=.int .i64 0∧H=ah (ah aL 0 A) 1 [.int .i64 0,.int .i64 0,.int .i64 0,.esl]∧nx=2) ?_ ?_
 ·subst hA
  (have zz:=aI @t1 (aI @t2 (aI @t4 (aI @t5 @z))); repeat' (first | refine zW ?_ | apply a_n | refine zO ?_ | refine vZ ?_ | (refine zGZ ?_ ?_ <;> (intro _hg; try (exfalso; omega))) | fail)) <;> (try clear zz)
  exact ⟨(have zz:=aI @t1 (aI @t2 (aI @t4 @t5)); evZ),(have zz:=aI @t1 (aI @t2 (aI @t4 @t5)); evZ),(have zz:=aI @t1 (aI @t2 (aI @t4 @t5)); evZ),(have zz:=aI @t1 (aI @t2 (aI @t4 @t5)); evZ),rfl,rfl⟩
 clear t1 t2 t4 t5
 rintro T H nx ⟨t1,t2,t4,t5,rfl,rfl⟩
 refine aA (fun T H nx=>T 1=av p∧T 2=.ptr 0 4 0∧T 4=.ptr 1 4 0∧T 8=.ptr 2 4 0∧H 0=some A∧H 1=some [.int .i64 0,.int .i64 0,.int .i64 0,.esl]∧H 2=some [.int .i64 t.n,.int .i64 t.ins,.int .i64 t.outs,.esl]∧nx=3) ?_ ?_
 ·subst hA
  (have zz:=aI @t1 (aI @t2 (aI @t4 @t5)); repeat' (first | apply a_n | refine zO ?_ | refine vZ ?_ | refine alZ ?_ | refine stZ ?_ | fail)) <;> (try clear zz)
  exact ⟨(have zz:=aI @t1 (aI @t2 (aI @t4 @t5)); evZ),(have zz:=aI @t1 (aI @t2 (aI @t4 @t5)); evZ),(have zz:=aI @t1 (aI @t2 (aI @t4 @t5)); evZ),(have zz:=aI @t1 (aI @t2 (aI @t4 @t5)); evZ),rfl,rfl,rfl,rfl⟩
 clear t1 t2 t4 t5
 rintro T H nx ⟨t1,t2,t4,t8,g0,g1,g2,rfl⟩
 generalize hL:t.cases.map (gA p)=L
 have hLl:L.length=t.cases.length:=by rw [← hL,List.length_map]
 refine aA (fun T H nx=>T 4=.ptr 1 4 0∧T 8=.ptr 2 4 0∧3 ≤ nx∧H 1=some [.int .i64 0,.int .i64 0,.int .i64 0,.esl]∧∃ sv,H 2=some [.int .i64 t.n,.int .i64 t.ins,.int .i64 t.outs,sv]∧Row H 3 sv (L.c3 bk)∧∀ b,cp sv=some b→3 ≤ b∧b < nx) ?_ ?_
 ·subst hA
  (have zz:=aI @t2 (aI @g0 @ap); repeat' (first | refine zW ?_ | apply a_n | refine zO ?_ | refine vY ?_ | fail)) <;> (try clear zz)
  refine aW (X:=AV × Nat) (fun x=>[(1,av p),(2,.ptr 0 4 0),(4,.ptr 1 4 0),(8,.ptr 2 4 0),(37,ba t.cases),(38,.int .i64 t.cases.length),(39,.int .i64 x.2)]) (fun x H nx=>x.2 ≤ t.cases.length∧3 ≤ nx∧H 1=some [.int .i64 0,.int .i64 0,.int .i64 0,.esl]∧H 2=some [.int .i64 t.n,.int .i64 t.ins,.int .i64 t.outs,x.1]∧Row H 3 x.1 (((t.cases.take x.2).map (gA p)).c3 bk)∧∀ b,cp x.1=some b→3 ≤ b∧b < nx) (fun x=>t.cases.length - x.2) (.esl,0) ⟨Nat.zero_le _,Nat.le_refl _,g1,g2,Row.nil,fun b hb=>(by cases hb)⟩ (have zz:=aI @t1 (aI @t2 (aI @t4 @t8)); agZ) ?_
  rintro ⟨sv,k⟩ H nx ⟨hk,hnx,k1,k2,hrow,hb⟩
  dsimp only at hk k2 hrow hb ⊢
  by_cases hk2:k < t.cases.length
  rotate_left
  ·rw [List.take_of_length_le (by omega),hL] at hrow
   (have zz:=and_self; repeat' (first | refine zW ?_ | apply a_n | apply a_x | refine zO ?_ | refine vZ ?_ | (refine zGZ ?_ ?_ <;> (intro _hg; try (exfalso; omega))) | fail)) <;> (try clear zz)
   exact ⟨rfl,rfl,hnx,k1,sv,k2,hrow,hb⟩
  have ix:=a9 hk2
  obtain ⟨r1,r2,r3⟩:=hren k hk2
  obtain ⟨q1,q2⟩:=hq _ (aj hk2)
  have hst:((t.cases.take (k + 1)).map (gA p)).c3 bk=((t.cases.take k).map (gA p)).c3 bk ++ (bk (gA p (t.cases.getD k default))).cells:=by
   rw [bx hk2,List.map_append]
   simp [List.c3]
  have hlen:(((t.cases.take k).map (gA p)).c3 bk).length=k * 3:=by
   rw [aS (fun _=>rfl),List.length_map,List.length_take]; omega
  generalize t.cases.getD k default=c at *
  obtain ⟨inp,out,calm⟩:=c
  dsimp only at *
  have m1:=oJ [inp] p hp (by simp) (fun v hv=>by simp at hv; subst hv; exact r1)
  rw [tH] at m1
  have m2:=oJ out p hp q1 r2
  have m3:=oJ calm p hp q2 r3
  (have zz:=@ix; repeat' (first | refine zW ?_ | apply a_n | refine zO ?_ | refine vY ?_ | refine alY ?_ | refine stY ?_ | (refine zGY ?_ ?_ <;> (intro _hg; try (exfalso; omega))) | fail)) <;> (try clear zz)
  refine qY (mz 2 [.int .i64 t.n,.int .i64 t.ins,.int .i64 t.outs,sv] nx [av inp,aw out,aw calm]) rfl (nB (by rw [ab (by omega),ab (by omega)]; exact k2) (by rw [ai]; rfl)) ?_
  have hS2:mz 2 [.int .i64 t.n,.int .i64 t.ins,.int .i64 t.outs,sv] nx [av inp,aw out,aw calm] 2=some [.int .i64 t.n,.int .i64 t.ins,.int .i64 t.outs,sv]:=if_pos rfl
  have hSn:mz 2 [.int .i64 t.n,.int .i64 t.ins,.int .i64 t.outs,sv] nx [av inp,aw out,aw calm] nx=some [av inp,aw out,aw calm]:=by unfold mz; rw [if_neg (by omega),if_pos rfl]
  generalize hSS:mz 2 [.int .i64 t.n,.int .i64 t.ins,.int .i64 t.outs,sv] nx [av inp,aw out,aw calm]=S at hS2 hSn ⊢
  have hSub:∀ H',H' 2=some [.int .i64 t.n,.int .i64 t.ins,.int .i64 t.outs,sv]→H' nx=some [av inp,aw out,aw calm]→Sub S H':=fun H' a1 a2=>by rw [← hSS]; exact nB a1 a2
  have hB2:ah (ah H nx [.esl,.esl,.esl]) nx (bg [.esl,.esl,.esl] 0 [av inp,aw out,aw calm]) 2=some [.int .i64 t.n,.int .i64 t.ins,.int .i64 t.outs,sv]:=by rw [ab (by omega),ab (by omega)]; exact k2
  have hBn:ah (ah H nx [.esl,.esl,.esl]) nx (bg [.esl,.esl,.esl] 0 [av inp,aw out,aw calm]) nx=some [av inp,aw out,aw calm]:=by rw [ai]; rfl
  (have zz:=aI @hS2 @hSn; repeat' (first | apply a_n | refine zO ?_ | refine nvY ?_ | fail)) <;> (try clear zz)
  refine z0 (pv:=[(0,1,av inp)]) (cs:=[av inp]) ev0 rfl (by decide) rfl rfl ?_
  (have zz:=aI @hS2 @hSn; repeat' (first | apply a_n | refine zO ?_ | refine nvY ?_ | fail)) <;> (try clear zz)
  refine eZ ?_
  refine bU ev0 (by ((try simp only [bo,ZA,reduceEqDiff,↓reduceIte,reduceAdd,reduceLeDiff]); (try with_reducible rfl)); rfl) m1 (ao (ax (a7 [inp] _) (ax (bf _ _) af))) ?_
  refine jb ⟨hSub _ hB2 hBn,?_⟩
  have ix1:gb 1 (aw [bn inp p]) (.int .i64 0)=some (.iptr [av (bn inp p)] 0):=rfl
  (have zz:=aI @hS2 (aI @hSn @ix1); repeat' (first | apply a_n | refine zO ?_ | refine nvY ?_ | fail)) <;> (try clear zz)
  refine eZ ?_
  refine bU ev0 ev0 m2 (ao (ax (a7 _ _) (ax (bf _ _) af))) ?_
  refine jb ⟨hSub _ hB2 hBn,?_⟩
  refine eZ ?_
  refine bU ev0 ev0 m3 (ao (ax (a7 _ _) (ax (bf _ _) af))) ?_
  refine jb ⟨hSub _ hB2 hBn,?_⟩
  (have zz:=aI @hS2 @hSn; repeat' (first | apply a_n | refine zO ?_ | refine nvY ?_ | fail)) <;> (try clear zz)
  refine eZ ?_
  (have zz:=and_self; repeat' (first | apply a_n | refine zO ?_ | refine blY ?_ | fail)) <;> (try clear zz)
  refine ⟨hSub _ (by rw [ab (by omega)]; exact hB2) (by rw [ab (by omega)]; exact hBn),?_⟩
  (have zz:=aI @hS2 @hSn; repeat' (first | apply a_n | refine zO ?_ | apply mW | fail)) <;> (try clear zz)
  refine fl rfl ev0 (hrow.same fun b' hb'=>?_) ev0 ec rfl rfl (by omega) (by rw [hlen]; omega) (by rw [hlen]; omega) ?_
  ·have:=hb b' hb'
   rw [ab (by omega),ab (by omega),ab (by omega)]
  rintro sv' H2 nx2 u1 u2 u3 u4 u5
  have v1:∀ x,x < nx→cp sv ≠ some x→H2 x=H x:=fun x a1 a2=>(u4 x (by omega) a2).trans (by rw [ab (by omega),ab (by omega),ab (by omega)])
  have g2':H2 2=some [.int .i64 t.n,.int .i64 t.ins,.int .i64 t.outs,sv]:=(v1 2 (by omega) (fun h=>by have:=hb 2 h; omega)).trans k2
  obtain ⟨q1',q2'⟩:=u1.one
  have ub:∀ b',cp sv'=some b'→3 ≤ b'∧b' < nx2:=fun b' hb'=>by
   rcases u5 b' hb' with e | ⟨e1,e2⟩
   ·have:=hb b' e; omega
   ·omega
  (have zz:=aI @hS2 (aI @hSn (aI @g2' (aI @q1' @q2'))); repeat' (first | apply a_n | refine zO ?_ | refine vY ?_ | refine nvY ?_ | apply mW | refine stY ?_ | fail)) <;> (try clear zz)
  refine ⟨(sv',k + 1),by dsimp only; omega,⟨by dsimp only; omega,by omega,?_,?_,?_,fun b' hb'=>ub b' hb'⟩,ag0⟩
  ·rw [ab (by omega)]
   exact (v1 1 (by omega) (fun h=>by have:=hb 1 h; omega)).trans k1
  ·rw [ai]; rfl
  ·dsimp only
   rw [hst]
   exact u1.same fun b' hb'=>ab (by have:=ub b' hb'; omega)
 clear t1 t2 t4 t8 g0 g1 g2
 rintro T H nx ⟨t4,t8,hnx,g1,sv,g2,hrow,hb⟩
 have hLs:∀ x ∈ L,ShC x:=fun x hx=>by
  rw [← hL] at hx
  obtain ⟨c,hc2,rfl⟩:=List.mem_map.1 hx
  obtain ⟨i,hi,rfl⟩:=List.getElem_of_mem hc2
  have hr:=hren i hi
  have hqq:=hq _ hc2
  rw [show t.cases.getD i default=t.cases[i] by simp [List.getD,hi]] at hr
  generalize t.cases[i]=c at *
  refine ⟨?_,?_,fun v hv=>?_,?_,fun v hv=>?_⟩
  ·show (bn c.inp p).length ≤ _; rw [ck,hr.1]; omega
  ·show (bT c.out p).length ≤ _; unfold bT; rw [eS,List.length_map]; omega
  ·obtain ⟨w,hw,rfl⟩:=List.mem_map.1 ((ca _).mem_iff.1 hv)
   show (bn w p).length ≤ _; rw [ck,hr.2.1 w hw]; omega
  ·show (bT c.calm p).length ≤ _; unfold bT; rw [eS,List.length_map]; omega
  ·obtain ⟨w,hw,rfl⟩:=List.mem_map.1 ((ca _).mem_iff.1 hv)
   show (bn w p).length ≤ _; rw [ck,hr.2.2 w hw]; omega
 have hrow':∃ B,sv=.msl B (L.length * 3) 3 0 L.length∧H B=some (L.c3 bk)∧3 ≤ B∧B < nx:=by
  generalize hcs:L.c3 bk=cs at hrow
  have hcl3:(L.c3 bk).length=L.length * 3:=aS (fun _=>rfl) L
  cases hrow with
  | nil=>rw [hcs] at hcl3; simp at hcl3; omega
  | box B len cs h1 h2 =>
   have e:len=L.length:=by rw [← hcs,hcl3] at h2; omega
   subst e
   have:=hb B rfl
   exact ⟨B,rfl,h1,this⟩
 obtain ⟨B,rfl,hB,hB3,hBn⟩:=hrow'
 (have zz:=aI @t8 @g2; repeat' (first | refine zW ?_ | apply a_n | refine zO ?_ | refine vY ?_ | fail)) <;> (try clear zz)
 refine az ev0 (have zz:=aI @t8 @g2; evY) (wH Bv hB hBn rfl (by omega) hLs (by omega)) ?_
 rintro _ H1 n1 ⟨M,hps,hpM,hsM⟩
 have hMl:M.length=L.length:=hpM.length_eq
 have hM:M=dI KC L:=f8 AQ (fun x hx y hy h1 h2=>by
  rw [← hL] at hx hy
  obtain ⟨c,hc2,rfl⟩:=List.mem_map.1 hx
  obtain ⟨d,hd2,rfl⟩:=List.mem_map.1 hy
  obtain ⟨i,hi,rfl⟩:=List.getElem_of_mem hc2
  obtain ⟨j,hj,rfl⟩:=List.getElem_of_mem hd2
  have e:=oO h1 h2
  have ei:t.cases.getD i default=t.cases[i]:=by simp [List.getD,hi]
  have ej:t.cases.getD j default=t.cases[j]:=by simp [List.getD,hj]
  have e2:=sJ hp (by rw [← ei]; exact (hren i hi).1) (by rw [← ej]; exact (hren j hj).1) e
  have:=wz he hi hj (by rw [ei,ej]; exact e2)
  subst this; rfl) (bX.of (by rw [hMl]; exact hsM)) hpM
 have j2:H1 2=some [.int .i64 t.n,.int .i64 t.ins,.int .i64 t.outs,.msl B (L.length * 3) 3 0 L.length]:=(hps.fr 2 (by omega) (by omega)).trans g2
 have j1:H1 1=some [.int .i64 0,.int .i64 0,.int .i64 0,.esl]:=(hps.fr 1 (by omega) (by omega)).trans g1
 (have zz:=aI @t4 (aI @t8 (aI @j1 @j2)); repeat' (first | refine zW ?_ | apply a_n | refine zO ?_ | refine vY ?_ | refine stY ?_ | refine aa rfl ?_ | refine r2Y ?_ | fail)) <;> (try clear zz)
 have hren2:dY t p=⟨t.n,t.ins,t.outs,M⟩:=by unfold dY; rw [hL,hM]
 rw [hren2]
 refine er (ax (jB (ax (.int _ _) (ax (.int _ _) (ax (.int _ _) (ax ?_ af))))) (ax (.int _ _) af))
 exact ri (by rw [ab (by omega)]; exact hps.at_) hMl
end Go.Proofs.YtjgpfclngkcedaaGreat
namespace Go.Proofs.YtjgpfclngkcedaaGreat
open Go Go.Abs
open Nat (reduceEqDiff reduceAdd reduceLeDiff)
section
variable {P:Program} {T:Tm} {H:Hp} {nx:Nat}
theorem oA {dm:DM} {K:SP} {l:List Op2} {d:Option Nat} {sz bytes n:Nat} {s x:Opd} {v:AV} {new cs:List AV} {b m len:Nat} (hd:dm2 dm T (.app sz bytes s x)=true) (hs:ov T s=.msl b m sz 0 len) (hb:H b=some cs) (hx:ov T x=v) (hsrc:b7 sz H v=some (n,new)) (ho:AV.ones new=true) (hm:cs.length=m) (hl:len * sz ≤ m) (hg:m=len * sz ∨ m < (len + n) * sz)
    (h1:(len + n) * bytes ≤ 140737488355328) (h2:len + n ≤ 9223372036854775807)
    (k:ag P dm l (aG T d (.msl b ((len + n) * sz) sz 0 (len + n))) (ah H b (cs.take (len * sz) ++ new)) nx K):ag P dm (⟨d,none,.app sz bytes s x⟩ :: l) T H nx K:=by
 by_cases e:m=len * sz
 ·refine wT hd hs hb hx hsrc ho hm e h1 h2 ?_
  rwa [List.take_of_length_le (by omega)] at k
 ·exact zd hd hs hb hx hsrc ho hm (by omega) (by omega) h1 h2 k
end
theorem wv {b j k:Nat} (h:k < j):gp 3 (.msl b (j * 3) 3 0 j) (some (.int .i64 k)) none none=some (.msl b (j * 3) 3 (k * 3) (j - k)):=by
 simp only [gp,bd,Int.natCast_nonneg,if_true,Int.toNat_natCast]
 rw [if_pos ⟨trivial,by omega,Nat.le_refl _,by omega⟩,if_pos (.inr h),Nat.zero_add]
theorem ul {b j:Nat} (h:0 < j):gp 3 (.msl b (j * 3) 3 0 j) (some (.int .i64 j)) none none=some (.sl 3 []):=by
 simp only [gp,bd,Int.natCast_nonneg,if_true,Int.toNat_natCast]
 rw [if_pos ⟨trivial,by omega,Nat.le_refl _,by omega⟩,if_neg (by omega)]
theorem vP {b j k:Nat} (h:k ≤ j) (h0:0 < j):gp 3 (.msl b (j * 3) 3 0 j) none (some (.int .i64 k)) none=some (.msl b (j * 3) 3 0 k):=by
 simp only [gp,bd,Int.natCast_nonneg,if_true,Int.toNat_natCast]
 rw [if_pos ⟨trivial,by omega,h,by omega⟩,if_pos (.inl trivial),Nat.zero_mul,Nat.sub_zero]
theorem xY {C:List CaseV} {q:Nat} (hq:q < C.length):(C.c3 bk)[q * 3]?=some (av (C.getD q default).inp):=by
 have h:=rdC (f:=bk) (fun _=>rfl) C q hq
 have e:((C.c3 bk).drop (q * 3))[0]?=some (av (C.getD q default).inp):=by
  have:(((C.c3 bk).drop (q * 3)).take 3)[0]?=some (av (C.getD q default).inp):=by rw [h]; rfl
  rw [List.getElem?_take,if_pos (by omega)] at this
  exact this
 rw [List.getElem?_drop,Nat.add_zero] at e
 exact e
theorem jW {H:Hp} {sv:AV} {M:List CaseV} (h:Row H 3 sv (M.c3 bk)):Snap H sv (ba M):=by
 refine Row.snap (elems:=M.map bk) (by rw [List.flatMap_map]; exact h) (fun y hy=>?_) (by omega) (fun y hy c hc=>?_)
 ·obtain ⟨x,_,rfl⟩:=List.mem_map.1 hy; rfl
 ·obtain ⟨x,_,rfl⟩:=List.mem_map.1 hy
  simp only [bk,AV.cells,List.mem_cons,List.not_mem_nil,or_false] at hc
  rcases hc with rfl | rfl | rfl
  ·exact bf _
  ·exact a7 _
  ·exact a7 _
theorem ry (M:List CaseV):AV.ones (M.c3 bk)=true:=by
 unfold AV.ones
 rw [List.all_eq_true]
 intro y hy
 obtain ⟨x,_,hx⟩:=List.mem_flatMap.1 hy
 simp only [bk,AV.cells,List.mem_cons,List.not_mem_nil,or_false] at hx
 rcases hx with rfl | rfl | rfl <;> rfl
theorem sk {cs xs:List AV} {a:Nat} (ha:a ≤ cs.length) (hx:xs.length=3):(bg cs a xs).take (a + 3)=cs.take a ++ xs:=by
 have e:a + 3=(cs.take a ++ xs).length:=by rw [List.length_append,List.length_take,hx]; omega
 simp only [bg]
 rw [e,List.take_append_of_le_length (Nat.le_refl _),List.take_of_length_le (Nat.le_refl _)]
theorem yq (A B:List CaseV):(A ++ B).c3 bk=A.c3 bk ++ B.c3 bk:=List.flatMap_append
attribute [local irreducible] aB ag aR aO aF aH ay aJ aP aZ Go.Abs.Fn aM Go.Abs.Pure an aC Yl
set_option maxHeartbeats 1000000 in
theorem uY (t:TaskV) (p:List Int) (hp:b0 p=0) (hren:∀ k,k < t.cases.length→(t.cases.getD k default).inp.length=p.length∧(∀ v ∈ (t.cases.getD k default).out,v.length=p.length)∧(∀ v ∈ (t.cases.getD k default).calm,v.length=p.length)) (hcl:t.cases.length ≤ 100000) (hq:∀ c ∈ t.cases,c.out.length ≤ 100000∧c.calm.length ≤ 100000):Pure Tryz.prog 81 [bt t,av p] (bt (dY t p)):=by
 refine Pure.of_c2 follows AZ (Nat.le_of_ble_eq_true rfl) ?_
 simp only [b81,cO,cG,cN,cM,cD,cF,cB,au,aD]
 have d2:=bW t
 obtain ⟨p1,p5,-,-⟩:=eM hp
 generalize hA:[.int .i64 t.n,.int .i64 t.ins,.int .i64 t.outs,ba t.cases]=A
 have hTA:bt t=.agg A:=by rw [← hA]; rfl
 rw [hTA]
 refine aA (fun T H nx=>T 1=av p∧T 2=.ptr 0 4 0∧T 4=.ptr 1 4 0∧H=ah (ah aL 0 A) 1 [.int .i64 0,.int .i64 0,.int .i64 0,.esl]∧nx=2) ?_ ?_
 ·subst hA
  (have zz:=aI @ak @ae; repeat' (first | apply a_n | refine zO ?_ | refine alZ ?_ | refine bxZ ?_ | fail)) <;> (try clear zz)
  exact ⟨rfl,rfl,rfl,rfl,rfl⟩
 rintro T H nx ⟨t1,t2,t4,rfl,rfl⟩
 refine aA (fun T H nx=>T 1=av p∧T 2=.ptr 0 4 0∧T 4=.ptr 1 4 0∧T 5=.ptr 2 4 0∧H 0=some A∧H 1=some [.int .i64 0,.int .i64 0,.int .i64 0,.esl]∧H 2=some [.int .i64 t.n,.int .i64 t.ins,.int .i64 t.outs,.esl]∧nx=3) ?_ ?_
 ·subst hA
  (have zz:=aI @t1 (aI @t2 @t4); repeat' (first | apply a_n | refine zO ?_ | refine vZ ?_ | refine alZ ?_ | refine stZ ?_ | fail)) <;> (try clear zz)
  exact ⟨(have zz:=aI @t1 (aI @t2 @t4); evZ),(have zz:=aI @t1 (aI @t2 @t4); evZ),(have zz:=aI @t1 (aI @t2 @t4); evZ),(have zz:=aI @t1 (aI @t2 @t4); evZ),rfl,rfl,rfl,rfl⟩
 clear t1 t2 t4
 rintro T H nx ⟨t1,t2,t4,t5,g0,g1,g2,rfl⟩
 refine aA (fun T H nx=>T 4=.ptr 1 4 0∧T 5=.ptr 2 4 0∧3 ≤ nx∧H 1=some [.int .i64 0,.int .i64 0,.int .i64 0,.esl]∧∃ sv,H 2=some [.int .i64 t.n,.int .i64 t.ins,.int .i64 t.outs,sv]∧Row H 3 sv ((dY t p).cases.c3 bk)∧∀ b,cp sv=some b→3 ≤ b) ?_ ?_
 rotate_left
 ·clear t1 t2 t4 t5 g0 g1 g2
  rintro T H nx ⟨t4,t5,hnx,g1,sv,g2,hrow,hb⟩
  obtain ⟨q1,q2⟩:=hrow.one
  (have zz:=aI @t4 (aI @t5 (aI @g1 (aI @g2 (aI @q1 @q2)))); repeat' (first | refine zW ?_ | apply a_n | refine zO ?_ | refine vY ?_ | refine stY ?_ | refine aa rfl ?_ | refine r1Y ?_ | fail)) <;> (try clear zz)
  refine jB (ax (.int _ _) (ax (.int _ _) (ax (.int _ _) (ax ?_ af))))
  exact jW (hrow.same fun b hb'=>ab (by have:=hb b hb'; omega))
 (have zz:=aI @t1 (aI @t2 (aI @t4 @t5)); repeat' (first | refine zW ?_ | apply a_n | refine zO ?_ | refine vY ?_ | fail)) <;> (try clear zz)
 refine aW (X:=AV × Nat) (fun x=>[(1,av p),(2,.ptr 0 4 0),(4,.ptr 1 4 0),(5,.ptr 2 4 0),(6,.int .i64 x.2)]) (fun x H nx=>x.2 ≤ t.cases.length∧3 ≤ nx∧H 0=some A∧H 1=some [.int .i64 0,.int .i64 0,.int .i64 0,.esl]∧H 2=some [.int .i64 t.n,.int .i64 t.ins,.int .i64 t.outs,x.1]∧Row H 3 x.1 ((dI KC ((t.cases.take x.2).map (gA p))).c3 bk)∧(∀ b,cp x.1=some b→3 ≤ b∧b < nx)∧(x.2=0→x.1=.esl)) (fun x=>t.cases.length - x.2) (.esl,0) ⟨Nat.zero_le _,Nat.le_refl _,g0,g1,g2,Row.nil,fun b hb=>(by cases hb),fun _=>rfl⟩ (have zz:=aI @t1 (aI @t2 (aI @t4 @t5)); agZ) ?_
 clear t1 t2 t4 t5 g0 g1 g2
 rintro ⟨sv,i⟩ H nx ⟨hi,hnx,g0,g1,g2,hrow,hb,hz⟩
 dsimp only at hi g2 hrow hb hz ⊢
 have hA3:A[3]?=some (ba t.cases):=by subst hA; rfl
 have hAl:A.length=4:=by subst hA; rfl
 by_cases hi2:i < t.cases.length
 rotate_left
 ·rw [List.take_of_length_le (by omega)] at hrow
  (have zz:=aI @g0 (aI @hA3 (aI @hAl @ap)); repeat' (first | refine zW ?_ | apply a_n | apply a_x | refine zO ?_ | refine vY ?_ | (refine zGY ?_ ?_ <;> (intro _hg; try (exfalso; omega))) | fail)) <;> (try clear zz)
  exact ⟨rfl,rfl,hnx,g1,sv,g2,hrow,fun b hb'=>(hb b hb').1⟩
 refine aA (fun T' H' nx'=>T' 1=av p∧T' 2=.ptr 0 4 0∧T' 4=.ptr 1 4 0∧T' 5=.ptr 2 4 0∧T' 6=.int .i64 i∧H=H'∧nx=nx') ?_ ?_
 ·(have zz:=aI @g0 (aI @hA3 (aI @hAl @ap)); repeat' (first | refine zW ?_ | apply a_n | refine zO ?_ | refine vY ?_ | (refine zGY ?_ ?_ <;> (intro _hg; try (exfalso; omega))) | fail)) <;> (try clear zz)
  exact ⟨rfl,rfl,rfl,rfl,rfl,rfl,rfl⟩
 rintro T _ _ ⟨t1,t2,t4,t5,t6,rfl,rfl⟩
 refine bG ?_
 refine bZ ?_
 have ix:=a9 hi2
 obtain ⟨r1,r2,r3⟩:=hren i hi2
 obtain ⟨q1,q2⟩:=hq _ (aj hi2)
 have hst:dI KC ((t.cases.take (i + 1)).map (gA p))=fR KC (dI KC ((t.cases.take i).map (gA p))) (gA p (t.cases.getD i default)):=by
  rw [bx hi2,List.map_append]
  exact lM _ _
 generalize t.cases.getD i default=c at *
 obtain ⟨inp,out,calm⟩:=c
 dsimp only at *
 have m1:=pH inp p hp r1
 have m2:=nj out p hp q1 r2
 have m3:=nj calm p hp q2 r3
 have hml:(bn inp p).length ≤ 17592186044416:=by rw [ck]; omega
 have hx:(bk (gA p ⟨inp,out,calm⟩)).cells=[av (bn inp p),aw (bT out p),aw (bT calm p)]:=rfl
 have hxi:(gA p ⟨inp,out,calm⟩).inp=bn inp p:=rfl
 have hClen:(dI KC ((t.cases.take i).map (gA p))).length=i:=by rw [eS,List.length_map,List.length_take]; omega
 have hCs:∀ c ∈ dI KC ((t.cases.take i).map (gA p)),c.inp.length=p.length:=fun c hc=>by
  obtain ⟨c0,hc0,rfl⟩:=List.mem_map.1 ((ca _).mem_iff.1 hc)
  obtain ⟨j,hj,rfl⟩:=List.getElem_of_mem (List.mem_of_mem_take hc0)
  have:=(hren j hj).1
  rw [show t.cases.getD j default=t.cases[j] by simp [List.getD,hj]] at this
  show (bn _ p).length=_
  rw [ck,this]
 generalize gA p ⟨inp,out,calm⟩=x at *
 generalize dI KC ((t.cases.take i).map (gA p))=C at *
 have hlS:ce sv=some (.int .i64 i):=hrow.lenS (by rw [aS (fun _=>rfl),hClen]) (by omega)
 refine aA (fun T' H' nx'=>T' 1=av p∧T' 2=.ptr 0 4 0∧T' 4=.ptr 1 4 0∧T' 5=.ptr 2 4 0∧T' 6=.int .i64 i∧T' 7=.ptr nx 3 0∧H'=ah H nx [av inp,aw out,aw calm]∧nx'=nx + 1) ?_ ?_
 ·(have zz:=aI @t1 (aI @t2 (aI @t4 (aI @t5 (aI @t6 (aI @g0 (aI @hA3 (aI @hAl @ix))))))); repeat' (first | apply a_n | refine zO ?_ | refine vY ?_ | refine alY ?_ | refine stY ?_ | fail)) <;> (try clear zz)
  exact ⟨(have zz:=@t1; evY),(have zz:=@t2; evY),(have zz:=@t4; evY),(have zz:=@t5; evY),(have zz:=@t6; evY),ev0,by rw [am]; rfl,rfl⟩
 clear t1 t2 t4 t5 t6
 rintro T _ _ ⟨t1,t2,t4,t5,t6,t7,rfl,rfl⟩
 refine aA (fun T' H' nx'=>T' 1=av p∧T' 2=.ptr 0 4 0∧T' 4=.ptr 1 4 0∧T' 5=.ptr 2 4 0∧T' 6=.int .i64 i∧T' 8=.ptr (nx + 1) 3 0∧H'=ah (ah H nx [av inp,aw out,aw calm]) (nx + 1) [av (bn inp p),aw (bT out p),aw (bT calm p)]∧nx'=nx + 2) ?_ ?_
 ·(have zz:=aI @t1 (aI @t2 (aI @t4 (aI @t5 (aI @t6 @t7)))); repeat' (first | apply a_n | refine zO ?_ | refine vY ?_ | refine cY ?_ (hp:=by first | exact m1 | exact m2 | exact m3) | refine alY ?_ | refine stY ?_ | fail)) <;> (try clear zz)
  exact ⟨(have zz:=@t1; evY),(have zz:=@t2; evY),(have zz:=@t4; evY),(have zz:=@t5; evY),(have zz:=@t6; evY),ev0,by rw [am]; rfl,rfl⟩
 clear t1 t2 t4 t5 t6 t7
 rintro T H' _ ⟨t1,t2,t4,t5,t6,t8,hH',rfl⟩
 have e0:∀ b,b < nx→H' b=H b:=fun b hb=>by rw [hH',ab (by omega),ab (by omega)]
 have g0':H' 0=some A:=(e0 0 (by omega)).trans g0
 have g1':=(e0 1 (by omega)).trans g1
 have g2':=(e0 2 (by omega)).trans g2
 have g8:H' (nx + 1)=some [av (bn inp p),aw (bT out p),aw (bT calm p)]:=by rw [hH',ai]
 have hrow':Row H' 3 sv (C.c3 bk):=hrow.same fun b hb'=>e0 b (hb b hb').2
 clear hH' g0 g1 g2 hrow e0
 refine aA (fun T' H'' nx'=>T' 1=av p∧T' 2=.ptr 0 4 0∧T' 4=.ptr 1 4 0∧T' 5=.ptr 2 4 0∧T' 6=.int .i64 i∧T' 8=.ptr (nx + 1) 3 0∧T' 9=.int .i64 i∧H'=H''∧nx'=nx + 2) ?_ ?_
 ·(have zz:=aI @t5 (aI @g2' @hlS); repeat' (first | apply a_n | refine zO ?_ | refine vY ?_ | fail)) <;> (try clear zz)
  exact ⟨(have zz:=@t1; evY),(have zz:=@t2; evY),(have zz:=@t4; evY),(have zz:=@t5; evY),(have zz:=@t6; evY),(have zz:=@t8; evY),ev0,rfl,rfl⟩
 clear t1 t2 t4 t5 t6 t8
 rintro T _ _ ⟨t1,t2,t4,t5,t6,t8,t9,rfl,rfl⟩
 refine aA (fun T' H'' nx'=>T' 1=av p∧T' 2=.ptr 0 4 0∧T' 4=.ptr 1 4 0∧T' 5=.ptr 2 4 0∧T' 6=.int .i64 i∧T' 8=.ptr (nx + 1) 3 0∧T' 9=.int .i64 (dU KC C x C.length:Nat)∧H'=H''∧nx'=nx + 2) ?_ ?_
 ·(have zz:=and_self; repeat' (first | refine zW ?_ | apply a_n | refine zO ?_ | fail)) <;> (try clear zz)
  refine gr (X:=Nat) (fun k=>[(1,av p),(2,.ptr 0 4 0),(4,.ptr 1 4 0),(5,.ptr 2 4 0),(6,.int .i64 i),(8,.ptr (nx + 1) 3 0),(9,.int .i64 (k:Nat))]) (fun k=>k ≤ i∧dU KC C x C.length=dU KC C x k) (fun k=>k) i ⟨Nat.le_refl _,by rw [hClen]⟩ (have zz:=aI @t1 (aI @t2 (aI @t4 (aI @t5 (aI @t6 (aI @t8 @t9))))); agZ) ?_
  rintro k ⟨hk,hek⟩
  rcases Nat.eq_zero_or_pos k with h0 | h0
  ·subst h0
   (have zz:=(show ((0:Nat):Int)=0 from rfl); repeat' (first | refine zW ?_ | refine zM ?_ | apply a_n | apply a_x | refine zO ?_ | refine vY ?_ | refine gFY ?_ | (refine zGY ?_ ?_ <;> (intro _hg; try (exfalso; omega))) | refine cFY ?_ | fail)) <;> (try clear zz)
   exact ⟨rfl,rfl,rfl,rfl,rfl,rfl,by rw [hek]; rfl,rfl,rfl⟩
  ·obtain ⟨q,rfl⟩:∃ q,k=q + 1:=⟨k - 1,by omega⟩
   have hi0:0 < i:=by omega
   obtain ⟨B,rfl,hB,hB3,hBn⟩:∃ B,sv=.msl B (i * 3) 3 0 i∧H' B=some (C.c3 bk)∧3 ≤ B∧B < nx:=by
    generalize hcs:C.c3 bk=cs at hrow'
    have hcl3:(C.c3 bk).length=C.length * 3:=aS (fun _=>rfl) C
    cases hrow' with
    | nil=>rw [hcs] at hcl3; simp at hcl3; omega
    | box B len cs h1 h2 =>
     have e:len=i:=by rw [← hcs,hcl3] at h2; omega
     subst e
     exact ⟨B,rfl,h1,hb B rfl⟩
   have tq:((q + 1:Nat):Int) - 1=(q:Int):=by omega
   have hcl3:(C.c3 bk).length=i * 3:=by rw [aS (fun _=>rfl),hClen]
   have hld:=xY (C:=C) (q:=q) (by omega)
   have hCq:(C.getD q default).inp.length ≤ 17592186044416:=by rw [hCs _ (aj (by omega))]; omega
   have hO:=gd (bn inp p) (C.getD q default).inp hml hCq
   have hst2:dU KC C x (q + 1)=if KC x (C.getD q default) < 0 then dU KC C x q else q + 1:=rfl
   have hKC:KC x (C.getD q default)=aQ (bn inp p) (C.getD q default).inp:=by unfold KC; rw [hxi]
   rw [hKC] at hst2
   have zp:decide ((0:Int) < ((q + 1:Nat):Int))=true:=decide_eq_true (by omega)
   by_cases ho:aQ (bn inp p) (C.getD q default).inp < 0
   ·rw [if_pos ho] at hst2
    have z:decide (aQ (bn inp p) (C.getD q default).inp < 0)=true:=decide_eq_true ho
    (have zz:=aI @tq (aI @Int.toNat_natCast (aI @z (aI @zp (aI @g8 (aI @g2' (aI @hB (aI @hcl3 @hld))))))); repeat' (first | refine zW ?_ | refine zM ?_ | apply a_n | refine zO ?_ | refine vY ?_ | refine cY ?_ (hp:=hO) | refine gTY ?_ | refine cTY ?_ | fail)) <;> (try clear zz)
    exact ⟨q,⟨by omega,hek.trans hst2⟩,by omega,(have zz:=@tq; agZ),rfl,rfl⟩
   ·rw [if_neg ho] at hst2
    have z:decide (aQ (bn inp p) (C.getD q default).inp < 0)=false:=decide_eq_false ho
    (have zz:=aI @tq (aI @Int.toNat_natCast (aI @z (aI @zp (aI @g8 (aI @g2' (aI @hB (aI @hcl3 @hld))))))); repeat' (first | refine zW ?_ | refine zM ?_ | apply a_n | apply a_x | refine zO ?_ | refine vY ?_ | refine cY ?_ (hp:=hO) | refine gTY ?_ | refine cFY ?_ | fail)) <;> (try clear zz)
    exact ⟨rfl,rfl,rfl,rfl,rfl,rfl,by rw [hek,hst2]; ((try simp only [bo,ZA,reduceEqDiff,↓reduceIte,reduceAdd,reduceLeDiff]); (try with_reducible rfl)),rfl,rfl⟩
 clear t1 t2 t4 t5 t6 t8 t9
 rintro T _ _ ⟨t1,t2,t4,t5,t6,t8,t9,rfl,rfl⟩
 have hkC:dU KC C x C.length ≤ i:=hClen ▸ lj C x C.length
 have hins:(fR KC C x).c3 bk=(C.take (dU KC C x C.length)).c3 bk ++ [av (bn inp p),aw (bT out p),aw (bT calm p)] ++ (C.drop (dU KC C x C.length)).c3 bk:=by
  unfold fR
  rw [yq,List.append_assoc]
  congr 1
  show (bk x).cells ++ (C.drop _).c3 bk=_
  rw [hx]
 have hinsl:(fR KC C x).length=i + 1:=by rw [pY,hClen]
 generalize dU KC C x C.length=k at *
 rcases Nat.eq_zero_or_pos i with h0 | h0
 ·obtain rfl:sv=.esl:=hz h0
  subst h0
  obtain rfl:k=0:=by omega
  obtain rfl:C=[]:=List.length_eq_zero_iff.1 hClen
  have s1:gp 3 .esl (some (.int .i64 0)) none none=some .esl:=rfl
  have s2:gp 3 .esl none (some (.int .i64 0)) none=some .esl:=rfl
  rw [show ((0:Nat):Int)=0 from rfl] at t9
  (have zz:=aI @t5 (aI @t9 (aI @t8 (aI @g2' (aI @g8 (aI @s1 @s2))))); repeat' (first | refine zW ?_ | apply a_n | refine zO ?_ | refine vY ?_ | refine b0Y ?_ | refine blY ?_ | refine a0Y ?_ | fail)) <;> (try clear zz)
  have hnil:ah (ah H' (nx + 2) []) (nx + 2 + 1) [av (bn inp p),aw (bT out p),aw (bT calm p)] (nx + 2)=some []:=by rw [ab (by omega),ai]
  refine gX rfl ev0 ev0 ec rfl (by omega) (by omega) ?_
  (have zz:=aI @t5 (aI @t9 (aI @t8 (aI @g2' @g8))); repeat' (first | apply a_n | refine zO ?_ | refine vY ?_ | fail)) <;> (try clear zz)
  refine oA (b:=nx + 2 + 1 + 1) (m:=1 * 3) (len:=1) (n:=0) (new:=[]) rfl ev0 (by rw [ai]) ev0 (co (cs:=[]) (by rw [ab (by omega)]; exact hnil) rfl (by omega)) rfl rfl (by omega) (.inl (by omega)) (by omega) (by omega) ?_
  (have zz:=aI @t5 (aI @t6 @g2'); repeat' (first | apply a_n | refine zO ?_ | refine vY ?_ | refine stY ?_ | fail)) <;> (try clear zz)
  refine ⟨(.msl (nx + 2 + 1 + 1) ((1 + 0) * 3) 3 0 (1 + 0),1),by dsimp only; omega,⟨by dsimp only; omega,by omega,?_,?_,?_,?_,fun b hb'=>?_,fun h=>absurd h (by dsimp only; omega)⟩,by simp (disch:=omega) only [agr,ZG,reduceEqDiff,↓reduceIte,t1,t2,t4,t5,t6,Int.zero_add]⟩
  ·rw [ab (by omega),ab (by omega),ab (by omega),ab (by omega),ab (by omega),g0']
  ·rw [ab (by omega),ab (by omega),ab (by omega),ab (by omega),ab (by omega),g1']
  ·rw [ai]; rfl
  ·dsimp only
   rw [hst,hins]
   refine .box _ 1 _ ?_ rfl
   rw [ab (by omega),ai]; rfl
  ·dsimp only [cp] at hb'
   cases hb'
   omega
 ·have hi0:0 < i:=h0
  obtain ⟨B,rfl,hB,hB3,hBn⟩:∃ B,sv=.msl B (i * 3) 3 0 i∧H' B=some (C.c3 bk)∧3 ≤ B∧B < nx:=by
   generalize hcs:C.c3 bk=cs at hrow'
   have hcl3:(C.c3 bk).length=C.length * 3:=aS (fun _=>rfl) C
   cases hrow' with
   | nil=>rw [hcs] at hcl3; simp at hcl3; omega
   | box B len cs h1 h2 =>
    have e:len=i:=by rw [← hcs,hcl3] at h2; omega
    subst e
    exact ⟨B,rfl,h1,hb B rfl⟩
  have s2:=vP (b:=B) hkC hi0
  have hcl3:(C.c3 bk).length=i * 3:=by rw [aS (fun _=>rfl),hClen]
  by_cases hki:k=i
  ·subst hki
   have s1:=ul (b:=B) hi0
   (have zz:=aI @t5 (aI @t9 (aI @t8 (aI @g2' (aI @g8 (aI @s1 @s2))))); repeat' (first | refine zW ?_ | apply a_n | refine zO ?_ | refine vY ?_ | refine b0Y ?_ | fail)) <;> (try clear zz)
   refine gX (n:=0) (new:=[]) rfl ev0 ev0 rfl rfl (by omega) (by omega) ?_
   (have zz:=aI @t5 (aI @t9 (aI @t8 (aI @g2' (aI @g8 (aI @s1 @s2))))); repeat' (first | apply a_n | refine zO ?_ | refine vY ?_ | refine blY ?_ | fail)) <;> (try clear zz)
   refine oA (b:=B) (m:=k * 3) (len:=k) (n:=1) (cs:=C.c3 bk) rfl ev0 (by rw [ab (by omega),ab (by omega)]; exact hB) ev0 ec rfl hcl3 (Nat.le_refl _) (.inl rfl) (by omega) (by omega) ?_
   (have zz:=aI @t5 (aI @t9 (aI @t8 (aI @g2' @g8))); repeat' (first | apply a_n | refine zO ?_ | refine vY ?_ | fail)) <;> (try clear zz)
   refine oA (b:=B) (m:=(k + 1) * 3) (len:=k + 1) (n:=0) (new:=[]) rfl ev0 (by rw [ai]) ev0 (co (cs:=[]) (by rw [ab (by omega),ab (by omega),ai]) rfl (by omega)) rfl (by simp [hcl3]; omega) (Nat.le_refl _) (.inl rfl) (by omega) (by omega) ?_
   (have zz:=aI @t5 (aI @t6 @g2'); repeat' (first | apply a_n | refine zO ?_ | refine vY ?_ | refine stY ?_ | fail)) <;> (try clear zz)
   refine ⟨(.msl B ((k + 1 + 0) * 3) 3 0 (k + 1 + 0),k + 1),by dsimp only; omega,⟨by dsimp only; omega,by omega,?_,?_,?_,?_,fun b hb'=>?_,fun h=>absurd h (by dsimp only; omega)⟩,(have zz:=aI @t1 (aI @t2 (aI @t4 (aI @t5 @t6))); agZ)⟩
   ·rw [ab (by omega),ab (by omega),ab (by omega),ab (by omega),ab (by omega),g0']
   ·rw [ab (by omega),ab (by omega),ab (by omega),ab (by omega),ab (by omega),g1']
   ·rw [ai]; rfl
   ·dsimp only
    rw [hst]
    refine .box _ _ _ ?_ (by rw [aS (fun _=>rfl),hinsl])
    rw [ab (by omega),ai,hins]
    rw [li (fun _=>rfl),List.take_of_length_le (show C.length ≤ k by omega),List.drop_eq_nil_of_le (show C.length ≤ k by omega),List.append_nil,List.take_of_length_le (by rw [List.length_append,hcl3]; simp; omega)]
    simp [List.c3]
   ·dsimp only [cp] at hb'
    cases hb'
    omega
  ·have s1:=wv (b:=B) (j:=i) (k:=k) (by omega)
   have hrest:(((C.c3 bk).drop (k * 3)).take ((i - k) * 3))=(C.drop k).c3 bk:=by
    rw [lf (fun _=>rfl),List.take_of_length_le (by rw [aS (fun _=>rfl),List.length_drop]; omega)]
   have hrl:((C.drop k).c3 bk).length=(i - k) * 3:=by rw [aS (fun _=>rfl),List.length_drop]; omega
   (have zz:=aI @t5 (aI @t9 (aI @t8 (aI @g2' (aI @g8 (aI @s1 @s2))))); repeat' (first | refine zW ?_ | apply a_n | refine zO ?_ | refine vY ?_ | refine b0Y ?_ | fail)) <;> (try clear zz)
   refine gX (n:=i - k) (new:=(C.drop k).c3 bk) rfl ev0 ev0 (by rw [co hB hcl3 (by omega),hrest]) (ry _) (by omega) (by omega) ?_
   (have zz:=aI @t5 (aI @t9 (aI @t8 (aI @g2' (aI @g8 (aI @s1 @s2))))); repeat' (first | apply a_n | refine zO ?_ | refine vY ?_ | refine blY ?_ | fail)) <;> (try clear zz)
   refine yC (b:=B) (m:=i * 3) (off:=0) (len:=k) (n:=1) (cs:=C.c3 bk) rfl ev0 (by rw [ab (by omega),ab (by omega)]; exact hB) ev0 ec rfl hcl3 (fun _=>by omega) (by omega) (by omega) ?_
   (have zz:=aI @t5 (aI @t9 (aI @t8 (aI @g2' @g8))); repeat' (first | apply a_n | refine zO ?_ | refine vY ?_ | fail)) <;> (try clear zz)
   refine oA (b:=B) (m:=i * 3) (len:=k + 1) (n:=i - k) (new:=(C.drop k).c3 bk) rfl ev0 (by rw [ai]) ev0 (by rw [co (cs:=(C.drop k).c3 bk) (by rw [ab (by omega),ab (by omega),ai]) hrl (by omega),List.drop_zero,List.take_of_length_le (by omega)]) (ry _) (by rw [fA (by rw [hcl3]; simp; omega),hcl3]) (by omega) (.inr (by omega)) (by omega) (by omega) ?_
   (have zz:=aI @t5 (aI @t6 @g2'); repeat' (first | apply a_n | refine zO ?_ | refine vY ?_ | refine stY ?_ | fail)) <;> (try clear zz)
   refine ⟨(.msl B ((k + (1 + (i - k))) * 3) 3 0 (k + (1 + (i - k))),i + 1),by dsimp only; omega,⟨by dsimp only; omega,by omega,?_,?_,?_,?_,fun b hb'=>?_,fun h=>absurd h (by dsimp only; omega)⟩,(have zz:=aI @t1 (aI @t2 (aI @t4 (aI @t5 @t6))); agZ)⟩
   ·rw [ab (by omega),ab (by omega),ab (by omega),ab (by omega),ab (by omega),g0']
   ·rw [ab (by omega),ab (by omega),ab (by omega),ab (by omega),ab (by omega),g1']
   ·rw [ai]; rfl
   ·dsimp only
    rw [hst]
    refine .box _ _ _ ?_ (by rw [aS (fun _=>rfl),hinsl]; omega)
    rw [ab (by omega),ai,hins]
    rw [Nat.zero_add,show (k + 1) * 3=k * 3 + 3 by omega,sk (by omega) rfl,li (fun _=>rfl)]
   ·dsimp only [cp] at hb'
    cases hb'
    omega
end Go.Proofs.YtjgpfclngkcedaaGreat
namespace Go.Proofs.YtjgpfclngkcedaaGreat
open Go Go.Abs
attribute [local irreducible] aB ag aR aO aF aH ay aJ aP aZ Go.Abs.Fn aM Go.Abs.Pure an aC Yl
theorem rF {t:TaskV} {p:List Int} (he:a8 t=0) (hn:(p.length:Int)=t.n):∀ k,k < t.cases.length→(t.cases.getD k default).inp.length=p.length∧(∀ v ∈ (t.cases.getD k default).out,v.length=p.length)∧(∀ v ∈ (t.cases.getD k default).calm,v.length=p.length):=fun k hk=>by
 have h1:=sa he hk
 obtain ⟨_,h2,h3⟩:=nq he hk
 exact ⟨by omega,fun v hv=>by have:=(h2 v hv).1; omega,fun v hv=>by have:=(h2 v (h3 v hv)).1; omega⟩
end Go.Proofs.YtjgpfclngkcedaaGreat
namespace Go.Proofs.YtjgpfclngkcedaaGreat
open Go Go.Abs
attribute [local irreducible] aB ag aR aO aF aH ay aJ aP aZ Go.Abs.Fn aM Go.Abs.Pure an aC Yl
def dd (l:List Int):Nat→List Int
 | 0=>[]
 | k + 1=>dd l k ++ if k=0 ∨ l.getD k default ≠ l.getD (k - 1) default then [l.getD k default] else []
end Go.Proofs.YtjgpfclngkcedaaGreat
namespace Go.Proofs.YtjgpfclngkcedaaGreat
open Go Go.Abs
def inV (l:List (List Int)) (p v:Nat):Bool:=l.any fun w=>decide (w.getD p default=(v:Int))
def vals (l:List (List Int)) (p o:Nat):List Int:=((List.range o).filter (inV l p)).map Int.ofNat
attribute [local irreducible] aB ag aR aO aF aH ay aJ aP aZ Go.Abs.Fn aM Go.Abs.Pure an aC Yl
end Go.Proofs.YtjgpfclngkcedaaGreat
namespace Go.Proofs.YtjgpfclngkcedaaGreat
open Go Go.Abs
attribute [local irreducible] aB ag aR aO aF aH ay aJ aP aZ Go.Abs.Fn aM Go.Abs.Pure an aC Yl
end Go.Proofs.YtjgpfclngkcedaaGreat
namespace Go.Proofs.YtjgpfclngkcedaaGreat
open Go Go.Abs
attribute [local irreducible] aB ag aR aO aF aH ay aJ aP aZ Go.Abs.Fn aM Go.Abs.Pure an aC Yl
end Go.Proofs.YtjgpfclngkcedaaGreat
namespace Go.Proofs.YtjgpfclngkcedaaGreat
open Go Go.Abs
end Go.Proofs.YtjgpfclngkcedaaGreat
namespace Go.Proofs.YtjgpfclngkcedaaGreat
open Go Go.Abs
structure PlaceV where
 index:Int
 faulty:Int
 proc:Int
 outs:List Int
attribute [local irreducible] aB ag aR aO aF aH ay aJ aP aZ Go.Abs.Fn aM Go.Abs.Pure an aC Yl
end Go.Proofs.YtjgpfclngkcedaaGreat
namespace Go.Proofs.YtjgpfclngkcedaaGreat
open Go Go.Abs
attribute [local irreducible] aB ag aR aO aF aH ay aJ aP aZ Go.Abs.Fn aM Go.Abs.Pure an aC Yl
theorem n7:Sh T00.cases∧∀ c ∈ T00.cases,ShC c:=⟨Nat.zero_le _,fun c hc=>(by cases hc)⟩
theorem ns {l:List (List Int)} {p:List Int} (hl:Sh l) (hp:p.length ≤ 5) (hv:∀ v ∈ l,v.length=p.length):Sh (bT l p)∧∀ v ∈ bT l p,Sh v:=by
 refine ⟨by show (dI _ _).length ≤ _; rw [eS,List.length_map]; exact hl,fun v hv2=>?_⟩
 obtain ⟨w,hw,rfl⟩:=List.mem_map.1 ((ca _).mem_iff.1 hv2)
 show (bn w p).length ≤ _
 rw [ck,hv w hw]; omega
theorem vL {t:TaskV} {p:List Int} (hs:∀ c ∈ t.cases,ShC c) (hsc:Sh t.cases) (hp:p.length ≤ 5) (hlen:∀ k,k < t.cases.length→(t.cases.getD k default).inp.length=p.length∧(∀ v ∈ (t.cases.getD k default).out,v.length=p.length)∧(∀ v ∈ (t.cases.getD k default).calm,v.length=p.length)):Sh (dY t p).cases∧∀ c ∈ (dY t p).cases,ShC c:=by
 refine ⟨by show (dI _ _).length ≤ _; rw [eS,List.length_map]; exact hsc,fun c hc=>?_⟩
 obtain ⟨d,hd,rfl⟩:=List.mem_map.1 ((ca _).mem_iff.1 hc)
 obtain ⟨i,hi,rfl⟩:=List.getElem_of_mem hd
 have h:=hlen i hi
 have hsi:=hs _ hd
 rw [show t.cases.getD i default=t.cases[i] by simp [List.getD,hi]] at h
 generalize t.cases[i]=d at *
 obtain ⟨h1,h2,h3⟩:=h
 obtain ⟨s1,s2,s3,s4,s5⟩:=hsi
 have m1:=ns s2 hp h2
 have m2:=ns s4 hp h3
 exact ⟨by show (bn d.inp p).length ≤ _; rw [ck]; exact s1,m1.1,m1.2,m2.1,m2.2⟩
end Go.Proofs.YtjgpfclngkcedaaGreat
namespace Go.Proofs.YtjgpfclngkcedaaGreat
open Go Go.Abs
attribute [local irreducible] aB ag aR aO aF aH ay aJ aP aZ Go.Abs.Fn aM Go.Abs.Pure an aC Yl
end Go.Proofs.YtjgpfclngkcedaaGreat
namespace Go.Proofs.YtjgpfclngkcedaaGreat
open Go Go.Abs
section
variable {p:List Int}
end
theorem qQ {l:List (List Int)} (h:∀ i,i < l.length→bK l i=false):bX aQ l:=by
 unfold bX
 rw [List.pairwise_iff_getElem]
 intro i j hi hj hij
 have:=nU h j i hij hj
 rw [show l.getD i default=l[i] by simp [List.getD,hi],show l.getD j default=l[j] by simp [List.getD,hj]] at this
 exact lR.asym _ _ this
theorem si {l:List (List Int)} (h:∀ i,i < l.length→bK l i=false):l.Nodup:=by
 rw [List.nodup_iff_pairwise_ne,List.pairwise_iff_getElem]
 intro i j hi hj hij e
 have:=nU h j i hij hj
 rw [show l.getD i default=l[i] by simp [List.getD,hi],show l.getD j default=l[j] by simp [List.getD,hj],e,cu] at this
 omega
theorem c6 {n outs:Int} {c:CaseV} (h:bv n outs c=0):(1 ≤ c.out.length∧c.out.length ≤ 1024)∧(∀ v ∈ c.out,be v n outs=0)∧(∀ i,i < c.out.length→bK c.out i=false)∧(∀ v ∈ c.calm,v ∈ c.out)∧(∀ i,i < c.calm.length→bK c.calm i=false):=by
 unfold bv at h
 split at h
 ·exact absurd h (by decide)
 rename_i g1
 split at h
 ·exact absurd h ‹_›
 rename_i g2
 have o0:=cT (Decidable.of_not_not g2)
 have c0:=cT h
 have o1:∀ j,j < c.out.length→be (c.out.getD j default) n outs=0∧bK c.out j=false:=fun j hj=>by
  have:=o0 j hj
  unfold gx at this
  split at this
  ·exact absurd this ‹_›
  ·rename_i g3
   split at this
   ·exact absurd this (by decide)
   ·rename_i g4
    exact ⟨Decidable.of_not_not g3,by simpa using g4⟩
 have c1:∀ j,j < c.calm.length→c.calm.getD j default ∈ c.out∧bK c.calm j=false:=fun j hj=>by
  have:=c0 j hj
  unfold gq at this
  split at this
  ·rename_i g3
   split at this
   ·exact absurd this (by decide)
   ·rename_i g4
    exact ⟨g3,by simpa using g4⟩
  ·exact absurd this (by decide)
 refine ⟨by omega,fun v hv=>?_,fun i hi=>(o1 i hi).2,fun v hv=>?_,fun i hi=>(c1 i hi).2⟩
 ·obtain ⟨j,hj,rfl⟩:=List.getElem_of_mem hv
  have:=(o1 j hj).1
  rwa [show c.out.getD j default=c.out[j] by simp [List.getD,hj]] at this
 ·obtain ⟨j,hj,rfl⟩:=List.getElem_of_mem hv
  have:=(c1 j hj).1
  rwa [show c.calm.getD j default=c.calm[j] by simp [List.getD,hj]] at this
section
variable {p:List Int} (hp:b0 p=0)
include hp
end
theorem e5 {t:TaskV} (h:a8 t=0) {c:CaseV} (hc:c ∈ t.cases):be c.inp t.n t.ins=0∧bv t.n t.outs c=0:=by
 obtain ⟨i,hi,rfl⟩:=List.getElem_of_mem hc
 have:=(fi h).2.2 i hi
 rwa [show t.cases.getD i default=t.cases[i] by simp [List.getD,hi]] at this
section
variable {t:TaskV} {p:List Int} (h:a8 t=0) (hp:b0 p=0) (hn:(p.length:Int)=t.n)
include h hp hn
theorem qA:cz t p=(dY t p,0):=by
 unfold cz
 rw [if_neg (fun k=>k h),if_neg (fun k=>k hp),if_neg (fun k=>k hn)]
end
end Go.Proofs.YtjgpfclngkcedaaGreat
namespace Go.Proofs.YtjgpfclngkcedaaGreat
open Go Go.Abs
open Nat (reduceEqDiff reduceAdd reduceLeDiff)
theorem ln {α:Type} {p:α→Bool} {v:α}:[v].filter p=if p v then [v] else []:=by cases h:p v <;> simp [h]
attribute [local irreducible] aB ag aR aO aF aH ay aJ aP aZ Go.Abs.Fn aM Go.Abs.Pure an aC Yl
theorem vK (l:List (List Int)) (p:List Int→Bool) (g:Nat) (caps:List AV) (hd:∀ x ∈ caps,Dat x) (hg:∀ x ∈ l,Pure Tryz.prog g (av x :: caps) (.bool (p x))) (hl:l.length ≤ 100000):Pure Tryz.prog 49 [aw l,.func g caps] (aw (l.filter p)):=by
 refine Pure.of_c2 follows Am (Nat.le_of_ble_eq_true rfl) ?_
 simp only [b49,cO,cG,cN,cM,cD,cF,cB,au,aD]
 (have zz:=and_self; repeat' (first | refine zW ?_ | apply a_n | refine zO ?_ | refine vZ ?_ | fail)) <;> (try clear zz)
 refine aW (X:=AV × Nat) (fun x=>[(0,aw l),(1,.func g caps),(5,x.1),(8,aw l),(9,.int .i64 l.length),(10,.int .i64 x.2)]) (fun x H nx=>x.2 ≤ l.length∧Row H 1 x.1 (((l.take x.2).filter p).map av)∧∀ b,cp x.1=some b→b < nx) (fun x=>l.length - x.2) (.esl,0) ⟨Nat.zero_le _,Row.nil,fun b hb=>(by cases hb)⟩ ag0 ?_
 rintro ⟨s,j⟩ H nx ⟨h1,h2,h3⟩
 dsimp only at h1 h2 h3 ⊢
 by_cases hj:j < l.length
 rotate_left
 ·(have zz:=@h1; repeat' (first | refine zW ?_ | apply a_n | apply a_x | refine zO ?_ | refine vY ?_ | (refine zGY ?_ ?_ <;> (intro _hg; try (exfalso; omega))) | refine aa rfl ?_ | refine r1Y ?_ | fail)) <;> (try clear zz)
  rw [List.take_of_length_le (by omega)] at h2
  exact h2.snapV
 have hw:=aj hj
 have hc:=hg _ hw
 have hst:(l.take (j + 1)).filter p=(l.take j).filter p ++ (if p (l.getD j default) then [l.getD j default] else []):=by
  rw [bx hj,List.filter_append,ln]
 have hlen:((l.take j).filter p).length ≤ l.length:=Nat.le_trans (List.length_filter_le _ _) (by rw [List.length_take]; omega)
 cases hp:p (l.getD j default)
 ·rw [hp] at hc hst
  (have zz:=@h1; repeat' (first | refine zW ?_ | apply a_n | refine zO ?_ | refine vY ?_ | refine cY ?_ (hp:=hc) (hs:=by (first | refine al ?_ rfl | apply ao); (repeat' (first | exact af | apply aE | apply ar | exact aq hd)); first | done | fail) | refine cFY ?_ | (refine zGY ?_ ?_ <;> (intro _hg; try (exfalso; omega))) | fail)) <;> (try clear zz)
  exact ⟨(s,j + 1),by dsimp only; omega,⟨by dsimp only; omega,by dsimp only; rw [hst,if_neg (by decide),List.append_nil]; exact h2,h3⟩,ag0⟩
 ·rw [hp] at hc hst
  (have zz:=@h1; repeat' (first | refine zW ?_ | apply a_n | refine zO ?_ | refine vY ?_ | refine cY ?_ (hp:=hc) (hs:=by (first | refine al ?_ rfl | apply ao); (repeat' (first | exact af | apply aE | apply ar | exact aq hd)); first | done | fail) | refine blY ?_ | refine cTY ?_ | (refine zGY ?_ ?_ <;> (intro _hg; try (exfalso; omega))) | fail)) <;> (try clear zz)
  refine fl rfl ev0 (h2.same fun b hb=>?_) ev0 jA rfl rfl Nat.one_pos (by simp; omega) (by simp; omega) ?_
  ·have:=h3 b hb
   rw [ab (by omega)]
  rintro s2 E e hrow hle1 hle2 hsame hb2
  (have zz:=and_self; repeat' (first | apply a_n | refine zO ?_ | refine vZ ?_ | fail)) <;> (try clear zz)
  refine ⟨(s2,j + 1),by dsimp only; omega,⟨by dsimp only; omega,?_,fun b hb=>?_⟩,ag0⟩
  ·dsimp only
   rw [hst,if_pos rfl,List.map_append]
   exact hrow
  ·rcases hb2 b hb with h | h
   ·have:=h3 b h; omega
   ·omega
theorem sC (x y:List (List Int)) (hx:Sh x) (hy:Sh y) (hxs:∀ v ∈ x,Sh v) (hys:∀ v ∈ y,Sh v):Pure Tryz.prog 110 [aw x,aw y,.func 15 []] (.bool (decide (x=y))):=by
 refine Pure.of_c2 follows wW (Nat.le_of_ble_eq_true rfl) ?_
 simp only [ym,cO,cG,cN,cM,cD,cF,cB,au,aD]
 have hx':x.length ≤ 17592186044416:=hx
 have hy':y.length ≤ 17592186044416:=hy
 by_cases hlen:x.length=y.length
 rotate_left
 ·have z:decide ((x.length:Int) ≠ y.length)=true:=decide_eq_true (by omega)
  rw [decide_eq_false (fun e=>hlen (by rw [e]))]
  (have zz:=@z; repeat' (first | refine zW ?_ | apply a_n | apply a_r | refine zO ?_ | refine vZ ?_ | refine cTZ ?_ | refine aa rfl ?_ | refine r1Z ?_ | fail)) <;> (try clear zz)
  exact .bool _
 have z:decide ((x.length:Int) ≠ y.length)=false:=decide_eq_false (by omega)
 (have zz:=@z; repeat' (first | refine zW ?_ | apply a_n | refine zO ?_ | refine vZ ?_ | refine cFZ ?_ | fail)) <;> (try clear zz)
 refine iI (fun k=>[(0,aw x),(1,aw y),(2,.func 15 []),(15,aw x),(16,.int .i64 x.length),(17,.int .i64 k)]) x.length (fun k=>x.getD k default=y.getD k default) ag0 ?_
 intro k hk hz
 by_cases hk2:k < x.length
 rotate_left
 ·(have zz:=and_self; repeat' (first | refine zW ?_ | apply a_n | apply a_x | refine zO ?_ | refine vZ ?_ | (refine zGZ ?_ ?_ <;> (intro _hg; try (exfalso; omega))) | refine aa rfl ?_ | refine r1Z ?_ | fail)) <;> (try clear zz)
  refine bC ?_
  symm; rw [decide_eq_true_iff]
  refine List.ext_getElem hlen fun i h3 h4=>?_
  have:=hz i (by omega)
  simpa [List.getD,h3,h4] using this
 have hc:=jK (x.getD k default) (y.getD k default) (hxs _ (aj hk2)) (hys _ (aj (by omega)))
 by_cases he:x.getD k default=y.getD k default
 ·rw [decide_eq_true he] at hc
  (have zz:=and_self; repeat' (first | refine zW ?_ | apply a_n | refine zO ?_ | refine vZ ?_ | refine cZ ?_ (hp:=hc) | refine cFZ ?_ | (refine zGZ ?_ ?_ <;> (intro _hg; try (exfalso; omega))) | fail)) <;> (try clear zz)
  exact ⟨hk2,he,ag0,rfl,rfl⟩
 ·rw [decide_eq_false he] at hc
  rw [decide_eq_false (p:=x=y) (fun e=>he (by rw [e]))]
  (have zz:=and_self; repeat' (first | refine zW ?_ | apply a_n | apply a_r | refine zO ?_ | refine vZ ?_ | refine cZ ?_ (hp:=hc) | refine cTZ ?_ | (refine zGZ ?_ ?_ <;> (intro _hg; try (exfalso; omega))) | refine aa rfl ?_ | refine r1Z ?_ | fail)) <;> (try clear zz)
  exact .bool _
end Go.Proofs.YtjgpfclngkcedaaGreat
namespace Go.Proofs.YtjgpfclngkcedaaGreat
open Go Go.Abs
def f0 (l:List (List Int)):Prop:=l.Pairwise fun x y=>aQ x y < 0
theorem f0.nodup {l:List (List Int)} (h:f0 l):l.Nodup:=List.Pairwise.imp (fun {a b} h e=>by subst e; rw [cu] at h; omega) h
theorem f0.sorted {l:List (List Int)} (h:f0 l):bX aQ l:=List.Pairwise.imp (fun {a b} h=>lR.asym _ _ h) h
theorem f0.of {l:List (List Int)} (hs:bX aQ l) (hn:l.Nodup):f0 l:=by
 have h2:=List.nodup_iff_pairwise_ne.1 hn
 refine List.Pairwise.imp₂ (fun a b h1 h2=>?_) hs h2
 rcases iX a b with h | h | h
 ·omega
 ·exact absurd (e7 h) h2
 ·have:=eb a b
  exact absurd (show aQ b a < 0 by omega) h1
theorem uz {a b:List (List Int)} (ha:f0 a) (hb:f0 b) (h:∀ x,x ∈ a ↔ x ∈ b):a=b:=by
 have hp:a.Perm b:=(List.perm_ext_iff_of_nodup ha.nodup hb.nodup).2 h
 exact List.Perm.eq_of_pairwise (fun x y _ _ h1 h2=>by have:=eb x y; omega) ha hb hp
theorem nI {l:List (List Int)} (h:∀ i,i < l.length→bK l i=false):f0 l:=f0.of (qQ h) (si h)
def jI (acc:List (List Int)) (v:List Int):List (List Int):=if v ∈ acc then acc else fR aQ acc v
theorem tW {acc:List (List Int)} {v:List Int} (h:f0 acc):f0 (jI acc v):=by
 unfold jI
 split
 ·exact h
 ·rename_i hn
  refine f0.of (kF lR h.sorted) ?_
  rw [(ib acc v).nodup_iff,List.nodup_cons]
  exact ⟨hn,h.nodup⟩
theorem um {acc:List (List Int)} {v x:List Int}:x ∈ jI acc v ↔ x ∈ acc ∨ x=v:=by
 unfold jI
 split
 ·rename_i h
  exact ⟨.inl,fun h2=>h2.elim id (fun e=>e ▸ h)⟩
 ·rw [(ib acc v).mem_iff,List.mem_cons]
  exact ⟨fun h=>h.elim .inr .inl,fun h=>h.elim .inr .inl⟩
theorem vv {acc:List (List Int)} {v:List Int}:(jI acc v).length ≤ acc.length + 1:=by
 unfold jI
 split
 ·omega
 ·rw [pY]; exact Nat.le_refl _
def kg (acc l:List (List Int)):List (List Int):=l.foldl jI acc
theorem px:∀ {l acc:List (List Int)},f0 acc→f0 (kg acc l)
 | [],_,h=>h
 | v :: l,acc,h=>px (l:=l) (tW (v:=v) h)
theorem pM:∀ {l acc:List (List Int)} {x:List Int},x ∈ kg acc l ↔ x ∈ acc ∨ x ∈ l
 | [],acc,x=>by simp [kg]
 | v :: l,acc,x=>by
  rw [show kg acc (v :: l)=kg (jI acc v) l from rfl,pM,um,List.mem_cons,or_assoc]
theorem p9:∀ {l acc:List (List Int)},(kg acc l).length ≤ acc.length + l.length
 | [],acc=>by simp [kg]
 | v :: l,acc=>by
  rw [show kg acc (v :: l)=kg (jI acc v) l from rfl]
  have:=p9 (l:=l) (acc:=jI acc v)
  have:=vv (acc:=acc) (v:=v)
  rw [List.length_cons]; omega
theorem ss {acc l:List (List Int)} {v:List Int}:kg acc (l ++ [v])=jI (kg acc l) v:=by
 unfold kg; rw [List.foldl_append]; rfl
def e8 (l:List (List Int)):List (List Int):=kg [] l
theorem vj (l:List (List Int)):f0 (e8 l):=px List.Pairwise.nil
theorem jh {l:List (List Int)} {x:List Int}:x ∈ e8 l ↔ x ∈ l:=by
 unfold e8; rw [pM]; simp
theorem ph {l:List (List Int)}:(e8 l).length ≤ l.length:=by
 have:=p9 (l:=l) (acc:=[])
 unfold e8
 rw [List.length_nil] at this
 omega
section
variable {α:Type} [Inhabited α] [DecidableEq α]
def bm (l:List α):Nat→Nat
 | 0=>0
 | k + 1=>bm l k + if k=0 ∨ l.getD k default ≠ l.getD (k - 1) default then 1 else 0
theorem s7 (l:List α) (k:Nat):bm l k ≤ k:=by
 induction k with
 | zero=>exact Nat.le_refl _
 | succ k ih=>unfold bm; split <;> omega
theorem fe {l:List α} {k:Nat} (hk:k ≠ 0) (h:l.getD k default=l.getD (k - 1) default):bm l (k + 1)=bm l k:=by
 rw [bm,if_neg (by rintro (h' | h'); exact hk h'; exact h' h)]; rfl
theorem kS {l:List α} {k:Nat} (h:l.getD k default ≠ l.getD (k - 1) default):bm l (k + 1)=bm l k + 1:=by
 rw [bm,if_pos (.inr h)]
def ddG (l:List α):Nat→List α
 | 0=>[]
 | k + 1=>ddG l k ++ if k=0 ∨ l.getD k default ≠ l.getD (k - 1) default then [l.getD k default] else []
theorem wE (l:List α) (k:Nat):(ddG l k).length=bm l k:=by
 induction k with
 | zero=>rfl
 | succ k ih=>rw [ddG,bm,List.length_append,ih]; split <;> rfl
theorem pQ {l:List α} {k:Nat} (hk:k ≠ 0) (h:l.getD k default=l.getD (k - 1) default):ddG l (k + 1)=ddG l k:=by
 rw [ddG,if_neg (by rintro (h' | h'); exact hk h'; exact h' h),List.append_nil]
theorem pP {l:List α} {k:Nat} (h:l.getD k default ≠ l.getD (k - 1) default):ddG l (k + 1)=ddG l k ++ [l.getD k default]:=by
 rw [ddG,if_pos (.inr h)]
theorem oF {l:List α}:∀ {k:Nat},k ≤ l.length→∀ x,x ∈ ddG l k ↔ ∃ j,j < k∧l.getD j default=x
 | 0,_,x=>by simp [ddG]
 | k + 1,hk,x=>by
  have ih:=oF (l:=l) (k:=k) (by omega) x
  rw [ddG,List.mem_append,ih]
  constructor
  ·rintro (⟨j,h1,h2⟩ | h)
   ·exact ⟨j,by omega,h2⟩
   ·split at h
    ·rw [List.mem_singleton] at h; exact ⟨k,by omega,h.symm⟩
    ·simp at h
  ·rintro ⟨j,h1,h2⟩
   by_cases e:j=k
   ·subst e
    by_cases c:j=0 ∨ l.getD j default ≠ l.getD (j - 1) default
    ·right; rw [if_pos c,List.mem_singleton]; exact h2.symm
    ·left
     have c1:j ≠ 0:=fun h=>c (.inl h)
     have c2:l.getD j default=l.getD (j - 1) default:=Decidable.of_not_not fun h=>c (.inr h)
     exact ⟨j - 1,by omega,by rw [← c2]; exact h2⟩
   ·left; exact ⟨j,by omega,h2⟩
theorem rx {K:α→α→Int} (hK:Ord K) (hA:∀ x y,¬ K x y < 0→¬ K y x < 0→x=y) {l:List α} (hs:∀ i j,i < j→j < l.length→¬ K (l.getD j default) (l.getD i default) < 0):∀ {k:Nat},k ≤ l.length→(ddG l k).Pairwise fun x y=>K x y < 0
 | 0,_=>List.Pairwise.nil
 | k + 1,hk=>by
  have ih:=rx hK hA hs (k:=k) (by omega)
  rw [ddG,List.pairwise_append]
  refine ⟨ih,by split <;> simp,fun x hx y hy=>?_⟩
  split at hy
  ·rename_i c
   rw [List.mem_singleton] at hy
   subst hy
   obtain ⟨j,h1,rfl⟩:=(oF (by omega) x).1 hx
   rcases c with c | c
   ·omega
   ·refine Decidable.byContradiction fun hn=>?_
    have a2:=hs (k - 1) k (by omega) (by omega)
    have hne:K (l.getD (k - 1) default) (l.getD k default) < 0:=Decidable.byContradiction fun h3=>c (hA _ _ a2 h3)
    by_cases e:j=k - 1
    ·rw [e] at hn; exact hn hne
    ·have a1:=hs j (k - 1) (by omega) (by omega)
     exact hK.negtr _ _ _ hn a1 hne
  ·simp at hy
omit [DecidableEq α] in
theorem od {M:List α} {x:α}:(∃ j,j < M.length∧M.getD j default=x) ↔ x ∈ M:=by
 constructor
 ·rintro ⟨j,h1,rfl⟩; exact aj h1
 ·intro h
  obtain ⟨j,hj,rfl⟩:=List.getElem_of_mem h
  exact ⟨j,hj,by simp [List.getD,hj]⟩
end
theorem wk (l:List (List Int)):ddG (hZ l) (hZ l).length=e8 l:=by
 refine uz (rx lR (fun _ _=>oO) (fun i j h1 h2=>?_) (Nat.le_refl _)) (vj l) fun x=>?_
 ·have h3:j < (dI aQ l).length:=h2
  have:=List.pairwise_iff_getElem.1 (jG lR l) i j (by omega) h3 h1
  simpa [List.getD,h3,show i < (dI aQ l).length by omega] using this
 ·rw [oF (Nat.le_refl _),od,(ca l).mem_iff,jh]
end Go.Proofs.YtjgpfclngkcedaaGreat
namespace Go.Proofs.YtjgpfclngkcedaaGreat
open Go Go.Abs
open Nat (reduceEqDiff reduceAdd reduceLeDiff)
section
variable {P:Program} {T:Tm} {H:Hp} {nx:Nat}
end
theorem sU {α:Type} [Inhabited α] {L:List α} {h:Nat} {x:α} (hh:h < L.length):(L.set h x).take (h + 1)=L.take h ++ [x]:=by
 rw [bx (by simpa using hh),List.take_set_of_le (Nat.le_refl h)]
 simp [List.getD,hh]
theorem lK {B n len k:Nat} (h:k < len) (hn:n ≠ 0):gp 1 (.msl B n 1 0 len) (some (.int .i64 k)) none none=some (.msl B n 1 k (len - k)):=by
 simp only [gp,bd,Int.natCast_nonneg,if_true,Int.toNat_natCast]
 rw [if_pos ⟨trivial,by omega,Nat.le_refl _,hn⟩,if_pos (.inr h),Nat.zero_add,Nat.mul_one]
theorem qN {B n len k:Nat} (h:k ≤ len) (hn:n ≠ 0):gp 1 (.msl B n 1 0 len) none (some (.int .i64 k)) none=some (.msl B n 1 0 k):=by
 simp only [gp,bd,Int.natCast_nonneg,if_true,Int.toNat_natCast]
 rw [if_pos ⟨trivial,by omega,h,hn⟩,if_pos (.inl trivial),Nat.zero_mul,Nat.sub_zero]
attribute [local irreducible] aB ag aR aO aF aH ay aJ aP aZ Go.Abs.Fn aM Go.Abs.Pure an aC Yl
theorem uT (s:AV) (l:List (List Int)) (hl:l.length ≤ 1000000) (H:Hp) (nx:Nat) (hn:eo s=some l.length) (hs:∀ H',(∀ x,x < nx→H' x=H x)→b7 1 H' s=some (l.length,l.map av)):Abs.Fn Tryz.prog 106 [s] H nx fun r H' nx'=>nx' ≤ nx + 1∧nx ≤ nx'∧(∀ x,x < nx→H' x=H x)∧if l=[] then ce r=some (.int .i64 0)∧∀ H'',Snap H'' r (aw []) else r=.msl nx l.length 1 0 l.length∧H'=ah H nx (l.map av)∧nx'=nx + 1:=by
 refine Abs.Fn.of_c2 follows ur (Nat.le_of_ble_eq_true rfl) ?_
 simp only [vG,cO,cG,cN,cM,cD,cF,cB,au,aD]
 (have zz:=and_self; repeat' (first | refine zW ?_ | apply a_n | refine zO ?_ | refine vY ?_ | fail)) <;> (try clear zz)
 refine jX (k:=l.length) (by ((try simp only [bo,ZA,reduceEqDiff,↓reduceIte,reduceAdd,reduceLeDiff]); (try with_reducible rfl)); exact hn) (fun h=>?_) (fun h=>?_) (fun h=>?_)
 ·(have zz:=and_self; repeat' (first | refine zW ?_ | apply a_n | refine zO ?_ | refine vY ?_ | refine b0Y ?_ | refine cFY ?_ | fail)) <;> (try clear zz)
  refine gX rfl ev0 ev0 (hs _ fun x _=>rfl) d9 (by omega) (by omega) ?_
  (have zz:=and_self; repeat' (first | apply a_n | refine zO ?_ | refine vY ?_ | refine aa rfl ?_ | refine r1Y ?_ | fail)) <;> (try clear zz)
  refine ⟨Nat.le_refl _,by omega,fun x hx=>ab (by omega),?_⟩
  rw [if_neg (by rintro rfl; exact absurd h (by simp))]
  exact ⟨rfl,rfl,rfl⟩
 ·(have zz:=and_self; repeat' (first | refine zW ?_ | apply a_n | apply a_r | refine zO ?_ | refine vY ?_ | refine cTY ?_ | refine aa rfl ?_ | refine r1Y ?_ | fail)) <;> (try clear zz)
  refine ⟨by omega,Nat.le_refl _,fun x hx=>rfl,?_⟩
  rw [if_pos (List.length_eq_zero_iff.1 h)]
  exact ⟨rfl,fun _=>.eslsl 1⟩
 ·(have zz:=and_self; repeat' (first | refine zW ?_ | apply a_n | refine zO ?_ | refine vY ?_ | refine b0Y ?_ | refine cFY ?_ | fail)) <;> (try clear zz)
  refine gX rfl ev0 ev0 (hs _ fun x _=>rfl) d9 (by omega) (by omega) ?_
  (have zz:=and_self; repeat' (first | apply a_n | refine zO ?_ | refine vY ?_ | refine aa rfl ?_ | refine r1Y ?_ | fail)) <;> (try clear zz)
  refine ⟨Nat.le_refl _,by omega,fun x hx=>ab (by omega),?_⟩
  obtain rfl:=List.length_eq_zero_iff.1 h
  rw [if_pos rfl]
  exact ⟨rfl,fun _=>.mslnil _ _ _ _ _⟩
section
variable {g:Nat} {caps:List AV} {s:AV}
theorem zE (hs:ce s=some (.int .i64 0)) {H:Hp} {nx:Nat}:Abs.Fn Tryz.prog 149 [s,.int .i64 0,.int .i64 0,.func g caps] H nx fun r H' nx'=>nx'=nx∧H'=H:=by
 refine Abs.Fn.of_c2 follows rM (Nat.le_of_ble_eq_true rfl) ?_
 simp only [tN,cO,cG,cN,cM,cD,cF,cB,au,aD]
 (have zz:=and_self; repeat' (first | refine zW ?_ | apply a_n | refine zO ?_ | refine vZ ?_ | fail)) <;> (try clear zz)
 refine aW (X:=Unit) (fun x=>[(0,s),(1,.int .i64 0),(2,.int .i64 0),(3,.func g caps),(8,.int .i64 1)]) (fun x H' nx'=>H'=H∧nx'=nx) (fun x=>0) () ⟨rfl,rfl⟩ (by simp (disch:=omega) only [agr,ZG,reduceEqDiff,↓reduceIte,Int.zero_add,true_and]) ?_
 rintro _ _ _ ⟨rfl,rfl⟩
 (have zz:=and_self; repeat' (first | refine zW ?_ | apply a_n | apply a_x | refine zO ?_ | refine vZ ?_ | (refine zGZ ?_ ?_ <;> (intro _hg; try (exfalso; omega))) | refine aa rfl ?_ | fail)) <;> (try clear zz)
 exact ⟨rfl,rfl⟩
theorem zF (hs:ce s=some (.int .i64 0)) {H:Hp} {nx:Nat}:Abs.Fn Tryz.prog 130 [s,.int .i64 0,.int .i64 0,.int .i64 0,.func g caps] H nx fun r H' nx'=>nx'=nx∧H'=H:=by
 refine Abs.Fn.of_c2 follows rU (Nat.le_of_ble_eq_true rfl) ?_
 simp only [tQ,cO,cG,cN,cM,cD,cF,cB,au,aD]
 (have zz:=and_self; repeat' (first | refine zW ?_ | apply a_n | refine zO ?_ | refine vZ ?_ | fail)) <;> (try clear zz)
 refine aW (X:=Unit) (fun x=>[(0,s),(1,.int .i64 0),(2,.int .i64 0),(3,.int .i64 0),(4,.func g caps)]) (fun x H' nx'=>H'=H∧nx'=nx) (fun x=>0) () ⟨rfl,rfl⟩ ag0 ?_
 rintro _ _ _ ⟨rfl,rfl⟩
 (have zz:=and_self; repeat' (first | refine zW ?_ | apply a_n | refine zO ?_ | refine vZ ?_ | (refine zGZ ?_ ?_ <;> (intro _hg; try (exfalso; omega))) | fail)) <;> (try clear zz)
 refine az ev0 ev0 (zE hs) ?_
 rintro _ _ _ ⟨rfl,rfl⟩
 (have zz:=and_self; repeat' (first | apply a_n | apply a_r | refine zO ?_ | refine aa rfl ?_ | fail)) <;> (try clear zz)
 exact ⟨rfl,rfl⟩
theorem vW (hs:ce s=some (.int .i64 0)) {H:Hp} {nx:Nat}:Abs.Fn Tryz.prog 107 [s,.func g caps] H nx fun r H' nx'=>nx'=nx∧H'=H:=by
 refine Abs.Fn.of_c2 follows rK (Nat.le_of_ble_eq_true rfl) ?_
 simp only [uK,cO,cG,cN,cM,cD,cF,cB,au,aD]
 have w8:IntKind.wrap .u64 0=0:=by decide
 (have zz:=aI @w8 @hs; repeat' (first | refine zW ?_ | apply a_n | refine zO ?_ | refine vZ ?_ | fail)) <;> (try clear zz)
 refine az ev0 (have zz:=@w8; evZ) xM ?_
 rintro _ _ _ ⟨rfl,rfl,rfl⟩
 (have zz:=and_self; repeat' (first | apply a_n | refine zO ?_ | refine vZ ?_ | fail)) <;> (try clear zz)
 refine az ev0 ev0 (zF hs) ?_
 rintro _ _ _ ⟨rfl,rfl⟩
 (have zz:=and_self; repeat' (first | apply a_n | refine zO ?_ | refine aa rfl ?_ | fail)) <;> (try clear zz)
 exact ⟨rfl,rfl⟩
end
end Go.Proofs.YtjgpfclngkcedaaGreat
namespace Go.Proofs.YtjgpfclngkcedaaGreat
open Go Go.Abs
open Nat (reduceEqDiff reduceAdd reduceLeDiff)
attribute [local irreducible] aB ag aR aO aF aH ay aJ aP aZ Go.Abs.Fn aM Go.Abs.Pure an aC Yl
set_option maxHeartbeats 2000000 in
theorem rg (l:List (List Int)) (hl:l.length ≤ 1000000) (hls:∀ v ∈ l,Sh v) (h0:l ≠ []) (H:Hp) (B nx:Nat) (hH:H B=some (l.map av)) (hB:B < nx) :
    Abs.Fn Tryz.prog 108 [.msl B l.length 1 0 l.length,.func 15 []] H nx fun r H' nx'=>r=.msl B l.length 1 0 (bm l l.length)∧(∃ C,H'=ah H B C∧C.length=l.length∧C.take (bm l l.length)=(ddG l l.length).map av)∧nx'=nx:=by
 refine Abs.Fn.of_c2 follows uE (Nat.le_of_ble_eq_true rfl) ?_
 simp only [wI,cO,cG,cN,cM,cD,cF,cB,au,aD]
 have hpos:=List.length_pos_iff.2 h0
 have hid:H=ah H B (l.map av):=cQ hH
 have heq:=fun i j (hi:i < l.length) (hj:j < l.length)=>jK (l.getD i default) (l.getD j default) (hls _ (aj hi)) (hls _ (aj hj))
 have hh1:bm l 1=1:=rfl
 by_cases h1:l.length < 2
 ·have e1:l.length=1:=by omega
  have e2:ddG l l.length=l:=by
   match l,e1 with
   | [a],_=>rfl
  have z:decide ((l.length:Int) < 2)=true:=decide_eq_true (by omega)
  (have zz:=@z; repeat' (first | refine zW ?_ | apply a_n | apply a_r | refine zO ?_ | refine vZ ?_ | refine cTZ ?_ | refine aa rfl ?_ | refine r1Z ?_ | fail)) <;> (try clear zz)
  refine ⟨?_,⟨_,hid,by simp,?_⟩,rfl⟩
  ·rw [show bm l l.length=l.length by rw [e1]; rfl]
  ·rw [e2,show bm l l.length=l.length by rw [e1]; rfl,List.take_of_length_le (by simp)]
 have z:decide ((l.length:Int) < 2)=false:=decide_eq_false (by omega)
 (have zz:=@z; repeat' (first | refine zW ?_ | apply a_n | refine zO ?_ | refine vZ ?_ | refine cFZ ?_ | fail)) <;> (try clear zz)
 refine aW (X:=Nat) (fun k=>[(0,.msl B l.length 1 0 l.length),(1,.func 15 []),(5,.int .i64 k)]) (fun k H' nx'=>H'=H∧nx'=nx∧1 ≤ k∧k ≤ l.length∧bm l k=k∧ddG l k=l.take k) (fun k=>l.length - k) 1 ⟨rfl,rfl,Nat.le_refl _,hpos,rfl,by match l,h0 with | a :: r,_=>rfl⟩ ag0 ?_
 rintro k H' nx' ⟨rfl,rfl,k1,k2,k3,k4⟩
 by_cases hk:k < l.length
 rotate_left
 ·(have zz:=and_self; repeat' (first | refine zW ?_ | apply a_n | apply a_x | refine zO ?_ | refine vZ ?_ | (refine zGZ ?_ ?_ <;> (intro _hg; try (exfalso; omega))) | refine aa rfl ?_ | refine r1Z ?_ | fail)) <;> (try clear zz)
  have e:l.length=k:=by omega
  refine ⟨by rw [e,k3],⟨_,hid,by simp,?_⟩,rfl⟩
  rw [e,k3,k4,← List.map_take]
 have tk:(k:Int) - 1=(k - 1:Nat):=by omega
 have hc:=heq k (k - 1) hk (by omega)
 by_cases he:l.getD k default=l.getD (k - 1) default
 rotate_left
 ·rw [decide_eq_false he] at hc
  (have zz:=aI @tk (aI @hH @Int.toNat_natCast); repeat' (first | refine zW ?_ | refine zM ?_ | apply a_n | refine zO ?_ | refine vZ ?_ | refine cZ ?_ (hp:=hc) | refine cFZ ?_ | (refine zGZ ?_ ?_ <;> (intro _hg; try (exfalso; omega))) | fail)) <;> (try clear zz)
  exact ⟨k + 1,by omega,⟨rfl,rfl,by omega,by omega,by rw [kS he,k3],by rw [pP he,k4,bx hk]⟩,ag0⟩
 have hs:=lK (B:=B) hk (Nat.ne_of_gt hpos)
 rw [decide_eq_true he] at hc
 (have zz:=aI @tk (aI @hH (aI @Int.toNat_natCast @hs)); repeat' (first | refine zW ?_ | refine zM ?_ | apply a_n | refine zO ?_ | refine vZ ?_ | refine cZ ?_ (hp:=hc) | refine cTZ ?_ | (refine zGZ ?_ ?_ <;> (intro _hg; try (exfalso; omega))) | fail)) <;> (try clear zz)
 refine aW (X:=Nat × List (List Int)) (fun x=>[(0,.msl B l.length 1 0 l.length),(1,.func 15 []),(5,.int .i64 (bm l (k + x.1):Nat)),(6,.msl B l.length 1 k (l.length - k)),(7,.int .i64 x.1)]) (fun x H2 nx2=>x.2.length=l.length∧1 ≤ x.1∧k + x.1 ≤ l.length∧bm l (k + x.1) + 1 ≤ k + x.1∧H2=ah H' B (x.2.map av)∧nx2=nx'∧(∀ p,k + x.1 ≤ p + 1→x.2.getD p default=l.getD p default)∧x.2.take (bm l (k + x.1))=ddG l (k + x.1)) (fun x=>l.length - x.1) (1,l)
  ⟨rfl,Nat.le_refl _,hk,by dsimp only; rw [fe (by omega) he]; omega,hid,rfl,fun _ _=>rfl,by dsimp only; rw [fe (by omega) he,pQ (by omega) he,k3,k4]⟩ (by simp (disch:=omega) only [agr,ZG,reduceEqDiff,↓reduceIte,fe (show k ≠ 0 by omega) he,k3]) ?_
 rintro ⟨j,L⟩ H2 nx2 ⟨a1,a2,a3,a4,rfl,rfl,a5,a6⟩
 dsimp only at a1 a2 a3 a4 a5 a6 ⊢
 by_cases hj:k + j < l.length
 ·have tj:(j:Int) - 1=(j - 1:Nat):=by omega
  have r1:=a5 (k + j) (by omega)
  have r2:=a5 (k + (j - 1)) (by omega)
  have hc2:=heq (k + j) (k + (j - 1)) hj (by omega)
  by_cases hd:l.getD (k + j) default=l.getD (k + (j - 1)) default
  ·have hq:bm l (k + (j + 1))=bm l (k + j):=fe (l:=l) (k:=k + j) (by omega) (by rw [hd,show k + j - 1=k + (j - 1) by omega])
   rw [decide_eq_true hd] at hc2
   (have zz:=aI @tj (aI @Int.toNat_natCast (aI @r1 @r2)); repeat' (first | refine zW ?_ | refine zM ?_ | apply a_n | refine zO ?_ | refine vZ ?_ | refine cZ ?_ (hp:=hc2) | refine cFZ ?_ | (refine zGZ ?_ ?_ <;> (intro _hg; try (exfalso; omega))) | fail)) <;> (try clear zz)
   refine ⟨(j + 1,L),by dsimp only; omega,⟨a1,by dsimp only; omega,by dsimp only; omega,?_,rfl,rfl,fun p hp=>a5 p (by dsimp only at hp; omega),by dsimp only; rw [hq,show k + (j + 1)=k + j + 1 from rfl,pQ (by omega) (by rw [hd,show k + j - 1=k + (j - 1) by omega])]; exact a6⟩,(have zz:=@hq; agZ)⟩
   dsimp only
   rw [hq]
   omega
  ·have hq:bm l (k + (j + 1))=bm l (k + j) + 1:=kS (l:=l) (k:=k + j) (by rw [show k + j - 1=k + (j - 1) by omega]; exact hd)
   have hlm:=c8 (f:=av) (l:=L) (k:=bm l (k + j)) (x:=l.getD (k + j) default) (by omega)
   rw [decide_eq_false hd] at hc2
   (have zz:=aI @tj (aI @Int.toNat_natCast (aI @r1 @r2)); repeat' (first | refine zW ?_ | refine zM ?_ | apply a_n | refine zO ?_ | refine vZ ?_ | refine cZ ?_ (hp:=hc2) | refine stZ ?_ | refine cTZ ?_ | (refine zGZ ?_ ?_ <;> (intro _hg; try (exfalso; omega))) | fail)) <;> (try clear zz)
   refine ⟨(j + 1,L.set (bm l (k + j)) (l.getD (k + j) default)),by dsimp only; omega,⟨by simp [a1],by dsimp only; omega,by dsimp only; omega,?_,?_,rfl,fun p hp=>?_,by dsimp only; rw [hq,sU (by omega),a6,show k + (j + 1)=k + j + 1 from rfl,pP (by rw [show k + j - 1=k + (j - 1) by omega]; exact hd)]⟩,(have zz:=@hq; agZ)⟩
   ·dsimp only
    rw [hq]
    omega
   ·dsimp only
    rw [am,hlm]
   ·dsimp only at hp ⊢
    rw [List.getD_eq_getElem?_getD,List.getElem?_set_ne (by omega),← List.getD_eq_getElem?_getD]
    exact a5 p (by omega)
 ·have hn:k + j=l.length:=by omega
  have hl1:=lK (B:=B) (n:=l.length) (show bm l (k + j) < l.length by omega) (Nat.ne_of_gt hpos)
  have hl2:=qN (B:=B) (n:=l.length) (show bm l (k + j) ≤ l.length by omega) (Nat.ne_of_gt hpos)
  (have zz:=aI @hl1 @hl2; repeat' (first | refine zW ?_ | apply a_n | apply a_x | refine zO ?_ | refine vZ ?_ | (refine zGZ ?_ ?_ <;> (intro _hg; try (exfalso; omega))) | fail)) <;> (try clear zz)
  refine AK (H':=ah (ah H' B (L.map av)) B (bg (L.map av) (bm l (k + j)) (aX .esl (l.length - bm l (k + j))))) ?_ ?_
  ·((try simp only [bo,ZA,reduceEqDiff,↓reduceIte,reduceAdd,reduceLeDiff]); (try with_reducible rfl))
   simp only [fF]
   rw [if_neg (by omega),ai]
   dsimp only
   rw [if_pos ⟨by simp [a1],trivial,rfl,rfl,by omega⟩]
   rfl
  ·(have zz:=@hl2; repeat' (first | refine zW ?_ | apply a_n | apply a_r | refine zO ?_ | refine vZ ?_ | refine aa rfl ?_ | refine r1Z ?_ | fail)) <;> (try clear zz)
   refine ⟨by rw [hn],⟨_,am _ _ _ _,?_,?_⟩,rfl⟩
   ·have hz:(aX AV.esl (l.length - bm l (k + j))).length=l.length - bm l (k + j):=by simp [aX,show (AV.esl).cells.length=1 from rfl]
    simp [bg,hz]
    omega
   ·rw [← hn,← a6,List.map_take]
    simp only [bg]
    rw [List.append_assoc,List.take_append_of_le_length (by simp; omega),List.take_of_length_le (by simp; omega)]
theorem pR (s:AV) (l:List (List Int)) (hl:l.length ≤ 1000000) (hls:∀ v ∈ l,Sh v) (H:Hp) (nx:Nat) (hn:eo s=some l.length) (hs:∀ H',(∀ x,x < nx→H' x=H x)→b7 1 H' s=some (l.length,l.map av)):Abs.Fn Tryz.prog 57 [s] H nx fun r H' nx'=>Snap H' r (aw (e8 l))∧(∀ x,x < nx→H' x=H x)∧nx ≤ nx':=by
 refine Abs.Fn.of_c2 follows zl (Nat.le_of_ble_eq_true rfl) ?_
 simp only [b57,cO,cG,cN,cM,cD,cF,cB,au,aD]
 (have zz:=and_self; repeat' (first | refine zW ?_ | apply a_n | refine zO ?_ | refine vY ?_ | fail)) <;> (try clear zz)
 refine az ev0 ev0 (uT s l hl H nx hn hs) ?_
 rintro r H1 n1 ⟨h1,h2,h3,h4⟩
 by_cases h0:l=[]
 ·subst h0
  rw [if_pos rfl] at h4
  obtain ⟨r1,r2⟩:=h4
  (have zz:=and_self; repeat' (first | refine zW ?_ | apply a_n | refine zO ?_ | refine vY ?_ | fail)) <;> (try clear zz)
  refine az ev0 ev0 (vW r1) ?_
  rintro _ _ _ ⟨rfl,rfl⟩
  (have zz:=and_self; repeat' (first | refine zW ?_ | apply a_n | refine zO ?_ | refine vY ?_ | fail)) <;> (try clear zz)
  have hcf:∀ H2 n2,Abs.Fn Tryz.prog 108 [r,.func 15 []] H2 n2 fun r' H' nx'=>r'=r∧H'=H2∧nx'=n2:=fun H2 n2=>by
   refine Abs.Fn.of_c2 follows uE (Nat.le_of_ble_eq_true rfl) ?_
   simp only [wI,cO,cG,cN,cM,cD,cF,cB,au,aD]
   (have zz:=@r1; repeat' (first | refine zW ?_ | apply a_n | apply a_r | refine zO ?_ | refine vZ ?_ | (refine zGZ ?_ ?_ <;> (intro _hg; try (exfalso; omega))) | refine aa rfl ?_ | refine r1Z ?_ | fail)) <;> (try clear zz)
   exact ⟨rfl,rfl,rfl⟩
  refine az ev0 ev0 (hcf _ _) ?_
  rintro _ _ _ ⟨rfl,rfl,rfl⟩
  (have zz:=and_self; repeat' (first | apply a_n | refine zO ?_ | refine vY ?_ | refine aa rfl ?_ | refine r1Y ?_ | fail)) <;> (try clear zz)
  exact ⟨r2 _,h3,h2⟩
 rw [if_neg h0] at h4
 obtain ⟨rfl,rfl,rfl⟩:=h4
 have hpos:=List.length_pos_iff.2 h0
 (have zz:=and_self; repeat' (first | refine zW ?_ | apply a_n | refine zO ?_ | refine vY ?_ | fail)) <;> (try clear zz)
 refine az ev0 ev0 (rG zj ai (Nat.lt_succ_self nx) rfl hpos hls (by omega)) ?_
 rintro _ H2 n2 ⟨M,hps,hpM,hsM⟩
 have hMl:M.length=l.length:=hpM.length_eq
 have hM:M=hZ l:=f8 lR (fun x _ y _=>oO) (bX.of (by rw [hMl]; exact hsM)) hpM
 have hMs:∀ v ∈ M,Sh v:=fun v hv=>hls v (hpM.mem_iff.1 hv)
 have hM0:M ≠ []:=fun e=>by rw [e] at hMl; simp at hMl; omega
 have hcp:=rg M (by omega) hMs hM0 H2 nx n2 hps.at_ (by have:=hps.le; omega)
 rw [hMl] at hcp
 (have zz:=and_self; repeat' (first | refine zW ?_ | apply a_n | refine zO ?_ | refine vY ?_ | fail)) <;> (try clear zz)
 refine az ev0 ev0 hcp ?_
 rintro _ _ _ ⟨rfl,⟨C,rfl,c1,c2⟩,rfl⟩
 (have zz:=and_self; repeat' (first | apply a_n | refine zO ?_ | refine vY ?_ | refine aa rfl ?_ | refine r1Y ?_ | fail)) <;> (try clear zz)
 refine ⟨?_,fun x hx=>by rw [ab (by omega),hps.fr x (by omega) (by omega),ab (by omega)],by have:=hps.le; omega⟩
 have hdd:ddG M l.length=e8 l:=by
  have:=wk l
  rw [← hM,hMl] at this
  exact this
 have hhl:=wE M l.length
 have hle:=s7 M l.length
 rw [hdd] at c2 hhl
 refine lG (cs:=C) ai c1 (by omega) (by simp [hhl]) (fun y hy=>?_) (fun i x y hx hy=>?_)
 ·obtain ⟨v,_,rfl⟩:=List.mem_map.1 hy; rfl
 ·rw [Nat.zero_add] at hx
  have hil:i < bm M l.length:=by
   have:=(List.getElem?_eq_some_iff.1 hy).1
   rw [List.length_map] at this
   omega
  have e1:(C.take (bm M l.length))[i]?=some x:=by rw [List.getElem?_take,if_pos hil]; exact hx
  rw [c2,hy] at e1
  cases e1
  obtain ⟨v,_,rfl⟩:=List.mem_map.1 (List.mem_of_getElem? hy)
  exact bf _ _
end Go.Proofs.YtjgpfclngkcedaaGreat
namespace Go.Proofs.YtjgpfclngkcedaaGreat
open Go Go.Abs
open Nat (reduceEqDiff reduceAdd reduceLeDiff)
attribute [local irreducible] aB ag aR aO aF aH ay aJ aP aZ Go.Abs.Fn aM Go.Abs.Pure an aC Yl
end Go.Proofs.YtjgpfclngkcedaaGreat
namespace Go.Proofs.YtjgpfclngkcedaaGreat
open Go Go.Abs
open Nat (reduceEqDiff reduceAdd reduceLeDiff)
attribute [local irreducible] aB ag aR aO aF aH ay aJ aP aZ Go.Abs.Fn aM Go.Abs.Pure an aC Yl
end Go.Proofs.YtjgpfclngkcedaaGreat
namespace Go.Proofs.YtjgpfclngkcedaaGreat
open Go Go.Abs
theorem z7 {H:Hp} {n i o:Int} {sv:AV} {L:List CaseV} (h:Snap H sv (ba L)):Snap H (.agg [.int .i64 n,.int .i64 i,.int .i64 o,sv]) (bt ⟨n,i,o,L⟩) :=
 jB (ax (.int _ _) (ax (.int _ _) (ax (.int _ _) (ax h af))))
theorem uh {H:Hp} {n i o e:Int} {sv:AV} {L:List CaseV} (h:Snap H sv (ba L)):Snap H (.tup [.agg [.int .i64 n,.int .i64 i,.int .i64 o,sv],.int .i64 e]) (.tup [bt ⟨n,i,o,L⟩,.int .i64 e]) :=
 er (ax (z7 h) (ax (.int _ _) af))
attribute [local irreducible] aB ag aR aO aF aH ay aJ aP aZ Go.Abs.Fn aM Go.Abs.Pure an aC Yl
theorem tL (x y:List (List Int)) (hx:Sh x) (hy:Sh y) (hxs:∀ v ∈ x,Sh v) (hys:∀ v ∈ y,Sh v):Pure Tryz.prog 27 [aw x,aw y] (.bool (decide (x=y))):=by
 refine Pure.of_c2 follows yd (Nat.le_of_ble_eq_true rfl) ?_
 simp only [b27,cO,cG,cN,cM,cD,cF,cB,au,aD]
 have hx':x.length ≤ 17592186044416:=hx
 have hy':y.length ≤ 17592186044416:=hy
 by_cases hlen:x.length=y.length
 rotate_left
 ·have z:decide ((x.length:Int) ≠ y.length)=true:=decide_eq_true (by omega)
  rw [decide_eq_false (fun e=>hlen (by rw [e]))]
  (have zz:=@z; repeat' (first | refine zW ?_ | apply a_n | apply a_r | refine zO ?_ | refine vZ ?_ | refine cTZ ?_ | refine aa rfl ?_ | refine r1Z ?_ | fail)) <;> (try clear zz)
  exact .bool _
 have z:decide ((x.length:Int) ≠ y.length)=false:=decide_eq_false (by omega)
 (have zz:=@z; repeat' (first | refine zW ?_ | apply a_n | refine zO ?_ | refine vZ ?_ | refine cFZ ?_ | fail)) <;> (try clear zz)
 refine iI (fun k=>[(0,aw x),(1,aw y),(5,.int .i64 k)]) x.length (fun k=>x.getD k default=y.getD k default) ag0 ?_
 intro k hk hz
 by_cases hk2:k < x.length
 rotate_left
 ·(have zz:=and_self; repeat' (first | refine zW ?_ | apply a_n | apply a_x | refine zO ?_ | refine vZ ?_ | (refine zGZ ?_ ?_ <;> (intro _hg; try (exfalso; omega))) | refine aa rfl ?_ | refine r1Z ?_ | fail)) <;> (try clear zz)
  refine bC ?_
  symm; rw [decide_eq_true_iff]
  refine List.ext_getElem hlen fun i h3 h4=>?_
  have:=hz i (by omega)
  simpa [List.getD,h3,h4] using this
 have hc:=gd (x.getD k default) (y.getD k default) (hxs _ (aj hk2)) (hys _ (aj (by omega)))
 by_cases he:x.getD k default=y.getD k default
 ·rw [nk.2 he] at hc
  (have zz:=and_self; repeat' (first | refine zW ?_ | refine zM ?_ | apply a_n | refine zO ?_ | refine vZ ?_ | refine cZ ?_ (hp:=hc) | (refine zGZ ?_ ?_ <;> (intro _hg; try (exfalso; omega))) | fail)) <;> (try clear zz)
  exact ⟨hk2,he,ag0,rfl,rfl⟩
 ·have z:decide (aQ (x.getD k default) (y.getD k default) ≠ 0)=true:=decide_eq_true (o8 he)
  rw [decide_eq_false (p:=x=y) (fun e=>he (by rw [e]))]
  (have zz:=@z; repeat' (first | refine zW ?_ | refine zM ?_ | apply a_n | apply a_r | refine zO ?_ | refine vZ ?_ | refine cZ ?_ (hp:=hc) | refine cTZ ?_ | (refine zGZ ?_ ?_ <;> (intro _hg; try (exfalso; omega))) | refine aa rfl ?_ | refine r1Z ?_ | fail)) <;> (try clear zz)
  exact .bool _
end Go.Proofs.YtjgpfclngkcedaaGreat
namespace Go.Proofs.YtjgpfclngkcedaaGreat
open Go Go.Abs
open Nat (reduceEqDiff reduceAdd reduceLeDiff)
attribute [local irreducible] aB ag aR aO aF aH ay aJ aP aZ Go.Abs.Fn aM Go.Abs.Pure an aC Yl
end Go.Proofs.YtjgpfclngkcedaaGreat
namespace Go.Proofs.YtjgpfclngkcedaaGreat
open Go Go.Abs
structure Fit (t:TaskV):Prop where
 sh:∀ c ∈ t.cases,ShC c
 len:t.cases.length ≤ 100000
 q:∀ c ∈ t.cases,c.out.length ≤ 100000∧c.calm.length ≤ 100000
theorem Fit.sh2 {t:TaskV} (h:Fit t):Sh t.cases:=by have:=h.len; show _ ≤ _; omega
structure Fit4 (t:TaskV):Prop where
 fit:Fit t
 q4:∀ c ∈ t.cases,c.out.length ≤ 40000∧c.calm.length ≤ 40000
attribute [local irreducible] aB ag aR aO aF aH ay aJ aP aZ Go.Abs.Fn aM Go.Abs.Pure an aC Yl
end Go.Proofs.YtjgpfclngkcedaaGreat
namespace Go.Proofs.YtjgpfclngkcedaaGreat
open Go Go.Abs
open Nat (reduceEqDiff reduceAdd reduceLeDiff)
theorem ux {t:TaskV} (h:a8 t=0) {c:CaseV} (hc:c ∈ t.cases):f0 c.out∧f0 c.calm∧(∀ f,f0 (mA c f))∧∀ f,∀ v ∈ mA c f,v ∈ c.out:=by
 obtain ⟨g1,g2,g3,g4,g5⟩:=c6 (e5 h hc).2
 have a1:=nI g3
 have a2:=nI g5
 refine ⟨a1,a2,fun f=>?_,fun f v hv=>?_⟩
 ·unfold mA; split <;> assumption
 ·unfold mA at hv
  split at hv
  ·exact g4 v hv
  ·exact hv
attribute [local irreducible] aB ag aR aO aF aH ay aJ aP aZ Go.Abs.Fn aM Go.Abs.Pure an aC Yl
end Go.Proofs.YtjgpfclngkcedaaGreat
namespace Go.Proofs.YtjgpfclngkcedaaGreat
open Go Go.Abs
attribute [local irreducible] aB ag aR aO aF aH ay aJ aP aZ Go.Abs.Fn aM Go.Abs.Pure an aC Yl
end Go.Proofs.YtjgpfclngkcedaaGreat
namespace Go.Proofs.YtjgpfclngkcedaaGreat
open Go Go.Abs
open Nat (reduceEqDiff reduceAdd reduceLeDiff)
structure Fit30 (t:TaskV):Prop where
 sh:∀ c ∈ t.cases,ShC c
 len:t.cases.length ≤ 30
 q:∀ c ∈ t.cases,c.out.length ≤ 30∧c.calm.length ≤ 30
theorem Fit30.of {t:TaskV} (h:i8 t=true):Fit30 t:=by
 have hsh:=wg h
 unfold i8 at h
 rw [Bool.and_eq_true,decide_eq_true_iff,List.all_eq_true] at h
 refine ⟨hsh.2,h.1,fun c hc=>?_⟩
 have hf:=h.2 c hc
 unfold oE iL at hf
 simp only [Bool.and_eq_true,decide_eq_true_iff,List.all_eq_true] at hf
 exact ⟨hf.1.2.1,hf.2.1⟩
theorem Fit30.four {t:TaskV} (h:Fit30 t):Fit4 t:=⟨⟨h.sh,by have:=h.len; omega,fun c hc=>by have:=h.q c hc; omega⟩,fun c hc=>by have:=h.q c hc; omega⟩
theorem Fit30.fit {t:TaskV} (h:Fit30 t):Fit t:=h.four.fit
theorem r4 {H:Hp} {sv:AV} {l:List (List Int)} {nx:Nat} (h:Row H 1 sv (l.map av)) (hb:∀ b,cp sv=some b→b < nx):eo sv=some l.length∧∀ H',(∀ x,x < nx→H' x=H x)→b7 1 H' sv=some (l.length,l.map av):=by
 generalize hcs:l.map av=cs at h
 have hl:cs.length=l.length:=by rw [← hcs,List.length_map]
 cases h with
 | nil =>
  have:l.length=0:=by rw [← hl]; rfl
  rw [this]
  exact ⟨rfl,fun _ _=>rfl⟩
 | box B len cs h1 h2 =>
  have e:len=l.length:=by omega
  subst e
  refine ⟨by simp [eo],fun H' hH=>?_⟩
  rw [co ((hH B (hb B rfl)).trans h1) (by omega) (by omega),List.drop_zero,List.take_of_length_le (by omega)]
attribute [local irreducible] aB ag aR aO aF aH ay aJ aP aZ Go.Abs.Fn aM Go.Abs.Pure an aC Yl
theorem vC (v:List Int) (hv:v.length ≤ 1000000) (h0:v ≠ []) (H:Hp) (nx:Nat):Abs.Fn Tryz.prog 42 [av v] H nx fun r H' nx'=>r=.msl nx v.length 1 0 v.length∧H'=ah H nx (v.map (AV.int .i64))∧nx'=nx + 1:=by
 refine Abs.Fn.of_c2 follows uZ (Nat.le_of_ble_eq_true rfl) ?_
 simp only [b42,cO,cG,cN,cM,cD,cF,cB,au,aD]
 have hp:=List.length_pos_iff.2 h0
 (have zz:=and_self; repeat' (first | refine zW ?_ | apply a_n | refine zO ?_ | refine vY ?_ | fail)) <;> (try clear zz)
 refine jX (k:=v.length) (by ((try simp only [bo,ZA,reduceEqDiff,↓reduceIte,reduceAdd,reduceLeDiff]); (try with_reducible rfl)); exact i6) (fun h=>?_) (fun h=>by omega) (fun h=>by omega)
 (have zz:=and_self; repeat' (first | refine zW ?_ | apply a_n | refine zO ?_ | refine vY ?_ | refine b0Y ?_ | refine a0Y ?_ | refine cFY ?_ | refine aa rfl ?_ | refine r1Y ?_ | fail)) <;> (try clear zz)
 exact ⟨rfl,rfl,rfl⟩
end Go.Proofs.YtjgpfclngkcedaaGreat
namespace Go.Proofs.YtjgpfclngkcedaaGreat
open Go Go.Abs
theorem jQ {t:TaskV} (h:a8 t=0) {c:CaseV} (hc:c ∈ t.cases):(∀ v ∈ c.out,(v.length:Int)=t.n∧∀ z ∈ v,0 ≤ z∧z < t.outs)∧∀ f,∀ v ∈ mA c f,(v.length:Int)=t.n∧∀ z ∈ v,0 ≤ z∧z < t.outs:=by
 obtain ⟨g1,g2,g3,g4,g5⟩:=c6 (e5 h hc).2
 have h1:∀ v ∈ c.out,(v.length:Int)=t.n∧∀ z ∈ v,0 ≤ z∧z < t.outs:=fun v hv=>jL (g2 v hv)
 exact ⟨h1,fun f v hv=>h1 v ((ux h hc).2.2.2 f v hv)⟩
attribute [local irreducible] aB ag aR aO aF aH ay aJ aP aZ Go.Abs.Fn aM Go.Abs.Pure an aC Yl
end Go.Proofs.YtjgpfclngkcedaaGreat
namespace Go.Proofs.YtjgpfclngkcedaaGreat
open Go Go.Abs
theorem vu {H:Hp} {sv:AV} {l:List Int} (h:Row H 1 sv (l.map (AV.int .i64))) (h0:0 < l.length):∃ B,sv=.msl B l.length 1 0 l.length∧H B=some (l.map (AV.int .i64)):=by
 generalize hcs:l.map (AV.int .i64)=cs at h
 have hl:cs.length=l.length:=by rw [← hcs,List.length_map]
 cases h with
 | nil=>simp at hl; omega
 | box B len cs h1 h2 =>
  have e:len=l.length:=by omega
  subst e
  exact ⟨B,by rw [Nat.mul_one],h1⟩
theorem ka {H:Hp} {d:Nat} {x:Int}:b7 1 (ah H d [.int .i64 x]) (.msl d 1 1 0 1)=some (1,[.int .i64 x]):=co (n:=1) (len:=1) (off:=0) (cs:=[.int .i64 x]) ai rfl (by simp)
attribute [local irreducible] aB ag aR aO aF aH ay aJ aP aZ Go.Abs.Fn aM Go.Abs.Pure an aC Yl
end Go.Proofs.YtjgpfclngkcedaaGreat
namespace Go.Proofs.YtjgpfclngkcedaaGreat
open Go Go.Abs
open Nat (reduceEqDiff reduceAdd reduceLeDiff)
def b8 (n:Nat):Nat→List Int→List (List Int)
 | 0,b=>[b]
 | k + 1,b=>(List.range n).flatMap fun (p:Nat)=>if (p:Int) ∈ b then [] else b8 n k (b ++ [(p:Int)])
def fU (n:Nat):List (List Int):=b8 n n []
theorem fc (n:Nat) (hn:n ≤ 5):∀ (k:Nat) (b:List Int),(b8 n k b).length ≤ 5 ^ k
 | 0,b=>Nat.le_refl _
 | k + 1,b=>by
  have key:∀ l:List Nat,l.length ≤ 5→(l.flatMap fun (p:Nat)=>if (p:Int) ∈ b then [] else b8 n k (b ++ [(p:Int)])).length ≤ l.length * 5 ^ k:=by
   intro l
   induction l with
   | nil=>intro _; simp
   | cons a l ih =>
    intro h
    rw [List.length_cons] at h
    have i2:=ih (by omega)
    have h2:=fc n hn k (b ++ [(a:Int)])
    rw [List.flatMap_cons,List.length_append,List.length_cons,Nat.add_mul]
    have h3:(if (a:Int) ∈ b then [] else b8 n k (b ++ [(a:Int)])).length ≤ 5 ^ k:=by
     split
     ·exact Nat.zero_le _
     ·exact h2
    omega
  have h1:=key (List.range n) (by rw [List.length_range]; exact hn)
  rw [List.length_range] at h1
  refine Nat.le_trans h1 ?_
  rw [Nat.pow_succ,Nat.mul_comm]
  exact Nat.mul_le_mul_left _ hn
theorem nR {α:Type} {f:Nat→List α} {k:Nat}:(List.range (k + 1)).flatMap f=(List.range k).flatMap f ++ f k:=by
 rw [List.range_succ,List.flatMap_append]; simp
theorem jr (n:Nat) (h1:1 ≤ n) (h5:n ≤ 5):(fU n).length ≤ 120∧∀ p ∈ fU n,b0 p=0∧p.length=n:=by
 have key:∀ n ∈ [1,2,3,4,5],(fU n).length ≤ 120∧∀ p ∈ fU n,b0 p=0∧p.length=n:=by decide +kernel
 exact key n (by have : n = 1 ∨ n = 2 ∨ n = 3 ∨ n = 4 ∨ n = 5 := by omega
                 rcases this with rfl | rfl | rfl | rfl | rfl <;> decide)
theorem nY {H:Hp} {s:AV} {b:List Int} (h:Row H 1 s (b.map (AV.int .i64))):∃ Hf H',Fz Hf H H'∧Snap Hf s (av b)∧∀ x,cp s ≠ some x→H' x=H x:=by
 generalize hcs:b.map (AV.int .i64)=cs at h
 have hl:cs.length=b.length:=by rw [← hcs,List.length_map]
 cases h with
 | nil =>
  have:b=[]:=List.length_eq_zero_iff.1 (by rw [← hl]; rfl)
  subst this
  exact ⟨aL,H,Fz.none,.eslsl 1,fun _ _=>rfl⟩
 | box B len cs h1 h2 =>
  refine ⟨only B cs,b5 H B,Fz.one h1,?_,fun x hx=>jc (fun e=>hx (by rw [e]; rfl))⟩
  subst hcs
  have e:len=b.length:=by rw [List.length_map] at h2; omega
  subst e
  rw [Nat.mul_one]
  exact gQ lh rfl rfl
attribute [local irreducible] aB ag aR aO aF aH ay aJ aP aZ Go.Abs.Fn aM Go.Abs.Pure an aC Yl
theorem u9 (b:List Int) (hb:b.length ≤ 1000) (H:Hp) (nx:Nat):Abs.Fn Tryz.prog 42 [av b] H nx fun r H' nx'=>Row H' 1 r (b.map (AV.int .i64))∧(∀ x,cp r=some x→nx ≤ x∧x < nx')∧(∀ x,x < nx→H' x=H x)∧nx ≤ nx':=by
 refine Abs.Fn.of_c2 follows uZ (Nat.le_of_ble_eq_true rfl) ?_
 simp only [b42,cO,cG,cN,cM,cD,cF,cB,au,aD]
 (have zz:=and_self; repeat' (first | refine zW ?_ | apply a_n | refine zO ?_ | refine vY ?_ | fail)) <;> (try clear zz)
 have fin:Row (ah H nx (b.map (AV.int .i64))) 1 (.msl nx b.length 1 0 b.length) (b.map (AV.int .i64)):=by
  have:=Row.box (H:=ah H nx (b.map (AV.int .i64))) (sz:=1) nx b.length (b.map (AV.int .i64)) ai (by simp)
  rwa [Nat.mul_one] at this
 refine jX (k:=b.length) (by ((try simp only [bo,ZA,reduceEqDiff,↓reduceIte,reduceAdd,reduceLeDiff]); (try with_reducible rfl)); exact i6) (fun h=>?_) (fun h=>?_) (fun h=>?_)
 ·(have zz:=and_self; repeat' (first | refine zW ?_ | apply a_n | refine zO ?_ | refine vY ?_ | refine b0Y ?_ | refine a0Y ?_ | refine cFY ?_ | refine aa rfl ?_ | refine r1Y ?_ | fail)) <;> (try clear zz)
  exact ⟨fin,fun x hx=>by cases hx; omega,fun x hx=>ab (by omega),by omega⟩
 ·(have zz:=and_self; repeat' (first | refine zW ?_ | apply a_n | apply a_r | refine zO ?_ | refine vY ?_ | refine cTY ?_ | refine aa rfl ?_ | refine r1Y ?_ | fail)) <;> (try clear zz)
  obtain rfl:=List.length_eq_zero_iff.1 h
  exact ⟨Row.nil,fun x hx=>(by cases hx),fun x hx=>rfl,Nat.le_refl _⟩
 ·(have zz:=and_self; repeat' (first | refine zW ?_ | apply a_n | refine zO ?_ | refine vY ?_ | refine b0Y ?_ | refine a0Y ?_ | refine cFY ?_ | refine aa rfl ?_ | refine r1Y ?_ | fail)) <;> (try clear zz)
  exact ⟨fin,fun x hx=>by cases hx; omega,fun x hx=>ab (by omega),by omega⟩
set_option maxHeartbeats 2000000 in
theorem Ak (n:Nat) (hn:n ≤ 5):∀ (k:Nat) (b:List Int) (s:AV) (H:Hp) (nx:Nat),b.length + k=n→Row H 1 s (b.map (AV.int .i64))→(∀ x,cp s=some x→x < nx) →
    Abs.Fn Tryz.prog 119 [.int .i64 n,s] H nx fun r H' nx'=>Row H' 1 r ((b8 n k b).map av)∧(∀ x,cp r=some x→nx ≤ x∧x < nx')∧(∀ x,x < nx→cp s ≠ some x→H' x=H x)∧nx ≤ nx':=by
 intro k
 induction k with
 | zero =>
  intro b s H nx hk hrow hbd
  refine Abs.Fn.of_c2 follows tV (Nat.le_of_ble_eq_true rfl) ?_
  simp only [wc,cO,cG,cN,cM,cD,cF,cB,au,aD]
  obtain ⟨Hf,H0,hfz,hsn,hfr⟩:=nY hrow
  refine bG ?_
  refine fu Hf H0 [(0,.int .i64 n),(1,av b)] hfz ⟨.inl (have zz:=and_self; evY),.inr hsn,trivial⟩ ?_
  have hcl:=p8 b (show _ ≤ _ by omega)
  have z:decide ((b.length:Int)=(n:Int))=true:=decide_eq_true (by omega)
  (have zz:=@z; repeat' (first | refine zW ?_ | apply a_n | refine zO ?_ | refine vY ?_ | refine cTY ?_ | fail)) <;> (try clear zz)
  refine r6 (have zz:=and_self; evY) (have zz:=and_self; evY) hcl (ax (bf _ _) af) ?_
  (have zz:=and_self; repeat' (first | apply a_n | apply a_r | refine zO ?_ | refine vY ?_ | refine blY ?_ | refine aa rfl ?_ | refine r1Y ?_ | fail)) <;> (try clear zz)
  refine ⟨?_,fun x hx=>by cases hx; omega,fun x hx hr=>by rw [ab (by omega),hfr x hr],by omega⟩
  exact Row.box (sz:=1) nx 1 [av b] ai rfl
 | succ k ih =>
  intro b s H nx hk hrow hbd
  refine Abs.Fn.of_c2 follows tV (Nat.le_of_ble_eq_true rfl) ?_
  simp only [wc,cO,cG,cN,cM,cD,cF,cB,au,aD]
  obtain ⟨Hf,H0,hfz,hsn,hfr⟩:=nY hrow
  refine bG ?_
  refine fu Hf H0 [(0,.int .i64 n),(1,av b)] hfz ⟨.inl (have zz:=and_self; evY),.inr hsn,trivial⟩ ?_
  have z:decide ((b.length:Int)=(n:Int))=false:=decide_eq_false (by omega)
  (have zz:=@z; repeat' (first | refine zW ?_ | apply a_n | refine zO ?_ | refine vY ?_ | refine cFY ?_ | fail)) <;> (try clear zz)
  refine aW (X:=AV × Nat) (fun x=>[(0,.int .i64 n),(1,av b),(5,x.1),(14,.int .i64 n),(15,.int .i64 x.2)]) (fun x H' nx'=>x.2 ≤ n∧nx ≤ nx'∧Row H' 1 x.1 (((List.range x.2).flatMap fun (p:Nat)=>if (p:Int) ∈ b then [] else b8 n k (b ++ [(p:Int)])).map av)∧(∀ y,cp x.1=some y→nx ≤ y∧y < nx')∧∀ y,y < nx→H' y=H0 y) (fun x=>n - x.2) (.esl,0) ⟨Nat.zero_le _,Nat.le_refl _,Row.nil,fun y hy=>(by cases hy),fun _ _=>rfl⟩ ag0 ?_
  rintro ⟨out,p⟩ H1 nx1 ⟨hp,hnx,hro,hbo,hsm⟩
  dsimp only at hp hro hbo ⊢
  by_cases hp2:p < n
  rotate_left
  ·(have zz:=and_self; repeat' (first | refine zW ?_ | apply a_n | apply a_x | refine zO ?_ | refine vY ?_ | (refine zGY ?_ ?_ <;> (intro _hg; try (exfalso; omega))) | refine aa rfl ?_ | refine r1Y ?_ | fail)) <;> (try clear zz)
   obtain rfl:p=n:=by omega
   exact ⟨hro,hbo,fun x hx hr=>by rw [hsm x hx,hfr x hr],hnx⟩
  have hst:=nR (f:=fun (p:Nat)=>if (p:Int) ∈ b then [] else b8 n k (b ++ [(p:Int)])) (k:=p)
  have hct:=rm b (p:Int) (show _ ≤ _ by omega)
  have hlenA:((List.range p).flatMap fun (p:Nat)=>if (p:Int) ∈ b then [] else b8 n k (b ++ [(p:Int)])).length ≤ 3125 * 5:=by
   have key:∀ l:List Nat,(l.flatMap fun (p:Nat)=>if (p:Int) ∈ b then [] else b8 n k (b ++ [(p:Int)])).length ≤ l.length * 3125:=by
    intro l
    induction l with
    | nil=>simp
    | cons a l ih2 =>
     rw [List.flatMap_cons,List.length_append,List.length_cons,Nat.add_mul]
     have h2:=fc n hn k (b ++ [(a:Int)])
     have h4:5 ^ k ≤ 5 ^ 5:=Nat.pow_le_pow_right (by omega) (by omega)
     have h3:(if (a:Int) ∈ b then [] else b8 n k (b ++ [(a:Int)])).length ≤ 5 ^ k:=by
      split
      ·exact Nat.zero_le _
      ·exact h2
     omega
   have:=key (List.range p)
   rw [List.length_range] at this
   omega
  generalize hA:((List.range p).flatMap fun (p:Nat)=>if (p:Int) ∈ b then [] else b8 n k (b ++ [(p:Int)]))=A at *
  by_cases hm:(p:Int) ∈ b
  ·rw [decide_eq_true hm] at hct
   rw [if_pos hm,List.append_nil] at hst
   (have zz:=and_self; repeat' (first | refine zW ?_ | apply a_n | refine zO ?_ | refine vY ?_ | refine cY ?_ (hp:=hct) | refine cFY ?_ | (refine zGY ?_ ?_ <;> (intro _hg; try (exfalso; omega))) | fail)) <;> (try clear zz)
   exact ⟨(out,p + 1),by dsimp only; omega,⟨by dsimp only; omega,hnx,by dsimp only; rw [hst]; exact hro,hbo,hsm⟩,ag0⟩
  rw [decide_eq_false hm] at hct
  rw [if_neg hm] at hst
  have hpl:=fc n hn k (b ++ [(p:Int)])
  have h4:5 ^ k ≤ 5 ^ 5:=Nat.pow_le_pow_right (by omega) (by omega)
  (have zz:=and_self; repeat' (first | refine zW ?_ | apply a_n | refine zO ?_ | refine vY ?_ | refine cY ?_ (hp:=hct) | refine cTY ?_ | (refine zGY ?_ ?_ <;> (intro _hg; try (exfalso; omega))) | fail)) <;> (try clear zz)
  refine az (have zz:=and_self; evY) (have zz:=and_self; evY) (u9 b (by omega) H1 nx1) ?_
  rintro r1 H2 n2 ⟨c1,c2,c3,c4⟩
  (have zz:=and_self; repeat' (first | apply a_n | refine zO ?_ | refine vY ?_ | refine blY ?_ | fail)) <;> (try clear zz)
  refine fl rfl ev0 (c1.same fun y hy=>?_) ev0 ka rfl rfl Nat.one_pos (by rw [List.length_map]; omega) (by rw [List.length_map]; omega) ?_
  ·have:=c2 y hy
   rw [ab (by omega)]
  rintro r2 H3 n3 d1 d2 d3 d4 d5
  have d1':Row H3 1 r2 ((b ++ [(p:Int)]).map (AV.int .i64)):=by rw [List.map_append]; exact d1
  have db:∀ x,cp r2=some x→nx1 ≤ x∧x < n3:=fun x hx=>by
   rcases d5 x hx with h | h
   ·have:=c2 x h; omega
   ·omega
  refine az (have zz:=and_self; evY) (have zz:=and_self; evY) (ih (b ++ [(p:Int)]) r2 H3 n3 (by simp; omega) d1' (fun x hx=>(db x hx).2)) ?_
  rintro r3 H4 n4 ⟨e1,e2,e3,e4⟩
  have f3:∀ x,x < nx1→H3 x=H1 x:=fun x hx=>by
   rw [d4 x (by omega) (fun h=>by have:=c2 x h; omega),ab (by omega),c3 x hx]
  have f4:∀ x,x < nx1→H4 x=H1 x:=fun x hx=>by
   rw [e3 x (by omega) (fun h=>by have:=db x h; omega),f3 x hx]
  have hro4:Row H4 1 out (A.map av):=hro.same fun y hy=>f4 y (hbo y hy).2
  have hsrc:=(r4 e1 (fun x hx=>(e2 x hx).2)).2 H4 (fun _ _=>rfl)
  generalize b8 n k (b ++ [(p:Int)])=Q at *
  skip
  refine fl (k:=Q.length) (new:=Q.map av) rfl ev0 hro4 ev0 hsrc d9 (by simp) Nat.one_pos (by rw [List.length_map]; omega) (by rw [List.length_map]; omega) ?_
  rintro o2 H5 n5 g1 g2 g3 g4 g5
  (have zz:=and_self; repeat' (first | apply a_n | refine zO ?_ | refine vY ?_ | fail)) <;> (try clear zz)
  refine ⟨(o2,p + 1),by dsimp only; omega,⟨by dsimp only; omega,by omega,?_,fun y hy=>?_,fun y hy=>?_⟩,ag0⟩
  ·dsimp only
   rw [hst,List.map_append]; exact g1
  ·rcases g5 y hy with h | h
   ·have:=hbo y h; omega
   ·omega
  ·rw [g4 y (by omega) (fun h=>by have:=hbo y h; omega),f4 y (by omega),hsm y hy]
end Go.Proofs.YtjgpfclngkcedaaGreat
namespace Go.Proofs.YtjgpfclngkcedaaGreat
open Go Go.Abs
attribute [local irreducible] aB ag aR aO aF aH ay aJ aP aZ Go.Abs.Fn aM Go.Abs.Pure an aC Yl
theorem zV (n:Nat) (h1:1 ≤ n) (h5:n ≤ 5):Pure Tryz.prog 77 [.int .i64 n] (.tup [aw (fU n),.int .i64 0]):=by
 refine Pure.of_c2 follows zs (Nat.le_of_ble_eq_true rfl) ?_
 simp only [b77,cO,cG,cN,cM,cD,cF,cB,au,aD]
 have hn:=qw n
 rw [if_neg (by omega)] at hn
 (have zz:=and_self; repeat' (first | refine zW ?_ | apply a_n | refine zO ?_ | refine vY ?_ | refine cY ?_ (hp:=hn) | (refine zGY ?_ ?_ <;> (intro _hg; try (exfalso; omega))) | fail)) <;> (try clear zz)
 refine az (have zz:=and_self; evY) (have zz:=and_self; evY) (Ak n h5 n [] .esl _ _ (by simp) Row.nil (fun x hx=>(by cases hx))) ?_
 rintro r H1 n1 ⟨e1,e2,e3,e4⟩
 (have zz:=and_self; repeat' (first | apply a_n | refine zO ?_ | refine vY ?_ | refine aa rfl ?_ | refine r2Y ?_ | fail)) <;> (try clear zz)
 exact er (ax e1.snapV (ax (.int _ _) af))
theorem wF (b:List Int) (v:Int) (hb:b.length ≤ 1000):Pure Tryz.prog 146 [av b,.int .i64 v] (.bool (decide (v ∈ b))):=by
 refine Pure.of_c2 follows AB (Nat.le_of_ble_eq_true rfl) ?_
 simp only [Av,cO,cG,cN,cM,cD,cF,cB,au,aD]
 (have zz:=and_self; repeat' (first | refine zW ?_ | apply a_n | refine zO ?_ | refine vZ ?_ | fail)) <;> (try clear zz)
 refine iI (fun k=>[(0,av b),(1,.int .i64 v),(5,.int .i64 k)]) b.length (fun k=>b.getD k default ≠ v) ag0 ?_
 intro k hk hz
 by_cases hk2:k < b.length
 rotate_left
 ·rw [decide_eq_false (p:=v ∈ b) (fun hm=>by
    obtain ⟨i,hi,e⟩:=List.getElem_of_mem hm
    exact hz i (by omega) (by simp [List.getD,hi,e]))]
  (have zz:=and_self; repeat' (first | refine zW ?_ | apply a_n | apply a_x | refine zO ?_ | refine vZ ?_ | (refine zGZ ?_ ?_ <;> (intro _hg; try (exfalso; omega))) | refine aa rfl ?_ | refine r1Z ?_ | fail)) <;> (try clear zz)
  exact .bool _
 by_cases he:b.getD k default=v
 ·have z:decide (b.getD k default=v)=true:=decide_eq_true he
  rw [decide_eq_true (p:=v ∈ b) (he ▸ aj hk2)]
  (have zz:=@z; repeat' (first | refine zW ?_ | apply a_n | apply a_r | refine zO ?_ | refine vZ ?_ | refine cTZ ?_ | (refine zGZ ?_ ?_ <;> (intro _hg; try (exfalso; omega))) | refine aa rfl ?_ | refine r1Z ?_ | fail)) <;> (try clear zz)
  exact .bool _
 ·have z:decide (b.getD k default=v)=false:=decide_eq_false he
  (have zz:=@z; repeat' (first | refine zW ?_ | apply a_n | refine zO ?_ | refine vZ ?_ | refine cFZ ?_ | (refine zGZ ?_ ?_ <;> (intro _hg; try (exfalso; omega))) | fail)) <;> (try clear zz)
  exact ⟨hk2,he,ag0,rfl,rfl⟩
set_option maxHeartbeats 2000000 in
theorem sS (n:Nat) (hn:n ≤ 5):∀ (k:Nat) (b:List Int) (s:AV) (H:Hp) (nx:Nat),b.length + k=n→Row H 1 s (b.map (AV.int .i64))→(∀ x,cp s=some x→x < nx) →
    Abs.Fn Tryz.prog 122 [.int .i64 n,s] H nx fun r H' nx'=>Row H' 1 r ((b8 n k b).map av)∧(∀ x,cp r=some x→nx ≤ x∧x < nx')∧(∀ x,x < nx→cp s ≠ some x→H' x=H x)∧nx ≤ nx':=by
 intro k
 induction k with
 | zero =>
  intro b s H nx hk hrow hbd
  refine Abs.Fn.of_c2 follows w5 (Nat.le_of_ble_eq_true rfl) ?_
  simp only [x2,cO,cG,cN,cM,cD,cF,cB,au,aD]
  obtain ⟨Hf,H0,hfz,hsn,hfr⟩:=nY hrow
  refine bG ?_
  refine fu Hf H0 [(0,.int .i64 n),(1,av b)] hfz ⟨.inl (have zz:=and_self; evY),.inr hsn,trivial⟩ ?_
  have z:decide ((b.length:Int)=(n:Int))=true:=decide_eq_true (by omega)
  (have zz:=@z; repeat' (first | refine zW ?_ | apply a_n | apply a_r | refine zO ?_ | refine vY ?_ | refine blY ?_ | refine cTY ?_ | refine aa rfl ?_ | refine r1Y ?_ | fail)) <;> (try clear zz)
  refine ⟨?_,fun x hx=>by cases hx; omega,fun x hx hr=>by rw [ab (by omega),hfr x hr],by omega⟩
  exact Row.box (sz:=1) nx 1 [av b] ai rfl
 | succ k ih =>
  intro b s H nx hk hrow hbd
  refine Abs.Fn.of_c2 follows w5 (Nat.le_of_ble_eq_true rfl) ?_
  simp only [x2,cO,cG,cN,cM,cD,cF,cB,au,aD]
  obtain ⟨Hf,H0,hfz,hsn,hfr⟩:=nY hrow
  refine bG ?_
  refine fu Hf H0 [(0,.int .i64 n),(1,av b)] hfz ⟨.inl (have zz:=and_self; evY),.inr hsn,trivial⟩ ?_
  have z:decide ((b.length:Int)=(n:Int))=false:=decide_eq_false (by omega)
  (have zz:=@z; repeat' (first | refine zW ?_ | apply a_n | refine zO ?_ | refine vY ?_ | refine cFY ?_ | fail)) <;> (try clear zz)
  refine aW (X:=AV × Nat) (fun x=>[(0,.int .i64 n),(1,av b),(5,x.1),(6,.int .i64 x.2)]) (fun x H' nx'=>x.2 ≤ n∧nx ≤ nx'∧Row H' 1 x.1 (((List.range x.2).flatMap fun (p:Nat)=>if (p:Int) ∈ b then [] else b8 n k (b ++ [(p:Int)])).map av)∧(∀ y,cp x.1=some y→nx ≤ y∧y < nx')∧∀ y,y < nx→H' y=H0 y) (fun x=>n - x.2) (.esl,0) ⟨Nat.zero_le _,Nat.le_refl _,Row.nil,fun y hy=>(by cases hy),fun _ _=>rfl⟩ ag0 ?_
  rintro ⟨out,p⟩ H1 nx1 ⟨hp,hnx,hro,hbo,hsm⟩
  dsimp only at hp hro hbo ⊢
  by_cases hp2:p < n
  rotate_left
  ·(have zz:=and_self; repeat' (first | refine zW ?_ | apply a_n | apply a_x | refine zO ?_ | refine vY ?_ | (refine zGY ?_ ?_ <;> (intro _hg; try (exfalso; omega))) | refine aa rfl ?_ | refine r1Y ?_ | fail)) <;> (try clear zz)
   obtain rfl:p=n:=by omega
   exact ⟨hro,hbo,fun x hx hr=>by rw [hsm x hx,hfr x hr],hnx⟩
  have hst:=nR (f:=fun (p:Nat)=>if (p:Int) ∈ b then [] else b8 n k (b ++ [(p:Int)])) (k:=p)
  have hct:=wF b (p:Int) (by omega)
  have hlenA:((List.range p).flatMap fun (p:Nat)=>if (p:Int) ∈ b then [] else b8 n k (b ++ [(p:Int)])).length ≤ 3125 * 5:=by
   have key:∀ l:List Nat,(l.flatMap fun (p:Nat)=>if (p:Int) ∈ b then [] else b8 n k (b ++ [(p:Int)])).length ≤ l.length * 3125:=by
    intro l
    induction l with
    | nil=>simp
    | cons a l ih2 =>
     rw [List.flatMap_cons,List.length_append,List.length_cons,Nat.add_mul]
     have h2:=fc n hn k (b ++ [(a:Int)])
     have h4:5 ^ k ≤ 5 ^ 5:=Nat.pow_le_pow_right (by omega) (by omega)
     have h3:(if (a:Int) ∈ b then [] else b8 n k (b ++ [(a:Int)])).length ≤ 5 ^ k:=by
      split
      ·exact Nat.zero_le _
      ·exact h2
     omega
   have:=key (List.range p)
   rw [List.length_range] at this
   omega
  generalize hA:((List.range p).flatMap fun (p:Nat)=>if (p:Int) ∈ b then [] else b8 n k (b ++ [(p:Int)]))=A at *
  by_cases hm:(p:Int) ∈ b
  ·rw [decide_eq_true hm] at hct
   rw [if_pos hm,List.append_nil] at hst
   (have zz:=and_self; repeat' (first | refine zW ?_ | apply a_n | apply a_x | refine zO ?_ | refine vY ?_ | refine cY ?_ (hp:=hct) | refine cTY ?_ | (refine zGY ?_ ?_ <;> (intro _hg; try (exfalso; omega))) | fail)) <;> (try clear zz)
   exact ⟨(out,p + 1),by dsimp only; omega,⟨by dsimp only; omega,hnx,by dsimp only; rw [hst]; exact hro,hbo,hsm⟩,ag0⟩
  rw [decide_eq_false hm] at hct
  rw [if_neg hm] at hst
  have hpl:=fc n hn k (b ++ [(p:Int)])
  have h4:5 ^ k ≤ 5 ^ 5:=Nat.pow_le_pow_right (by omega) (by omega)
  refine bG ?_
  refine bG ?_
  (have zz:=and_self; repeat' (first | apply a_n | refine zO ?_ | refine vY ?_ | (refine zGY ?_ ?_ <;> (intro _hg; try (exfalso; omega))) | fail)) <;> (try clear zz)
  refine bG ?_
  refine bZ ?_
  refine bG ?_
  refine bG ?_
  (have zz:=and_self; repeat' (first | apply a_n | refine zO ?_ | refine vY ?_ | refine cY ?_ (hp:=hct) | refine cFY ?_ | fail)) <;> (try clear zz)
  refine bG ?_
  (have zz:=and_self; repeat' (first | apply a_n | refine zO ?_ | refine vY ?_ | fail)) <;> (try clear zz)
  refine aA (fun T' H' nx'=>T' 0=.int .i64 n∧T' 1=av b∧T' 5=out∧T' 6=.int .i64 p∧nx1 ≤ nx'∧(∀ x,x < nx1→H' x=H1 x)∧∃ r1,T' 7=r1∧Row H' 1 r1 (b.map (AV.int .i64))∧∀ x,cp r1=some x→nx1 ≤ x∧x < nx') ?_ ?_
  ·refine vE ?_
   (have zz:=and_self; repeat' (first | apply a_n | refine zO ?_ | refine vY ?_ | refine a0Y ?_ | fail)) <;> (try clear zz)
   refine ⟨rfl,rfl,rfl,rfl,by omega,fun x hx=>ab (by omega),.msl nx1 b.length 1 0 b.length,(have zz:=and_self; evY),?_,fun x hx=>by cases hx; omega⟩
   have:=Row.box (H:=ah H1 nx1 (b.map (AV.int .i64))) (sz:=1) nx1 b.length (b.map (AV.int .i64)) ai (by simp)
   rwa [Nat.mul_one] at this
  rintro T H2 n2 ⟨t0,t1,t5,t6,c4,c3,r1,t7,c1,c2⟩
  (have zz:=aI @t0 (aI @t1 (aI @t5 (aI @t6 @t7))); repeat' (first | apply a_n | refine zO ?_ | refine vY ?_ | refine blY ?_ | fail)) <;> (try clear zz)
  refine fl rfl ev0 (c1.same fun y hy=>?_) ev0 ka rfl rfl Nat.one_pos (by rw [List.length_map]; omega) (by rw [List.length_map]; omega) ?_
  ·have:=c2 y hy
   rw [ab (by omega)]
  rintro r2 H3 n3 d1 d2 d3 d4 d5
  have d1':Row H3 1 r2 ((b ++ [(p:Int)]).map (AV.int .i64)):=by rw [List.map_append]; exact d1
  have db:∀ x,cp r2=some x→nx1 ≤ x∧x < n3:=fun x hx=>by
   rcases d5 x hx with h | h
   ·have:=c2 x h; omega
   ·omega
  refine az (have zz:=and_self; evY) (have zz:=and_self; evY) (ih (b ++ [(p:Int)]) r2 H3 n3 (by simp; omega) d1' (fun x hx=>(db x hx).2)) ?_
  rintro r3 H4 n4 ⟨e1,e2,e3,e4⟩
  have f3:∀ x,x < nx1→H3 x=H1 x:=fun x hx=>by
   rw [d4 x (by omega) (fun h=>by have:=c2 x h; omega),ab (by omega),c3 x hx]
  have f4:∀ x,x < nx1→H4 x=H1 x:=fun x hx=>by
   rw [e3 x (by omega) (fun h=>by have:=db x h; omega),f3 x hx]
  have hro4:Row H4 1 out (A.map av):=hro.same fun y hy=>f4 y (hbo y hy).2
  have hsrc:=(r4 e1 (fun x hx=>(e2 x hx).2)).2 H4 (fun _ _=>rfl)
  generalize b8 n k (b ++ [(p:Int)])=Q at *
  skip
  refine fl (k:=Q.length) (new:=Q.map av) rfl ev0 hro4 ev0 hsrc d9 (by simp) Nat.one_pos (by rw [List.length_map]; omega) (by rw [List.length_map]; omega) ?_
  rintro o2 H5 n5 g1 g2 g3 g4 g5
  (have zz:=@t6; repeat' (first | apply a_n | refine zO ?_ | refine vY ?_ | fail)) <;> (try clear zz)
  refine ⟨(o2,p + 1),by dsimp only; omega,⟨by dsimp only; omega,by omega,?_,fun y hy=>?_,fun y hy=>?_⟩,(have zz:=aI @t0 @t1; agZ)⟩
  ·dsimp only
   rw [hst,List.map_append]; exact g1
  ·rcases g5 y hy with h | h
   ·have:=hbo y h; omega
   ·omega
  ·rw [g4 y (by omega) (fun h=>by have:=hbo y h; omega),f4 y (by omega),hsm y hy]
theorem wD (n:Nat) (h5:n ≤ 5):Pure Tryz.prog 80 [.int .i64 n] (aw (fU n)):=by
 refine Pure.of_c2 follows A1 (Nat.le_of_ble_eq_true rfl) ?_
 simp only [b80,cO,cG,cN,cM,cD,cF,cB,au,aD]
 (have zz:=and_self; repeat' (first | refine zW ?_ | apply a_n | refine zO ?_ | refine vY ?_ | fail)) <;> (try clear zz)
 refine az (have zz:=and_self; evY) (have zz:=and_self; evY) (sS n h5 n [] .esl _ _ (by simp) Row.nil (fun x hx=>(by cases hx))) ?_
 rintro r H1 n1 ⟨e1,e2,e3,e4⟩
 (have zz:=and_self; repeat' (first | apply a_n | refine zO ?_ | refine vY ?_ | refine aa rfl ?_ | refine r1Y ?_ | fail)) <;> (try clear zz)
 exact e1.snapV
end Go.Proofs.YtjgpfclngkcedaaGreat
namespace Go.Proofs.YtjgpfclngkcedaaGreat
open Go Go.Abs
def bF (to:List Int) (v:List Int):List Int:=v.map fun z=>to.getD z.toNat default
theorem dP {to v:List Int}:(bF to v).length=v.length:=by simp [bF]
theorem uM {to v:List Int} {p:Nat} (h:p < v.length):(bF to v).getD p default=to.getD (v.getD p default).toNat default:=by simp [bF,List.getD,h]
def bO (bs:List Nat) (n:Nat):List AV:=bs.map fun b=>.msl b n 1 0 n
structure BoxesM (H:Hp) (bs:List Nat) (l:List (List Int)):Prop where
 len:bs.length=l.length
 at_:∀ i,i < l.length→H (bs.getD i 0)=some ((l.getD i default).map (AV.int .i64))
 nodup:bs.Nodup
theorem BoxesM.same {H H':Hp} {bs:List Nat} {l:List (List Int)} (h:BoxesM H bs l) (hs:∀ b ∈ bs,H' b=H b):BoxesM H' bs l :=
 ⟨h.len,fun i hi=>(hs _ (by have:=h.len; rw [List.getD_eq_getElem?_getD,List.getElem?_eq_getElem (by omega)]; exact List.getElem_mem _)).trans (h.at_ i hi),h.nodup⟩
theorem qL {bs:List Nat} {i:Nat} (h:i < bs.length):bs.getD i 0 ∈ bs:=by
 rw [List.getD_eq_getElem?_getD,List.getElem?_eq_getElem h]; exact List.getElem_mem _
theorem zb {bs:List Nat} (h:bs.Nodup) {i j:Nat} (hi:i < bs.length) (hj:j < bs.length) (e:bs.getD i 0=bs.getD j 0):i=j:=by
 rw [List.getD_eq_getElem?_getD,List.getD_eq_getElem?_getD,List.getElem?_eq_getElem hi,List.getElem?_eq_getElem hj] at e
 have hp:=List.pairwise_iff_getElem.1 (List.nodup_iff_pairwise_ne.1 h)
 rcases Nat.lt_trichotomy i j with c | c | c
 ·exact absurd e (hp i j hi hj c)
 ·exact c
 ·exact absurd e.symm (hp j i hj hi c)
theorem BoxesM.snoc {H:Hp} {bs:List Nat} {l:List (List Int)} {b:Nat} {v:List Int} (h:BoxesM H bs l) (hb:H b=some (v.map (AV.int .i64))) (hn:b ∉ bs):BoxesM H (bs ++ [b]) (l ++ [v]):=by
 refine ⟨by simp [h.len],fun i hi=>?_,?_⟩
 ·rw [List.length_append,List.length_singleton] at hi
  have hl:=h.len
  by_cases e:i=l.length
  ·subst e
   rw [← hl]
   simp only [List.getD_eq_getElem?_getD,List.getElem?_append_right (Nat.le_refl _),Nat.sub_self]
   rw [hl,List.getElem?_append_right (Nat.le_refl _),Nat.sub_self]
   exact hb
  ·have:=h.at_ i (by omega)
   simp only [List.getD_eq_getElem?_getD] at this ⊢
   rw [List.getElem?_append_left (by omega),List.getElem?_append_left (by omega)]
   exact this
 ·rw [List.nodup_append]
  exact ⟨h.nodup,by simp,fun x hx y hy e=>hn (by simp at hy; subst hy; subst e; exact hx)⟩
theorem tI {H:Hp} {bs:List Nat} {l:List (List Int)} {B n:Nat} (h:BoxesM H bs l) (hl:∀ v ∈ l,v.length=n) (hB:H B=some (bO bs n)) (hBn:B ∉ bs):Fz (fun x=>if x ∈ bs then H x else none) H (ah (fun x=>if x ∈ bs then none else H x) B (l.map av)):=by
 refine ⟨fun b c hb=>?_,fun b c hb=>?_⟩
 ·(try dsimp only at hb)
  split at hb
  ·exact hb
  ·cases hb
 ·by_cases e:b=B
  ·subst e
   rw [ai] at hb
   cases hb
   refine ⟨_,hB,if_neg hBn,by simp [bO,h.len],fun i x x' hx hx'=>.inr ?_⟩
   have hi:i < bs.length:=by have:=(List.getElem?_eq_some_iff.1 hx).1; simpa [bO] using this
   have hil:i < l.length:=by have:=h.len; omega
   have e1:x=.msl (bs.getD i 0) n 1 0 n:=by
    have:(bO bs n)[i]?=some (.msl (bs.getD i 0) n 1 0 n):=by simp [bO,List.getD,hi]
    rw [this] at hx; cases hx; rfl
   have e2:x'=av (l.getD i default):=by
    have:(l.map av)[i]?=some (av (l.getD i default)):=by simp [List.getD,hil]
    rw [this] at hx'; cases hx'; rfl
   subst e1; subst e2
   refine gQ (by (try dsimp only); rw [if_pos (qL hi)]; exact h.at_ i hil) rfl (hl _ (aj hil))
  ·rw [ab e] at hb
   (try dsimp only at hb)
   split at hb
   ·cases hb
   ·rename_i hn
    exact ⟨c,hb,if_neg hn,fh.refl _ _⟩
attribute [local irreducible] aB ag aR aO aF aH ay aJ aP aZ Go.Abs.Fn aM Go.Abs.Pure an aC Yl
theorem sf (l:List (List Int)) (n:Nat) (h0:0 < n) (hn:n ≤ 5) (hl:l.length ≤ 100000) (hls:∀ v ∈ l,v.length=n) (H:Hp) (nx:Nat):Abs.Fn Tryz.prog 75 [aw l] H nx fun r H' nx'=>∃ bs,Row H' 1 r (bO bs n)∧BoxesM H' bs l∧(∀ b,cp r=some b→nx ≤ b∧b < nx'∧b ∉ bs)∧(∀ b ∈ bs,nx ≤ b∧b < nx')∧(∀ x,x < nx→H' x=H x)∧nx ≤ nx':=by
 refine Abs.Fn.of_c2 follows Ax (Nat.le_of_ble_eq_true rfl) ?_
 simp only [b75,cO,cG,cN,cM,cD,cF,cB,au,aD]
 (have zz:=and_self; repeat' (first | refine zW ?_ | apply a_n | refine zO ?_ | refine vY ?_ | fail)) <;> (try clear zz)
 refine aW (X:=AV × Nat) (fun x=>[(3,x.1),(6,aw l),(7,.int .i64 l.length),(8,.int .i64 x.2)]) (fun x H' nx'=>x.2 ≤ l.length∧nx ≤ nx'∧(∀ y,y < nx→H' y=H y)∧∃ bs,Row H' 1 x.1 (bO bs n)∧BoxesM H' bs (l.take x.2)∧(∀ b,cp x.1=some b→nx ≤ b∧b < nx'∧b ∉ bs)∧∀ b ∈ bs,nx ≤ b∧b < nx') (fun x=>l.length - x.2) (.esl,0) ⟨Nat.zero_le _,Nat.le_refl _,fun _ _=>rfl,[],Row.nil,⟨rfl,fun i hi=>absurd hi (by simp),List.nodup_nil⟩,fun b hb=>(by cases hb),fun b hb=>(by cases hb)⟩ ag0 ?_
 rintro ⟨s,j⟩ H1 nx1 ⟨h1,h2,h3,bs,hrow,hbx,hbd,hbb⟩
 dsimp only at h1 hrow hbx hbd ⊢
 by_cases hj:j < l.length
 rotate_left
 ·rw [List.take_of_length_le (by omega)] at hbx
  (have zz:=and_self; repeat' (first | refine zW ?_ | apply a_n | apply a_x | refine zO ?_ | refine vY ?_ | (refine zGY ?_ ?_ <;> (intro _hg; try (exfalso; omega))) | refine aa rfl ?_ | refine r1Y ?_ | fail)) <;> (try clear zz)
  exact ⟨bs,hrow,hbx,hbd,hbb,h3,h2⟩
 have hw:=hls _ (aj hj)
 have hst:l.take (j + 1)=l.take j ++ [l.getD j default]:=bx hj
 have hbl:bs.length=j:=by rw [hbx.len,List.length_take]; omega
 generalize hv:l.getD j default=v at *
 have hv0:v ≠ []:=fun e=>by rw [e] at hw; simp at hw; omega
 (have zz:=@hv; repeat' (first | refine zW ?_ | apply a_n | refine zO ?_ | refine vY ?_ | (refine zGY ?_ ?_ <;> (intro _hg; try (exfalso; omega))) | fail)) <;> (try clear zz)
 refine az (have zz:=and_self; evY) (have zz:=@hv; evY) (vC v (by omega) hv0 H1 nx1) ?_
 rintro _ _ _ ⟨rfl,rfl,rfl⟩
 rw [hw]
 (have zz:=and_self; repeat' (first | apply a_n | refine zO ?_ | refine blY ?_ | fail)) <;> (try clear zz)
 refine fl (k:=1) (new:=[.msl nx1 n 1 0 n]) rfl ev0 (hrow.same fun b hb=>?_) ev0 (co (n:=1) (len:=1) (off:=0) (cs:=[.msl nx1 n 1 0 n]) ai rfl (by simp)) rfl rfl Nat.one_pos (by simp [bO]; omega) (by simp [bO]; omega) ?_
 ·have:=hbd b hb
  rw [ab (by omega),ab (by omega)]
 rintro s2 E e hrw hle1 hle2 hsm hb2
 (have zz:=and_self; repeat' (first | apply a_n | refine zO ?_ | refine vY ?_ | fail)) <;> (try clear zz)
 have hE:∀ x,x ≤ nx1→cp s ≠ some x→E x=ah H1 nx1 (v.map (AV.int .i64)) x:=fun x hx hr=>(hsm x (by omega) hr).trans (by rw [ab (by omega)])
 have hrn:∀ b,(b ∈ bs ∨ b=nx1)→cp s ≠ some b:=fun b hb hr=>by
  have:=hbd b hr
  rcases hb with hb | rfl
  ·exact this.2.2 hb
  ·omega
 refine ⟨(s2,j + 1),by dsimp only; omega,⟨by dsimp only; omega,by omega,fun y hy=>?_,bs ++ [nx1],?_,?_,fun b hb=>?_,fun b hb=>?_⟩,ag0⟩
 ·rw [hE y (by omega) (fun h=>by have:=hbd y h; omega),ab (by omega),h3 y hy]
 ·dsimp only
  have:bO (bs ++ [nx1]) n=bO bs n ++ [.msl nx1 n 1 0 n]:=by simp [bO]
  rw [this]; exact hrw
 ·dsimp only
  rw [hst]
  refine BoxesM.snoc (hbx.same fun b hb=>?_) ?_ (fun h=>by have:=hbb _ h; omega)
  ·have:=hbb b hb
   rw [hE b (by omega) (hrn b (.inl hb)),ab (by omega)]
  ·rw [hE nx1 (Nat.le_refl _) (hrn nx1 (.inr rfl)),ai]
 ·rcases hb2 b hb with h | h
  ·have:=hbd b h
   refine ⟨by omega,by omega,fun hm=>?_⟩
   rcases List.mem_append.1 hm with hm | hm
   ·exact this.2.2 hm
   ·simp at hm; omega
  ·refine ⟨by omega,by omega,fun hm=>?_⟩
   rcases List.mem_append.1 hm with hm | hm
   ·have:=hbb b hm; omega
   ·simp at hm; omega
 ·rcases List.mem_append.1 hb with hb | hb
  ·have:=hbb b hb; omega
  ·simp at hb; omega
end Go.Proofs.YtjgpfclngkcedaaGreat
namespace Go.Proofs.YtjgpfclngkcedaaGreat
open Go Go.Abs
def cE {α:Type} [Inhabited α] (g:α→α) (l:List α) (i:Nat):List α:=(List.range l.length).map fun q=>if q < i then g (l.getD q default) else l.getD q default
section
variable {α:Type} [Inhabited α] {g:α→α} {l:List α}
theorem gC {i:Nat}:(cE g l i).length=l.length:=by simp [cE]
theorem qp {i q:Nat} (h:q < l.length):(cE g l i).getD q default=if q < i then g (l.getD q default) else l.getD q default:=by
 unfold cE
 rw [List.getD_eq_getElem?_getD,List.getElem?_map,List.getElem?_range h]; rfl
theorem nQ:cE g l 0=l:=by
 refine List.ext_getElem (by simp [cE]) fun i h1 h2=>?_
 simp [cE,List.getD,h2]
theorem pL:cE g l l.length=l.map g:=by
 refine List.ext_getElem (by simp [cE]) fun i h1 h2=>?_
 have h3:i < l.length:=by simpa using h2
 simp [cE,List.getD,h3]
theorem qc {i:Nat} (h:i < l.length):(cE g l i).set i (g (l.getD i default))=cE g l (i + 1):=by
 refine List.ext_getElem (by simp [cE]) fun q h1 h2=>?_
 simp only [List.length_set,gC] at h1
 rw [List.getElem_set]
 simp only [cE,List.getElem_map,List.getElem_range]
 by_cases e:i=q
 ·subst e; rw [if_pos rfl,if_pos (by omega)]
 ·rw [if_neg e]
  by_cases c:q < i
  ·rw [if_pos c,if_pos (by omega)]
  ·rw [if_neg c,if_neg (by omega)]
end
theorem BoxesM.set {H:Hp} {bs:List Nat} {l:List (List Int)} {i:Nat} {v:List Int} (h:BoxesM H bs l) (hi:i < l.length):BoxesM (ah H (bs.getD i 0) (v.map (AV.int .i64))) bs (l.set i v):=by
 refine ⟨by rw [List.length_set]; exact h.len,fun j hj=>?_,h.nodup⟩
 rw [List.length_set] at hj
 by_cases e:j=i
 ·subst e
  rw [ai]
  simp [List.getD,hj]
 ·rw [ab (fun k=>e (zb h.nodup (by have:=h.len; omega) (by have:=h.len; omega) k)),h.at_ j hj]
  simp only [List.getD_eq_getElem?_getD]
  rw [List.getElem?_set_ne (by omega)]
theorem qz {bs:List Nat} {n i:Nat} (h:i < bs.length):(bO bs n)[i]?=some (.msl (bs.getD i 0) n 1 0 n):=by simp [bO,List.getD,h]
attribute [local irreducible] aB ag aR aO aF aH ay aJ aP aZ Go.Abs.Fn aM Go.Abs.Pure an aC Yl
set_option maxHeartbeats 2000000 in
theorem pO (l:List (List Int)) (to:List Int) (n:Nat) (h0:0 < n) (hn:n ≤ 5) (hl:l.length ≤ 100000) (hto:to.length ≤ 1000) (hls:∀ v ∈ l,v.length=n∧∀ z ∈ v,0 ≤ z∧z < to.length):Pure Tryz.prog 74 [aw l,.iptr [av to] 0] (aw (e8 (l.map (bF to)))):=by
 refine Pure.of_c2 follows zU (Nat.le_of_ble_eq_true rfl) ?_
 simp only [b74,cO,cG,cN,cM,cD,cF,cB,au,aD]
 (have zz:=and_self; repeat' (first | refine zW ?_ | apply a_n | refine zO ?_ | refine vY ?_ | fail)) <;> (try clear zz)
 refine az (have zz:=and_self; evY) (have zz:=and_self; evY) (sf l n h0 hn hl (fun v hv=>(hls v hv).1) _ _) ?_
 rintro sv H nx ⟨bs,hrow,hbx,hbd,hbb,-,-⟩
 by_cases hnil:l=[]
 ·subst hnil
  obtain rfl:bs=[]:=List.length_eq_zero_iff.1 hbx.len
  generalize hcs:bO [] n=cs at hrow
  have hsv:ce sv=some (.int .i64 0)∧eo sv=some 0∧∀ H',(∀ x,x < nx→H' x=H x)→b7 1 H' sv=some (0,[]):=by
   cases hrow with
   | nil=>exact ⟨rfl,rfl,fun _ _=>rfl⟩
   | box B len cs h1 h2 =>
    have e:len=0:=by rw [← hcs] at h2; simp [bO] at h2; omega
    subst e
    refine ⟨rfl,rfl,fun H' hH=>?_⟩
    have hb:=hbd B rfl
    rw [co (cs:=cs) ((hH B (by omega)).trans h1) (by omega) (by omega)]
    simp
  (have zz:=hsv.1; repeat' (first | refine zW ?_ | apply a_n | refine zO ?_ | refine vY ?_ | fail)) <;> (try clear zz)
  refine aW (X:=Unit) (fun _=>[(4,sv),(11,.int .i64 0),(12,.int .i64 0)]) (fun _ H' nx'=>H'=H∧nx'=nx) (fun _=>0) () ⟨rfl,rfl⟩ ag0 ?_
  rintro _ _ _ ⟨rfl,rfl⟩
  (have zz:=and_self; repeat' (first | refine zW ?_ | apply a_n | apply a_x | refine zO ?_ | refine vY ?_ | (refine zGY ?_ ?_ <;> (intro _hg; try (exfalso; omega))) | fail)) <;> (try clear zz)
  refine az (have zz:=and_self; evY) (have zz:=and_self; evY) (pR sv [] (by simp) (fun v hv=>(by cases hv)) _ _ hsv.2.1 hsv.2.2) ?_
  rintro r H1 n1 ⟨h1,h2,h3⟩
  (have zz:=and_self; repeat' (first | apply a_n | refine zO ?_ | refine vY ?_ | refine aa rfl ?_ | refine r1Y ?_ | fail)) <;> (try clear zz)
  exact h1
 have hpos:=List.length_pos_iff.2 hnil
 have hcl:(bO bs n).length=l.length:=by simp [bO,hbx.len]
 obtain ⟨B,rfl,hB⟩:∃ B,sv=.msl B l.length 1 0 l.length∧H B=some (bO bs n):=by
  generalize hcs:bO bs n=cs at hrow hcl
  cases hrow with
  | nil=>simp at hcl; omega
  | box B len cs h1 h2 =>
   have e:len=l.length:=by omega
   subst e
   exact ⟨B,by rw [Nat.mul_one],h1⟩
 obtain ⟨-,hBn,hBbs⟩:=hbd B rfl
 clear hrow hbd
 (have zz:=and_self; repeat' (first | refine zW ?_ | apply a_n | refine zO ?_ | refine vY ?_ | fail)) <;> (try clear zz)
 refine aW (X:=Nat) (fun i=>[(1,.iptr [av to] 0),(4,.msl B l.length 1 0 l.length),(10,.msl B l.length 1 0 l.length),(11,.int .i64 l.length),(12,.int .i64 (i:Nat))]) (fun i H' nx'=>i ≤ l.length∧nx'=nx∧H' B=some (bO bs n)∧BoxesM H' bs (cE (bF to) l i)) (fun i=>l.length - i) 0 ⟨Nat.zero_le _,rfl,hB,by have e:cE (bF to) l 0=l:=nQ; rw [e]; exact hbx⟩ ag0 ?_
 clear hB hbx
 rintro i H1 nx ⟨hi,rfl,hB,hbx⟩
 have hbl:bs.length=l.length:=by have:=hbx.len; have e:(cE (bF to) l i).length=l.length:=gC; omega
 by_cases hi2:i < l.length
 rotate_left
 ·have e:cE (bF to) l i=l.map (bF to):=by rw [show i=l.length by omega]; exact pL
  rw [e] at hbx
  have hml:∀ v ∈ l.map (bF to),v.length=n:=fun v hv=>by
   obtain ⟨u,hu,rfl⟩:=List.mem_map.1 hv
   rw [dP]; exact (hls u hu).1
  refine bG ?_
  (have zz:=and_self; repeat' (first | apply a_n | refine zO ?_ | refine vY ?_ | fail)) <;> (try clear zz)
  refine bG ?_
  (have zz:=and_self; repeat' (first | apply a_n | apply a_x | refine zO ?_ | (refine zGY ?_ ?_ <;> (intro _hg; try (exfalso; omega))) | fail)) <;> (try clear zz)
  refine bG ?_
  refine fu (fun x=>if x ∈ bs then H1 x else none) (ah (fun x=>if x ∈ bs then none else H1 x) B ((l.map (bF to)).map av)) [(4,.msl B l.length 1 0 l.length)] (tI hbx hml hB hBbs) ⟨.inl (have zz:=and_self; evY),trivial⟩ ?_
  (have zz:=and_self; repeat' (first | apply a_n | refine zO ?_ | refine vY ?_ | fail)) <;> (try clear zz)
  refine az (have zz:=and_self; evY) (have zz:=and_self; evY) (pR (.msl B l.length 1 0 l.length) (l.map (bF to)) (by rw [List.length_map]; omega) (fun v hv=>by have:=hml v hv; show _ ≤ _; omega) _ _ (by simp [eo]) (fun H' hH'=>by
   rw [co (cs:=(l.map (bF to)).map av) ((hH' B (by omega)).trans ai) (by simp) (by omega),List.drop_zero,List.take_of_length_le (by simp),List.length_map])) ?_
  rintro r H2 n2 ⟨h1,h2,h3⟩
  (have zz:=and_self; repeat' (first | apply a_n | refine zO ?_ | refine vY ?_ | refine aa rfl ?_ | refine r1Y ?_ | fail)) <;> (try clear zz)
  exact h1
 obtain ⟨vl,vb⟩:=hls _ (aj hi2)
 have hld:=qz (bs:=bs) (n:=n) (i:=i) (by omega)
 have hbi:=hbx.at_ i (by have e:(cE (bF to) l i).length=l.length:=gC; omega)
 have hgi:(cE (bF to) l i).getD i default=l.getD i default:=by
  have e:(cE (bF to) l i).getD i default=if i < i then bF to (l.getD i default) else l.getD i default:=qp hi2
  rw [e,if_neg (by omega)]
 rw [hgi] at hbi
 have hset:(cE (bF to) l i).set i (bF to (l.getD i default))=cE (bF to) l (i + 1):=qc hi2
 have hbb2:=hbb _ (qL (bs:=bs) (i:=i) (by omega))
 have hnB:B ≠ bs.getD i 0:=fun e=>hBbs (e ▸ qL (by omega))
 have hbs:=fun v=>BoxesM.set (v:=v) hbx (i:=i) (by have e:(cE (bF to) l i).length=l.length:=gC; omega)
 have hcl2:(bO bs n).length=l.length:=by simp [bO,hbl]
 generalize hv:l.getD i default=v at *
 generalize hbe:bs.getD i 0=b at *
 (have zz:=aI @hB (aI @hcl2 @hld); repeat' (first | refine zW ?_ | apply a_n | refine zO ?_ | refine vY ?_ | (refine zGY ?_ ?_ <;> (intro _hg; try (exfalso; omega))) | fail)) <;> (try clear zz)
 refine aW (X:=Nat) (fun p=>[(1,.iptr [av to] 0),(4,.msl B l.length 1 0 l.length),(10,.msl B l.length 1 0 l.length),(11,.int .i64 l.length),(12,.int .i64 (i:Nat)),(6,.msl b n 1 0 n),(17,.int .i64 n),(18,.int .i64 (p:Nat))]) (fun p H' nx'=>p ≤ n∧nx'=nx∧H'=ah H1 b ((cE (fun z=>to.getD z.toNat default) v p).map (AV.int .i64))) (fun p=>n - p) 0 ⟨Nat.zero_le _,rfl,by have e:cE (fun z=>to.getD z.toNat default) v 0=v:=nQ; rw [e]; exact cQ hbi⟩ ag0 ?_
 rintro p _ nx ⟨hp,rfl,rfl⟩
 by_cases hp2:p < n
 rotate_left
 ·(have zz:=and_self; repeat' (first | refine zW ?_ | apply a_n | apply a_x | refine zO ?_ | refine vY ?_ | (refine zGY ?_ ?_ <;> (intro _hg; try (exfalso; omega))) | fail)) <;> (try clear zz)
  have e:cE (fun z=>to.getD z.toNat default) v p=bF to v:=by rw [show p=v.length by omega]; exact pL
  refine ⟨i + 1,by omega,⟨by omega,rfl,by rw [ab hnB,hB],?_⟩,ag0⟩
  rw [e,← hset]
  exact hbs _
 have hpv:p < v.length:=by omega
 have b1:=vb _ (aj hpv)
 obtain ⟨z,hz⟩:∃ z:Nat,v.getD p default=z:=⟨(v.getD p default).toNat,by omega⟩
 have hml:(cE (fun z=>to.getD z.toNat default) v p).length=n:=by have e:(cE (fun z=>to.getD z.toNat default) v p).length=v.length:=gC; omega
 have hgp:((cE (fun z=>to.getD z.toNat default) v p).map (AV.int .i64))[p]?=some (.int .i64 z):=by
  have e:(cE (fun z=>to.getD z.toNat default) v p).getD p default=if p < p then to.getD (v.getD p default).toNat default else v.getD p default:=qp hpv
  rw [if_neg (by omega),hz] at e
  rw [List.getElem?_map]
  have h2:p < (cE (fun z=>to.getD z.toNat default) v p).length:=by omega
  rw [List.getElem?_eq_getElem h2,← e,List.getD_eq_getElem?_getD,List.getElem?_eq_getElem h2]; rfl
 have hst:(cE (fun z=>to.getD z.toNat default) v p).set p (to.getD z default)=cE (fun z=>to.getD z.toNat default) v (p + 1):=by
  have e:(cE (fun z=>to.getD z.toNat default) v p).set p (to.getD (v.getD p default).toNat default)=cE (fun z=>to.getD z.toNat default) v (p + 1):=qc hpv
  rw [hz,Int.toNat_natCast] at e
  exact e
 have hlp:=c8 (f:=AV.int .i64) (l:=cE (fun z=>to.getD z.toNat default) v p) (k:=p) (x:=to.getD z default) (by omega)
 rw [hst] at hlp
 have hzl:z < to.length:=by omega
 generalize cE (fun z=>to.getD z.toNat default) v p=W at *
 (have zz:=aI @hgp @hml; repeat' (first | refine zW ?_ | apply a_n | refine zO ?_ | refine vY ?_ | refine stY ?_ | (refine zGY ?_ ?_ <;> (intro _hg; try (exfalso; omega))) | fail)) <;> (try clear zz)
 refine ⟨p + 1,by omega,⟨by omega,rfl,?_⟩,ag0⟩
 rw [am,← hlp]
end Go.Proofs.YtjgpfclngkcedaaGreat
namespace Go.Proofs.YtjgpfclngkcedaaGreat
open Go Go.Abs
open Nat (reduceEqDiff reduceAdd reduceLeDiff)
def ed (H:Hp) (k:Nat):Hp:=fun x=>if x < k then H x else none
theorem ij {H:Hp} {k x:Nat} (h:x < k):ed H k x=H x:=if_pos h
theorem iq {H H':Hp} {k:Nat} (h:∀ x,x < k→H' x=H x):Sub (ed H k) H':=fun b c hb=>by
 unfold ed at hb
 split at hb
 ·rw [h b ‹_›]; exact hb
 ·cases hb
attribute [local irreducible] aB ag aR aO aF aH ay aJ aP aZ Go.Abs.Fn aM Go.Abs.Pure an aC Yl
end Go.Proofs.YtjgpfclngkcedaaGreat
namespace Go.Proofs.YtjgpfclngkcedaaGreat
open Go Go.Abs
open Nat (reduceEqDiff reduceAdd reduceLeDiff)
def jq (to:List Int) (c:CaseV):CaseV:=⟨c.inp,e8 (c.out.map (bF to)),e8 (c.calm.map (bF to))⟩
def AX (t:TaskV) (outs:Int) (to:List Int):TaskV:=⟨t.n,t.ins,outs,t.cases.map (jq to)⟩
def du (t:TaskV) (outs:Int) (to:List Int):TaskV × Int:=if a8 t ≠ 0 then (T00,a8 t) else if outs < 1 ∨ 8 < outs then (T00,2) else if (to.length:Int) ≠ t.outs then (T00,15) else if to.any (fun v=>decide (v < 0 ∨ outs ≤ v)) then (T00,2) else (AX t outs to,0)
theorem jp {to:List Int} {l:List (List Int)}:(e8 (l.map (bF to))).length ≤ l.length:=by
 have:=ph (l:=l.map (bF to))
 rwa [List.length_map] at this
attribute [local irreducible] aB ag aR aO aF aH ay aJ aP aZ Go.Abs.Fn aM Go.Abs.Pure an aC Yl
theorem qX (v o:Int):Pure Tryz.prog 73 [.int .i64 v,.iptr [.int .i64 o] 0] (.bool (decide (v < 0 ∨ o ≤ v))):=by
 refine Pure.of_c2 follows AF (Nat.le_of_ble_eq_true rfl) ?_
 simp only [b73,cO,cG,cN,cM,cD,cF,cB,au,aD]
 (have zz:=and_self; repeat' (first | refine zW ?_ | apply a_n | refine zO ?_ | refine vZ ?_ | refine gTZ ?_ | refine gFZ ?_ | (refine zGZ ?_ ?_ <;> (intro _hg; try (exfalso; omega))) | refine aa rfl ?_ | refine r1Z ?_ | fail)) <;> (try clear zz)
 all_goals (refine bC ?_)
 ·exact decide_eq_decide.2 (by omega)
 ·rw [decide_eq_true (by omega)]
set_option maxHeartbeats 2000000 in
theorem tn (t:TaskV) (outs:Int) (to:List Int) (fit:Fit t) (hto:to.length ≤ 1000):Pure Tryz.prog 23 [bt t,.int .i64 outs,av to] (.tup [bt (du t outs to).1,.int .i64 (du t outs to).2]):=by
 refine Pure.of_c2 follows zK (Nat.le_of_ble_eq_true rfl) ?_
 simp only [b23,cO,cG,cN,cM,cD,cF,cB,au,aD]
 have hc:=oB t fit.sh fit.sh2
 have d1:=bW t
 have hA:=kL to (fun v=>decide (v < 0 ∨ outs ≤ v)) 73 [.iptr [.int .i64 outs] 0] (DatL.cons (Dat.iptr (DatL.cons .int DatL.nil)) DatL.nil) (fun v _=>qX v outs) (show _ ≤ _ by omega)
 unfold du
 generalize hAA:[.int .i64 t.n,.int .i64 t.ins,.int .i64 t.outs,ba t.cases]=A
 have hTA:bt t=.agg A:=by rw [← hAA]; rfl
 rw [hTA] at hc d1 ⊢
 refine aA (fun T H nx=>T 3=.ptr 0 4 0∧T 4=.ptr 1 1 0∧T 5=.ptr 2 1 0∧T 6=.ptr 3 4 0∧H=ah (ah (ah (ah aL 0 A) 1 [.int .i64 outs]) 2 [av to]) 3 [.int .i64 0,.int .i64 0,.int .i64 0,.esl]∧nx=4) ?_ ?_
 ·subst hAA
  (have zz:=aI @ak @ae; repeat' (first | apply a_n | refine zO ?_ | refine vZ ?_ | refine alZ ?_ | refine bxZ ?_ | fail)) <;> (try clear zz)
  exact ⟨rfl,rfl,rfl,rfl,rfl,rfl⟩
 rintro T H _ ⟨t3,t4,t5,t6,rfl,rfl⟩
 by_cases he:a8 t=0
 rotate_left
 ·rw [if_pos he]
  generalize a8 t=C at *
  subst hAA
  (have zz:=aI @t3 (aI @t4 (aI @t5 (aI @t6 (aI @ak @ae)))); repeat' (first | refine zW ?_ | apply a_n | apply a_r | refine zO ?_ | refine vZ ?_ | refine cZ ?_ (hp:=hc) | refine stZ ?_ | (refine zGZ ?_ ?_ <;> (intro _hg; try (exfalso; omega))) | refine aa rfl ?_ | refine r2Z ?_ | fail)) <;> (try clear zz)
  exact dj _
 rw [if_neg (fun h=>h he)]
 rw [he] at hc
 refine aA (fun T H nx=>T 3=.ptr 0 4 0∧T 4=.ptr 1 1 0∧T 5=.ptr 2 1 0∧T 6=.ptr 3 4 0∧H=ah (ah (ah (ah aL 0 A) 1 [.int .i64 outs]) 2 [av to]) 3 [.int .i64 0,.int .i64 0,.int .i64 0,.esl]∧nx=4) ?_ ?_
 ·subst hAA
  (have zz:=aI @t3 (aI @t4 (aI @t5 (aI @t6 (aI @ak @ae)))); repeat' (first | refine zW ?_ | apply a_n | refine zO ?_ | refine vZ ?_ | refine cZ ?_ (hp:=hc) | (refine zGZ ?_ ?_ <;> (intro _hg; try (exfalso; omega))) | fail)) <;> (try clear zz)
  exact ⟨(have zz:=@t3; evZ),(have zz:=@t4; evZ),(have zz:=@t5; evZ),(have zz:=@t6; evZ),rfl,rfl⟩
 clear t3 t4 t5 t6
 rintro T H _ ⟨t3,t4,t5,t6,rfl,rfl⟩
 subst hAA
 by_cases h1:outs < 1
 ·rw [if_pos (.inl h1)]
  have z:decide (outs < 1)=true:=decide_eq_true h1
  (have zz:=aI @t3 (aI @t4 (aI @t5 (aI @t6 (aI @z (aI @ak @ae))))); repeat' (first | refine zW ?_ | apply a_n | apply a_r | refine zO ?_ | refine vZ ?_ | refine stZ ?_ | refine gFZ ?_ | refine cTZ ?_ | refine aa rfl ?_ | refine r2Z ?_ | fail)) <;> (try clear zz)
  all_goals exact dj _
 have z1:decide (outs < 1)=false:=decide_eq_false h1
 by_cases h2:8 < outs
 ·rw [if_pos (.inr h2)]
  have z:decide (8 < outs)=true:=decide_eq_true h2
  (have zz:=aI @t3 (aI @t4 (aI @t5 (aI @t6 (aI @z1 (aI @z (aI @ak @ae)))))); repeat' (first | refine zW ?_ | apply a_n | apply a_r | refine zO ?_ | refine vZ ?_ | refine stZ ?_ | refine gTZ ?_ | refine cTZ ?_ | refine aa rfl ?_ | refine r2Z ?_ | fail)) <;> (try clear zz)
  all_goals exact dj _
 have z2:decide (8 < outs)=false:=decide_eq_false h2
 rw [if_neg (by omega)]
 by_cases h3:(to.length:Int) ≠ t.outs
 ·rw [if_pos h3]
  have z:decide ((to.length:Int) ≠ t.outs)=true:=decide_eq_true h3
  (have zz:=aI @t3 (aI @t4 (aI @t5 (aI @t6 (aI @z1 (aI @z2 (aI @z (aI @ak @ae))))))); repeat' (first | refine zW ?_ | apply a_n | apply a_r | refine zO ?_ | refine vZ ?_ | refine stZ ?_ | refine gTZ ?_ | refine cTZ ?_ | refine cFZ ?_ | refine aa rfl ?_ | refine r2Z ?_ | fail)) <;> (try clear zz)
  all_goals exact dj _
 have z3:decide ((to.length:Int) ≠ t.outs)=false:=decide_eq_false h3
 rw [if_neg h3]
 have hol:(to.length:Int)=t.outs:=Decidable.of_not_not h3
 refine aA (fun T H nx=>T 3=.ptr 0 4 0∧T 5=.ptr 2 1 0∧T 4=.ptr 1 1 0∧T 6=.ptr 3 4 0∧to.any (fun v=>decide (v < 0 ∨ outs ≤ v))=false∧H=ah (ah (ah (ah aL 0 [.int .i64 t.n,.int .i64 t.ins,.int .i64 t.outs,ba t.cases]) 1 [.int .i64 outs]) 2 [av to]) 3 [.int .i64 0,.int .i64 0,.int .i64 0,.esl]∧nx=4) ?_ ?_
 ·(have zz:=aI @t3 (aI @t4 (aI @t5 (aI @t6 (aI @z1 (aI @z2 (aI @z3 (aI @ak @ae))))))); repeat' (first | refine zW ?_ | apply a_n | refine zO ?_ | refine vZ ?_ | refine gTZ ?_ | refine cFZ ?_ | fail)) <;> (try clear zz)
  refine bU (have zz:=aI @t3 (aI @t4 (aI @t5 @t6)); evZ) (have zz:=aI @t3 (aI @t4 (aI @t5 @t6)); evZ) hA (al (by (repeat' (first | exact af | exact Dat.snap Dat.int | exact Dat.snap Dat.bool | exact Dat.snap Dat.str | exact Dat.snap Dat.esl | exact Dat.snap Dat.nilf | exact Dat.snap (bf _) | exact Dat.snap (a7 _) | apply ax | apply dg | apply dF | (apply dr; (focus ((try simp only [bo,ZA,reduceEqDiff,↓reduceIte,reduceAdd,reduceLeDiff]); with_reducible rfl)); (focus rfl))))) rfl) ?_
  cases hb:to.any (fun v=>decide (v < 0 ∨ outs ≤ v))
  ·(have zz:=aI @t3 (aI @t4 (aI @t5 (aI @t6 (aI @z1 (aI @z2 (aI @z3 (aI @ak (aI @ae @Bool.false_eq_true)))))))); repeat' (first | apply a_n | refine zO ?_ | refine vZ ?_ | refine cFZ ?_ | fail)) <;> (try clear zz)
   all_goals exact ⟨(have zz:=@t3; evZ),(have zz:=@t5; evZ),(have zz:=@t4; evZ),(have zz:=@t6; evZ),rfl,rfl,rfl⟩
  ·(have zz:=aI @t3 (aI @t4 (aI @t5 (aI @t6 (aI @z1 (aI @z2 (aI @z3 (aI @ak (aI @ae @Bool.false_eq_true)))))))); repeat' (first | refine zW ?_ | apply a_n | apply a_r | refine zO ?_ | refine vZ ?_ | refine stZ ?_ | refine cTZ ?_ | refine aa rfl ?_ | refine r2Z ?_ | fail)) <;> (try clear zz)
   rw [if_pos rfl]
   all_goals exact dj _
 clear t3 t4 t5 t6
 rintro T H _ ⟨t3,t5,t4,t6,hb,rfl,rfl⟩
 rw [hb,if_neg (by decide)]
 refine bG ?_
 refine fu (only 2 [av to]) (b5 (ah (ah (ah (ah aL 0 [.int .i64 t.n,.int .i64 t.ins,.int .i64 t.outs,ba t.cases]) 1 [.int .i64 outs]) 2 [av to]) 3 [.int .i64 0,.int .i64 0,.int .i64 0,.esl]) 2) [(3,.ptr 0 4 0),(4,.ptr 1 1 0),(5,.iptr [av to] 0),(6,.ptr 3 4 0)] (Fz.one (by rw [ab (by omega),ai])) ⟨.inl t3,.inl t4,.inr (by rw [t5]; exact dr lh rfl (ax (bf _ _) af)),.inl t6,trivial⟩ ?_
 generalize hH:b5 _ 2=H
 have g0:H 0=some [.int .i64 t.n,.int .i64 t.ins,.int .i64 t.outs,ba t.cases]:=by rw [← hH,jc (by omega),ab (by omega),ab (by omega),ab (by omega),ai]
 have g1:H 1=some [.int .i64 outs]:=by rw [← hH,jc (by omega),ab (by omega),ab (by omega),ai]
 have g3:H 3=some [.int .i64 0,.int .i64 0,.int .i64 0,.esl]:=by rw [← hH,jc (by omega),ai]
 clear hH
 (have zz:=and_self; repeat' (first | apply a_n | refine zO ?_ | refine vY ?_ | fail)) <;> (try clear zz)
 have nn:=eY he
 have hal:=fit.len
 refine aA (fun T H nx=>T 3=.ptr 0 4 0∧T 6=.ptr 3 4 0∧T 9=.func 74 [.iptr [av to] 0]∧T 10=.ptr 4 4 0∧nx=5∧H 0=some [.int .i64 t.n,.int .i64 t.ins,.int .i64 t.outs,ba t.cases]∧H 3=some [.int .i64 0,.int .i64 0,.int .i64 0,.esl]∧H 4=some [.int .i64 t.n,.int .i64 t.ins,.int .i64 outs,.esl]) ?_ ?_
 ·(have zz:=aI @g0 @g1; repeat' (first | apply a_n | refine zO ?_ | refine vY ?_ | refine alY ?_ | refine stY ?_ | fail)) <;> (try clear zz)
  exact ⟨(have zz:=and_self; evY),(have zz:=and_self; evY),(have zz:=and_self; evY),(have zz:=and_self; evY),rfl,by rw [ab (by omega),ab (by omega),g0],by rw [ab (by omega),ab (by omega),g3],by rw [ai]; rfl⟩
 clear g0 g1 g3 t3 t4 t5 t6
 rintro T H _ ⟨t3,t6,t9,t10,rfl,g0,g3,g4⟩
 refine aA (fun T H nx=>T 6=.ptr 3 4 0∧T 10=.ptr 4 4 0∧H 3=some [.int .i64 0,.int .i64 0,.int .i64 0,.esl]∧∃ sv,H 4=some [.int .i64 t.n,.int .i64 t.ins,.int .i64 outs,sv]∧Row H 3 sv ((t.cases.map (jq to)).c3 bk)∧∀ y,cp sv=some y→5 ≤ y) ?_ ?_
 rotate_left
 ·clear t3 t6 t9 t10 g0 g3 g4
  rintro T H nx ⟨t6,t10,g3,sv,g4,hrow,hbd⟩
  obtain ⟨q1,q2⟩:=hrow.one
  (have zz:=aI @t6 (aI @t10 (aI @g3 (aI @g4 (aI @q1 @q2)))); repeat' (first | refine zW ?_ | apply a_n | refine zO ?_ | refine vY ?_ | refine stY ?_ | refine aa rfl ?_ | refine r2Y ?_ | fail)) <;> (try clear zz)
  exact uh (jW (hrow.same fun x hx=>by have:=hbd x hx; rw [ab (by omega)]))
 (have zz:=aI @t3 (aI @g0 @ap); repeat' (first | refine zW ?_ | apply a_n | refine zO ?_ | refine vY ?_ | fail)) <;> (try clear zz)
 refine aW (X:=AV × Nat) (fun x=>[(6,.ptr 3 4 0),(9,.func 74 [.iptr [av to] 0]),(10,.ptr 4 4 0),(47,ba t.cases),(48,.int .i64 t.cases.length),(49,.int .i64 x.2)]) (fun x H nx=>x.2 ≤ t.cases.length∧5 ≤ nx∧H 3=some [.int .i64 0,.int .i64 0,.int .i64 0,.esl]∧H 4=some [.int .i64 t.n,.int .i64 t.ins,.int .i64 outs,x.1]∧Row H 3 x.1 (((t.cases.take x.2).map (jq to)).c3 bk)∧∀ y,cp x.1=some y→5 ≤ y∧y < nx) (fun x=>t.cases.length - x.2) (.esl,0) ⟨Nat.zero_le _,Nat.le_refl _,g3,g4,Row.nil,fun b hb=>(by cases hb)⟩ (have zz:=aI @t6 (aI @t9 @t10); agZ) ?_
 clear t3 t6 t9 t10 g0 g3 g4
 rintro ⟨sv,k⟩ H nx ⟨hk,hnx,g3,g4,hrow,hbd⟩
 dsimp only at hk g4 hrow hbd ⊢
 by_cases hk2:k < t.cases.length
 rotate_left
 ·rw [List.take_of_length_le (by omega)] at hrow
  (have zz:=and_self; repeat' (first | refine zW ?_ | apply a_n | apply a_x | refine zO ?_ | refine vY ?_ | (refine zGY ?_ ?_ <;> (intro _hg; try (exfalso; omega))) | fail)) <;> (try clear zz)
  exact ⟨rfl,rfl,g3,sv,g4,hrow,fun y hy=>(hbd y hy).1⟩
 have ix:=a9 hk2
 have hm:=aj hk2
 have hst:((t.cases.take (k + 1)).map (jq to)).c3 bk=((t.cases.take k).map (jq to)).c3 bk ++ (bk (jq to (t.cases.getD k default))).cells:=by
  rw [bx hk2,List.map_append]
  simp [List.c3]
 have hlen3:(((t.cases.take k).map (jq to)).c3 bk).length=k * 3:=by
  rw [aS (fun _=>rfl),List.length_map,List.length_take]; omega
 have hsc:=fit.sh _ hm
 have hqc:=fit.q _ hm
 have hvc:=jQ he hm
 have hcm:∀ v ∈ (t.cases.getD k default).calm,v ∈ (t.cases.getD k default).out:=(c6 (e5 he hm).2).2.2.2.1
 generalize t.cases.getD k default=c at *
 obtain ⟨q1,q2⟩:=hrow.one
 have hcl:=p8 c.inp hsc.1
 have m1:=pO c.out to t.n.toNat (by omega) (by omega) hqc.1 hto (fun v hv=>⟨by have:=(hvc.1 v hv).1; omega,fun z hz=>by have:=(hvc.1 v hv).2 z hz; omega⟩)
 have m2:=pO c.calm to t.n.toNat (by omega) (by omega) hqc.2 hto (fun v hv=>⟨by have:=(hvc.1 v (hcm v hv)).1; omega,fun z hz=>by have:=(hvc.1 v (hcm v hv)).2 z hz; omega⟩)
 refine bG ?_
 (have zz:=and_self; repeat' (first | apply a_n | refine zO ?_ | refine vY ?_ | fail)) <;> (try clear zz)
 refine bG ?_
 (have zz:=and_self; repeat' (first | apply a_n | refine zO ?_ | (refine zGY ?_ ?_ <;> (intro _hg; try (exfalso; omega))) | fail)) <;> (try clear zz)
 refine bG ?_
 refine bZ ?_
 refine bG ?_
 (have zz:=@ix; repeat' (first | apply a_n | refine zO ?_ | refine vY ?_ | refine alY ?_ | refine stY ?_ | fail)) <;> (try clear zz)
 generalize hH2:ah (ah H nx _) nx _=H2
 have gs:∀ x,x < nx→H2 x=H x:=fun x hx=>by rw [← hH2,ab (by omega),ab (by omega)]
 have gc:H2 nx=some [av c.inp,aw c.out,aw c.calm]:=by rw [← hH2,ai]; rfl
 clear hH2
 refine qY (ed H2 (nx + 1)) rfl (iq fun _ _=>rfl) ?_
 have s4:ed H2 (nx + 1) 4=some [.int .i64 t.n,.int .i64 t.ins,.int .i64 outs,sv]:=by rw [ij (by omega),gs 4 (by omega),g4]
 have sc:ed H2 (nx + 1) nx=some [av c.inp,aw c.out,aw c.calm]:=by rw [ij (by omega),gc]
 have hSub:∀ H',(∀ x,x < nx + 1→H' x=H2 x)→Sub (ed H2 (nx + 1)) H':=fun H' h=>iq h
 generalize ed H2 (nx + 1)=S at *
 (have zz:=aI @s4 @sc; repeat' (first | apply a_n | refine zO ?_ | refine nvY ?_ | fail)) <;> (try clear zz)
 refine eZ ?_
 refine r6 (have zz:=and_self; evY) (have zz:=and_self; evY) hcl (ax (bf _ _) af) ?_
 refine jb ⟨hSub _ fun _ _=>rfl,?_⟩
 refine eZ ?_
 refine bU (have zz:=and_self; evY) (have zz:=and_self; evY) m1 (ao (by (repeat' (first | exact af | exact Dat.snap Dat.int | exact Dat.snap Dat.bool | exact Dat.snap Dat.str | exact Dat.snap Dat.esl | exact Dat.snap Dat.nilf | exact Dat.snap (bf _) | exact Dat.snap (a7 _) | apply ax | apply dg | apply dF | (apply dr; (focus ((try simp only [bo,ZA,reduceEqDiff,↓reduceIte,reduceAdd,reduceLeDiff]); with_reducible rfl)); (focus rfl)))))) ?_
 refine jb ⟨hSub _ fun _ _=>rfl,?_⟩
 refine eZ ?_
 refine bU (have zz:=and_self; evY) (have zz:=and_self; evY) m2 (ao (by (repeat' (first | exact af | exact Dat.snap Dat.int | exact Dat.snap Dat.bool | exact Dat.snap Dat.str | exact Dat.snap Dat.esl | exact Dat.snap Dat.nilf | exact Dat.snap (bf _) | exact Dat.snap (a7 _) | apply ax | apply dg | apply dF | (apply dr; (focus ((try simp only [bo,ZA,reduceEqDiff,↓reduceIte,reduceAdd,reduceLeDiff]); with_reducible rfl)); (focus rfl)))))) ?_
 refine jb ⟨hSub _ fun _ _=>rfl,?_⟩
 (have zz:=aI @s4 @sc; repeat' (first | apply a_n | refine zO ?_ | refine nvY ?_ | fail)) <;> (try clear zz)
 refine eZ ?_
 (have zz:=and_self; repeat' (first | apply a_n | refine zO ?_ | refine blY ?_ | fail)) <;> (try clear zz)
 refine ⟨hSub _ fun x hx=>by rw [ab (by omega)],?_⟩
 (have zz:=aI @s4 @sc; repeat' (first | apply a_n | refine zO ?_ | apply mW | fail)) <;> (try clear zz)
 refine fl rfl ev0 (hrow.same fun y hy=>?_) ev0 ec rfl rfl (by omega) (by rw [hlen3]; omega) (by rw [hlen3]; omega) ?_
 ·have:=hbd y hy
  rw [ab (by omega),gs y (by omega)]
 rintro s2 E e hrw hle1 hle2 hsm hb2
 have hfr:∀ x,x < 5→E x=H x:=fun x hx=>(hsm x (by omega) (fun h=>by have:=hbd _ h; omega)).trans (by rw [ab (by omega),gs x (by omega)])
 have g4'':=(hfr 4 (by omega)).trans g4
 obtain ⟨p1,p2⟩:=hrw.one
 have ub:∀ y,cp s2=some y→5 ≤ y∧y < e:=fun y hy=>by
  rcases hb2 y hy with h | h
  ·have:=hbd y h; omega
  ·omega
 (have zz:=aI @s4 (aI @sc (aI @g4'' (aI @p1 @p2))); repeat' (first | apply a_n | refine zO ?_ | refine vY ?_ | refine nvY ?_ | apply mW | refine stY ?_ | fail)) <;> (try clear zz)
 refine ⟨(s2,k + 1),by dsimp only; omega,⟨by dsimp only; omega,by omega,?_,?_,?_,ub⟩,ag0⟩
 ·rw [ab (by omega),hfr 3 (by omega),g3]
 ·rw [ai]; rfl
 ·dsimp only
  rw [hst]
  refine Row.same (H:=E) hrw fun y hy=>?_
  have:=ub y hy
  rw [ab (by omega)]
end Go.Proofs.YtjgpfclngkcedaaGreat
namespace Go.Proofs.YtjgpfclngkcedaaGreat
open Go Go.Abs
open Nat (reduceEqDiff reduceAdd reduceLeDiff)
theorem tx {to v:List Int} {p:Nat} (h:p < v.length):(bF to v).take (p + 1)=(bF to v).take p ++ [to.getD (v.getD p default).toNat default]:=by
 rw [bx (by rw [dP]; exact h),uM h]
theorem tv {l:List (List Int)} {v:List Int}:e8 (l ++ [v])=jI (e8 l) v:=ss
attribute [local irreducible] aB ag aR aO aF aH ay aJ aP aZ Go.Abs.Fn aM Go.Abs.Pure an aC Yl
set_option maxHeartbeats 2000000 in
theorem l4 (l:List (List Int)) (to:List Int) (n:Nat) (h0:0 < n) (hn:n ≤ 5) (hl:l.length ≤ 90000) (hto:to.length ≤ 1000) (hls:∀ v ∈ l,v.length=n∧∀ z ∈ v,0 ≤ z∧z < to.length):Pure Tryz.prog 76 [aw l,av to] (aw (e8 (l.map (bF to)))):=by
 refine Pure.of_c2 follows A9 (Nat.le_of_ble_eq_true rfl) ?_
 simp only [b76,cO,cG,cN,cM,cD,cF,cB,au,aD]
 (have zz:=and_self; repeat' (first | refine zW ?_ | apply a_n | refine zO ?_ | refine vY ?_ | fail)) <;> (try clear zz)
 refine aW (X:=AV × Nat) (fun s=>[(0,aw l),(1,av to),(5,s.1),(6,.int .i64 s.2)]) (fun s H nx=>s.2 ≤ l.length∧∀ H',Snap H' s.1 (aw (e8 ((l.take s.2).map (bF to))))) (fun s=>l.length - s.2) (.esl,0) ⟨Nat.zero_le _,fun _=>.eslsl 1⟩ ag0 ?_
 rintro ⟨s,i⟩ H nx ⟨hi,hsn⟩
 dsimp only at hi hsn ⊢
 by_cases hi2:i < l.length
 rotate_left
 ·rw [List.take_of_length_le (by omega)] at hsn
  (have zz:=and_self; repeat' (first | refine zW ?_ | apply a_n | apply a_x | refine zO ?_ | refine vY ?_ | (refine zGY ?_ ?_ <;> (intro _hg; try (exfalso; omega))) | refine aa rfl ?_ | refine r1Y ?_ | fail)) <;> (try clear zz)
  exact hsn _
 obtain ⟨vl,vb⟩:=hls _ (aj hi2)
 have hst:e8 ((l.take (i + 1)).map (bF to))=jI (e8 ((l.take i).map (bF to))) (bF to (l.getD i default)):=by
  rw [bx hi2,List.map_append]; exact tv
 have hlen:(e8 ((l.take i).map (bF to))).length ≤ 100000:=by
  have:=ph (l:=(l.take i).map (bF to))
  rw [List.length_map,List.length_take] at this
  omega
 have hsh:∀ u ∈ e8 ((l.take i).map (bF to)),Sh u:=fun u hu=>by
  obtain ⟨v,hv,rfl⟩:=List.mem_map.1 (jh.1 hu)
  show (bF to v).length ≤ _
  rw [dP,(hls v (List.mem_of_mem_take hv)).1]; omega
 generalize hv:l.getD i default=v at *
 generalize e8 ((l.take i).map (bF to))=Q at *
 have hvs:Sh (bF to v):=by show (bF to v).length ≤ _; rw [dP]; omega
 have hh:=AJ Q (bF to v) (show _ ≤ _ by omega) hsh hvs
 have hins:=nL Q (bF to v) hlen hvs hsh
 refine bG ?_
 refine bG ?_
 (have zz:=and_self; repeat' (first | apply a_n | refine zO ?_ | refine vY ?_ | (refine zGY ?_ ?_ <;> (intro _hg; try (exfalso; omega))) | fail)) <;> (try clear zz)
 refine bG ?_
 refine bZ ?_
 refine bG ?_
 (have zz:=and_self; repeat' (first | apply a_n | refine zO ?_ | refine vY ?_ | fail)) <;> (try clear zz)
 refine aA (fun T' H' nx'=>T' 0=aw l∧T' 1=av to∧T' 5=s∧T' 6=.int .i64 i∧∃ sv,T' 7=sv∧Row H' 1 sv ((bF to v).map (AV.int .i64))) ?_ ?_
 ·(have zz:=and_self; repeat' (first | refine zW ?_ | apply a_n | refine zO ?_ | refine vY ?_ | fail)) <;> (try clear zz)
  refine aW (X:=AV × Nat) (fun r=>[(0,aw l),(1,av to),(5,s),(6,.int .i64 i),(7,r.1),(8,.int .i64 r.2)]) (fun r H nx=>r.2 ≤ v.length∧Row H 1 r.1 (((bF to v).take r.2).map (AV.int .i64))∧∀ z,cp r.1=some z→z < nx) (fun r=>v.length - r.2) (.esl,0) ⟨Nat.zero_le _,Row.nil,fun b hb=>(by cases hb)⟩ ag0 ?_
  rintro ⟨sv,p⟩ H nx ⟨hp,hrow,hbd⟩
  dsimp only at hp hrow hbd ⊢
  by_cases hp2:p < v.length
  rotate_left
  ·rw [List.take_of_length_le (by rw [dP]; omega)] at hrow
   (have zz:=@hv; repeat' (first | refine zW ?_ | apply a_n | apply a_x | refine zO ?_ | refine vY ?_ | (refine zGY ?_ ?_ <;> (intro _hg; try (exfalso; omega))) | fail)) <;> (try clear zz)
   exact ⟨rfl,rfl,rfl,rfl,sv,rfl,hrow⟩
  have b1:=vb _ (aj hp2)
  have hpt:=tx (to:=to) (v:=v) hp2
  obtain ⟨z,hz⟩:∃ z:Nat,v.getD p default=z:=⟨(v.getD p default).toNat,by omega⟩
  rw [hz,Int.toNat_natCast] at hpt
  have hzl:z < to.length:=by omega
  have hlt:((bF to v).take p).length=p:=by rw [List.length_take,dP]; omega
  (have zz:=aI @hv @hz; repeat' (first | refine zW ?_ | apply a_n | refine zO ?_ | refine vY ?_ | refine blY ?_ | (refine zGY ?_ ?_ <;> (intro _hg; try (exfalso; omega))) | fail)) <;> (try clear zz)
  refine fl rfl ev0 (hrow.same fun z hz=>?_) ev0 ka rfl rfl Nat.one_pos (by rw [List.length_map,hlt]; omega) (by rw [List.length_map,hlt]; omega) ?_
  ·have:=hbd z hz
   rw [ab (by omega)]
  rintro s2 E e hrw hle1 hle2 hsm hb2
  (have zz:=and_self; repeat' (first | apply a_n | refine zO ?_ | refine vY ?_ | fail)) <;> (try clear zz)
  refine ⟨(s2,p + 1),by dsimp only; omega,⟨by dsimp only; omega,?_,fun z hz=>?_⟩,ag0⟩
  ·dsimp only
   rw [hpt,List.map_append]
   exact hrw
  ·rcases hb2 z hz with h | h
   ·have:=hbd z h; omega
   ·omega
 rintro T H2 nx2 ⟨t0,t1,t5,t6,sv,t7,hrow⟩
 obtain ⟨B,rfl,hB⟩:=vu hrow (by rw [dP]; omega)
 refine bG ?_
 refine fu (only B ((bF to v).map (AV.int .i64))) (b5 H2 B) [(0,aw l),(1,av to),(5,aw Q),(6,.int .i64 i),(7,av (bF to v))] (Fz.one hB) ⟨.inl t0,.inl t1,.inr (by rw [t5]; exact hsn _),.inl t6,.inr (by rw [t7]; exact gQ lh rfl rfl),trivial⟩ ?_
 unfold jI at hst
 by_cases hm:bF to v ∈ Q
 ·rw [decide_eq_true hm] at hh
  rw [if_pos hm] at hst
  (have zz:=and_self; repeat' (first | apply a_n | refine zO ?_ | refine vY ?_ | refine cY ?_ (hp:=hh) | refine cFY ?_ | fail)) <;> (try clear zz)
  exact ⟨(aw Q,i + 1),by dsimp only; omega,⟨by dsimp only; omega,fun H'=>by dsimp only; rw [hst]; exact a7 _ H'⟩,ag0⟩
 ·rw [decide_eq_false hm] at hh
  rw [if_neg hm] at hst
  (have zz:=and_self; repeat' (first | apply a_n | refine zO ?_ | refine vY ?_ | refine cY ?_ (hp:=by first | exact hh | exact hins) | refine cTY ?_ | fail)) <;> (try clear zz)
  exact ⟨(aw (fR aQ Q (bF to v)),i + 1),by dsimp only; omega,⟨by dsimp only; omega,fun H'=>by dsimp only; rw [hst]; exact a7 _ H'⟩,ag0⟩
set_option maxHeartbeats 2000000 in
theorem uf (t:TaskV) (outs:Int) (to:List Int) (fit:Fit4 t) (hto:to.length ≤ 1000):Pure Tryz.prog 24 [bt t,.int .i64 outs,av to] (.tup [bt (du t outs to).1,.int .i64 (du t outs to).2]):=by
 refine Pure.of_c2 follows Bf (Nat.le_of_ble_eq_true rfl) ?_
 simp only [b24,cO,cG,cN,cM,cD,cF,cB,au,aD]
 have hc:=uF t fit.fit.sh fit.fit.sh2
 have d1:=bW t
 unfold du
 generalize hAA:[.int .i64 t.n,.int .i64 t.ins,.int .i64 t.outs,ba t.cases]=A
 have hTA:bt t=.agg A:=by rw [← hAA]; rfl
 rw [hTA] at hc d1 ⊢
 refine aA (fun T H nx=>T 1=.int .i64 outs∧T 2=av to∧T 3=.ptr 0 4 0∧T 6=.ptr 1 4 0∧H=ah (ah aL 0 A) 1 [.int .i64 0,.int .i64 0,.int .i64 0,.esl]∧nx=2) ?_ ?_
 ·subst hAA
  (have zz:=aI @ak @ae; repeat' (first | apply a_n | refine zO ?_ | refine vZ ?_ | refine alZ ?_ | refine bxZ ?_ | fail)) <;> (try clear zz)
  exact ⟨rfl,rfl,rfl,rfl,rfl,rfl⟩
 rintro T H _ ⟨t1,t2,t3,t6,rfl,rfl⟩
 by_cases he:a8 t=0
 rotate_left
 ·rw [if_pos he]
  generalize a8 t=C at *
  subst hAA
  (have zz:=aI @t1 (aI @t2 (aI @t3 (aI @t6 (aI @ak @ae)))); repeat' (first | refine zW ?_ | apply a_n | apply a_r | refine zO ?_ | refine vZ ?_ | refine cZ ?_ (hp:=hc) | refine stZ ?_ | (refine zGZ ?_ ?_ <;> (intro _hg; try (exfalso; omega))) | refine aa rfl ?_ | refine r2Z ?_ | fail)) <;> (try clear zz)
  exact dj _
 rw [if_neg (fun h=>h he)]
 rw [he] at hc
 refine aA (fun T H nx=>T 1=.int .i64 outs∧T 2=av to∧T 3=.ptr 0 4 0∧T 6=.ptr 1 4 0∧H=ah (ah aL 0 A) 1 [.int .i64 0,.int .i64 0,.int .i64 0,.esl]∧nx=2) ?_ ?_
 ·subst hAA
  (have zz:=aI @t1 (aI @t2 (aI @t3 (aI @t6 (aI @ak @ae)))); repeat' (first | refine zW ?_ | apply a_n | refine zO ?_ | refine vZ ?_ | refine cZ ?_ (hp:=hc) | (refine zGZ ?_ ?_ <;> (intro _hg; try (exfalso; omega))) | fail)) <;> (try clear zz)
  exact ⟨(have zz:=@t1; evZ),(have zz:=@t2; evZ),(have zz:=@t3; evZ),(have zz:=@t6; evZ),rfl,rfl⟩
 clear t1 t2 t3 t6
 rintro T H _ ⟨t1,t2,t3,t6,rfl,rfl⟩
 subst hAA
 by_cases h1:outs < 1
 ·rw [if_pos (.inl h1)]
  have z:decide (outs < 1)=true:=decide_eq_true h1
  (have zz:=aI @t1 (aI @t2 (aI @t3 (aI @t6 (aI @z (aI @ak @ae))))); repeat' (first | refine zW ?_ | apply a_n | apply a_r | refine zO ?_ | refine vZ ?_ | refine stZ ?_ | refine gFZ ?_ | refine cTZ ?_ | refine aa rfl ?_ | refine r2Z ?_ | fail)) <;> (try clear zz)
  all_goals exact dj _
 have z1:decide (outs < 1)=false:=decide_eq_false h1
 by_cases h2:8 < outs
 ·rw [if_pos (.inr h2)]
  have z:decide (8 < outs)=true:=decide_eq_true h2
  (have zz:=aI @t1 (aI @t2 (aI @t3 (aI @t6 (aI @z1 (aI @z (aI @ak @ae)))))); repeat' (first | refine zW ?_ | apply a_n | apply a_r | refine zO ?_ | refine vZ ?_ | refine stZ ?_ | refine gTZ ?_ | refine cTZ ?_ | refine aa rfl ?_ | refine r2Z ?_ | fail)) <;> (try clear zz)
  all_goals exact dj _
 have z2:decide (8 < outs)=false:=decide_eq_false h2
 rw [if_neg (by omega)]
 refine aA (fun T H nx=>T 1=.int .i64 outs∧T 2=av to∧T 3=.ptr 0 4 0∧T 6=.ptr 1 4 0∧H=ah (ah aL 0 [.int .i64 t.n,.int .i64 t.ins,.int .i64 t.outs,ba t.cases]) 1 [.int .i64 0,.int .i64 0,.int .i64 0,.esl]∧nx=2) ?_ ?_
 ·(have zz:=aI @t1 (aI @t2 (aI @t3 (aI @t6 (aI @z1 (aI @z2 (aI @ak @ae)))))); repeat' (first | refine zW ?_ | apply a_n | refine zO ?_ | refine vZ ?_ | refine gTZ ?_ | refine cFZ ?_ | fail)) <;> (try clear zz)
  exact ⟨(have zz:=@t1; evZ),(have zz:=@t2; evZ),(have zz:=@t3; evZ),(have zz:=@t6; evZ),rfl,rfl⟩
 clear t1 t2 t3 t6
 rintro T H _ ⟨t1,t2,t3,t6,rfl,rfl⟩
 by_cases h3:(to.length:Int) ≠ t.outs
 ·rw [if_pos h3]
  have z:decide ((to.length:Int) ≠ t.outs)=true:=decide_eq_true h3
  (have zz:=aI @t1 (aI @t2 (aI @t3 (aI @t6 (aI @z (aI @ak @ae))))); repeat' (first | refine zW ?_ | apply a_n | apply a_r | refine zO ?_ | refine vZ ?_ | refine stZ ?_ | refine cTZ ?_ | refine aa rfl ?_ | refine r2Z ?_ | fail)) <;> (try clear zz)
  all_goals exact dj _
 have z3:decide ((to.length:Int) ≠ t.outs)=false:=decide_eq_false h3
 rw [if_neg h3]
 have hol:(to.length:Int)=t.outs:=Decidable.of_not_not h3
 refine aA (fun T H nx=>T 1=.int .i64 outs∧T 2=av to∧T 3=.ptr 0 4 0∧T 6=.ptr 1 4 0∧H=ah (ah aL 0 [.int .i64 t.n,.int .i64 t.ins,.int .i64 t.outs,ba t.cases]) 1 [.int .i64 0,.int .i64 0,.int .i64 0,.esl]∧nx=2) ?_ ?_
 ·(have zz:=aI @t1 (aI @t2 (aI @t3 (aI @t6 (aI @z3 (aI @ak @ae))))); repeat' (first | refine zW ?_ | apply a_n | refine zO ?_ | refine vZ ?_ | refine cFZ ?_ | fail)) <;> (try clear zz)
  exact ⟨(have zz:=@t1; evZ),(have zz:=@t2; evZ),(have zz:=@t3; evZ),(have zz:=@t6; evZ),rfl,rfl⟩
 clear t1 t2 t3 t6
 rintro T H _ ⟨t1,t2,t3,t6,rfl,rfl⟩
 refine aA (fun T H nx=>T 2=av to∧T 3=.ptr 0 4 0∧T 6=.ptr 1 4 0∧T 1=.int .i64 outs∧to.any (fun v=>decide (v < 0 ∨ outs ≤ v))=false∧H=ah (ah aL 0 [.int .i64 t.n,.int .i64 t.ins,.int .i64 t.outs,ba t.cases]) 1 [.int .i64 0,.int .i64 0,.int .i64 0,.esl]∧nx=2) ?_ ?_
 ·(have zz:=and_self; repeat' (first | refine zW ?_ | apply a_n | refine zO ?_ | refine vY ?_ | fail)) <;> (try clear zz)
  refine iI (fun k=>[(1,.int .i64 outs),(2,av to),(3,.ptr 0 4 0),(6,.ptr 1 4 0),(9,.int .i64 k)]) to.length (fun k=>decide (to.getD k default < 0 ∨ outs ≤ to.getD k default)=false) (have zz:=aI @t1 (aI @t2 (aI @t3 @t6)); agZ) ?_
  intro k hk hz
  by_cases hk2:k < to.length
  rotate_left
  ·(have zz:=and_self; repeat' (first | refine zW ?_ | apply a_n | apply a_x | refine zO ?_ | refine vZ ?_ | (refine zGZ ?_ ?_ <;> (intro _hg; try (exfalso; omega))) | fail)) <;> (try clear zz)
   exact ⟨rfl,rfl,rfl,rfl,nM fun i hi=>hz i (by omega),rfl,rfl⟩
  by_cases hb:to.getD k default < 0 ∨ outs ≤ to.getD k default
  ·rw [pk (p:=fun v=>decide (v < 0 ∨ outs ≤ v)) hk2 (decide_eq_true hb),if_pos rfl]
   (have zz:=and_self; repeat' (first | refine zW ?_ | apply a_n | apply a_r | refine zO ?_ | refine vZ ?_ | refine stZ ?_ | refine gTZ ?_ | refine gFZ ?_ | refine cTZ ?_ | (refine zGZ ?_ ?_ <;> (intro _hg; try (exfalso; omega))) | refine aa rfl ?_ | refine r2Z ?_ | fail)) <;> (try clear zz)
   all_goals exact dj _
  ·(have zz:=and_self; repeat' (first | refine zW ?_ | apply a_n | refine zO ?_ | refine vZ ?_ | refine gTZ ?_ | (refine zGZ ?_ ?_ <;> (intro _hg; try (exfalso; omega))) | fail)) <;> (try clear zz)
   exact ⟨hk2,decide_eq_false hb,ag0,rfl,rfl⟩
 clear t1 t2 t3 t6
 rintro T H _ ⟨t2,t3,t6,t1,hb,rfl,rfl⟩
 rw [hb,if_neg (by decide)]
 have nn:=eY he
 have hal:=fit.fit.len
 refine aA (fun T H nx=>T 2=av to∧T 3=.ptr 0 4 0∧T 6=.ptr 1 4 0∧T 10=.ptr 2 4 0∧nx=3∧H 0=some [.int .i64 t.n,.int .i64 t.ins,.int .i64 t.outs,ba t.cases]∧H 1=some [.int .i64 0,.int .i64 0,.int .i64 0,.esl]∧H 2=some [.int .i64 t.n,.int .i64 t.ins,.int .i64 outs,.esl]) ?_ ?_
 ·(have zz:=aI @t1 (aI @t2 (aI @t3 @t6)); repeat' (first | apply a_n | refine zO ?_ | refine vZ ?_ | refine alZ ?_ | refine stZ ?_ | fail)) <;> (try clear zz)
  exact ⟨(have zz:=@t2; evZ),(have zz:=@t3; evZ),(have zz:=@t6; evZ),ev0,rfl,rfl,rfl,rfl⟩
 clear t1 t2 t3 t6
 rintro T H _ ⟨t2,t3,t6,t10,rfl,g0,g1,g2⟩
 refine aA (fun T H nx=>T 6=.ptr 1 4 0∧T 10=.ptr 2 4 0∧H 1=some [.int .i64 0,.int .i64 0,.int .i64 0,.esl]∧∃ sv,H 2=some [.int .i64 t.n,.int .i64 t.ins,.int .i64 outs,sv]∧Row H 3 sv ((t.cases.map (jq to)).c3 bk)∧∀ y,cp sv=some y→3 ≤ y) ?_ ?_
 rotate_left
 ·clear t2 t3 t6 t10 g0 g1 g2
  rintro T H nx ⟨t6,t10,g1,sv,g2,hrow,hbd⟩
  obtain ⟨q1,q2⟩:=hrow.one
  (have zz:=aI @t6 (aI @t10 (aI @g1 (aI @g2 (aI @q1 @q2)))); repeat' (first | refine zW ?_ | apply a_n | refine zO ?_ | refine vY ?_ | refine stY ?_ | refine aa rfl ?_ | refine r2Y ?_ | fail)) <;> (try clear zz)
  exact uh (jW (hrow.same fun x hx=>by have:=hbd x hx; rw [ab (by omega)]))
 (have zz:=and_self; repeat' (first | refine zW ?_ | apply a_n | refine zO ?_ | refine vY ?_ | fail)) <;> (try clear zz)
 refine aW (X:=AV × Nat) (fun x=>[(2,av to),(3,.ptr 0 4 0),(6,.ptr 1 4 0),(10,.ptr 2 4 0),(11,.int .i64 x.2)]) (fun x H nx=>x.2 ≤ t.cases.length∧3 ≤ nx∧H 0=some [.int .i64 t.n,.int .i64 t.ins,.int .i64 t.outs,ba t.cases]∧H 1=some [.int .i64 0,.int .i64 0,.int .i64 0,.esl]∧H 2=some [.int .i64 t.n,.int .i64 t.ins,.int .i64 outs,x.1]∧Row H 3 x.1 (((t.cases.take x.2).map (jq to)).c3 bk)∧∀ y,cp x.1=some y→3 ≤ y∧y < nx) (fun x=>t.cases.length - x.2) (.esl,0) ⟨Nat.zero_le _,Nat.le_refl _,g0,g1,g2,Row.nil,fun b hb=>(by cases hb)⟩ (have zz:=aI @t2 (aI @t3 (aI @t6 @t10)); agZ) ?_
 clear t2 t3 t6 t10 g0 g1 g2
 rintro ⟨sv,k⟩ H nx ⟨hk,hnx,g0,g1,g2,hrow,hbd⟩
 dsimp only at hk g2 hrow hbd ⊢
 by_cases hk2:k < t.cases.length
 rotate_left
 ·rw [List.take_of_length_le (by omega)] at hrow
  (have zz:=aI @g0 @ap; repeat' (first | refine zW ?_ | apply a_n | apply a_x | refine zO ?_ | refine vY ?_ | (refine zGY ?_ ?_ <;> (intro _hg; try (exfalso; omega))) | fail)) <;> (try clear zz)
  exact ⟨rfl,rfl,g1,sv,g2,hrow,fun y hy=>(hbd y hy).1⟩
 have ix:=a9 hk2
 have hm:=aj hk2
 have hst:((t.cases.take (k + 1)).map (jq to)).c3 bk=((t.cases.take k).map (jq to)).c3 bk ++ (bk (jq to (t.cases.getD k default))).cells:=by
  rw [bx hk2,List.map_append]
  simp [List.c3]
 have hlen3:(((t.cases.take k).map (jq to)).c3 bk).length=k * 3:=by
  rw [aS (fun _=>rfl),List.length_map,List.length_take]; omega
 have hsc:=fit.fit.sh _ hm
 have hqc:=fit.q4 _ hm
 have hvc:=jQ he hm
 have hcm:∀ v ∈ (t.cases.getD k default).calm,v ∈ (t.cases.getD k default).out:=(c6 (e5 he hm).2).2.2.2.1
 generalize t.cases.getD k default=c at *
 obtain ⟨q1,q2⟩:=hrow.one
 have m1:=l4 c.out to t.n.toNat (by omega) (by omega) (by omega) hto (fun v hv=>⟨by have:=(hvc.1 v hv).1; omega,fun z hz=>by have:=(hvc.1 v hv).2 z hz; omega⟩)
 have m2:=l4 c.calm to t.n.toNat (by omega) (by omega) (by omega) hto (fun v hv=>⟨by have:=(hvc.1 v (hcm v hv)).1; omega,fun z hz=>by have:=(hvc.1 v (hcm v hv)).2 z hz; omega⟩)
 refine bG ?_
 refine bG ?_
 (have zz:=aI @g0 @ap; repeat' (first | apply a_n | refine zO ?_ | refine vY ?_ | (refine zGY ?_ ?_ <;> (intro _hg; try (exfalso; omega))) | fail)) <;> (try clear zz)
 refine bG ?_
 refine bZ ?_
 refine bG ?_
 (have zz:=aI @g0 @ix; repeat' (first | apply a_n | refine zO ?_ | refine vY ?_ | refine alY ?_ | refine stY ?_ | fail)) <;> (try clear zz)
 generalize hH2:ah (ah H nx _) nx _=H2
 have gs:∀ x,x < nx→H2 x=H x:=fun x hx=>by rw [← hH2,ab (by omega),ab (by omega)]
 have gc:H2 nx=some [av c.inp,aw c.out,aw c.calm]:=by rw [← hH2,ai]; rfl
 clear hH2
 refine qY (ed H2 (nx + 1)) rfl (iq fun _ _=>rfl) ?_
 have s4:ed H2 (nx + 1) 2=some [.int .i64 t.n,.int .i64 t.ins,.int .i64 outs,sv]:=by rw [ij (by omega),gs 2 (by omega),g2]
 have sc:ed H2 (nx + 1) nx=some [av c.inp,aw c.out,aw c.calm]:=by rw [ij (by omega),gc]
 have hSub:∀ H',(∀ x,x < nx + 1→H' x=H2 x)→Sub (ed H2 (nx + 1)) H':=fun H' h=>iq h
 generalize ed H2 (nx + 1)=S at *
 (have zz:=aI @s4 @sc; repeat' (first | apply a_n | refine zO ?_ | refine nvY ?_ | fail)) <;> (try clear zz)
 refine eZ ?_
 refine bU (have zz:=and_self; evY) (have zz:=and_self; evY) m1 (ao (by (repeat' (first | exact af | exact Dat.snap Dat.int | exact Dat.snap Dat.bool | exact Dat.snap Dat.str | exact Dat.snap Dat.esl | exact Dat.snap Dat.nilf | exact Dat.snap (bf _) | exact Dat.snap (a7 _) | apply ax | apply dg | apply dF | (apply dr; (focus ((try simp only [bo,ZA,reduceEqDiff,↓reduceIte,reduceAdd,reduceLeDiff]); with_reducible rfl)); (focus rfl)))))) ?_
 refine jb ⟨hSub _ fun _ _=>rfl,?_⟩
 refine eZ ?_
 refine bU (have zz:=and_self; evY) (have zz:=and_self; evY) m2 (ao (by (repeat' (first | exact af | exact Dat.snap Dat.int | exact Dat.snap Dat.bool | exact Dat.snap Dat.str | exact Dat.snap Dat.esl | exact Dat.snap Dat.nilf | exact Dat.snap (bf _) | exact Dat.snap (a7 _) | apply ax | apply dg | apply dF | (apply dr; (focus ((try simp only [bo,ZA,reduceEqDiff,↓reduceIte,reduceAdd,reduceLeDiff]); with_reducible rfl)); (focus rfl)))))) ?_
 refine jb ⟨hSub _ fun _ _=>rfl,?_⟩
 (have zz:=aI @s4 @sc; repeat' (first | apply a_n | refine zO ?_ | refine nvY ?_ | fail)) <;> (try clear zz)
 refine eZ ?_
 (have zz:=and_self; repeat' (first | apply a_n | refine zO ?_ | refine blY ?_ | fail)) <;> (try clear zz)
 refine ⟨hSub _ fun x hx=>by rw [ab (by omega)],?_⟩
 (have zz:=aI @s4 @sc; repeat' (first | apply a_n | refine zO ?_ | apply mW | fail)) <;> (try clear zz)
 refine fl rfl ev0 (hrow.same fun y hy=>?_) ev0 ec rfl rfl (by omega) (by rw [hlen3]; omega) (by rw [hlen3]; omega) ?_
 ·have:=hbd y hy
  rw [ab (by omega),gs y (by omega)]
 rintro s2 E e hrw hle1 hle2 hsm hb2
 have hfr:∀ x,x < 3→E x=H x:=fun x hx=>(hsm x (by omega) (fun h=>by have:=hbd _ h; omega)).trans (by rw [ab (by omega),gs x (by omega)])
 have g4'':=(hfr 2 (by omega)).trans g2
 obtain ⟨p1,p2⟩:=hrw.one
 have ub:∀ y,cp s2=some y→3 ≤ y∧y < e:=fun y hy=>by
  rcases hb2 y hy with h | h
  ·have:=hbd y h; omega
  ·omega
 (have zz:=aI @s4 (aI @sc (aI @g4'' (aI @p1 @p2))); repeat' (first | apply a_n | refine zO ?_ | refine vY ?_ | refine nvY ?_ | apply mW | refine stY ?_ | fail)) <;> (try clear zz)
 refine ⟨(s2,k + 1),by dsimp only; omega,⟨by dsimp only; omega,by omega,?_,?_,?_,?_,ub⟩,ag0⟩
 ·rw [ab (by omega),hfr 0 (by omega),g0]
 ·rw [ab (by omega),hfr 1 (by omega),g1]
 ·rw [ai]; rfl
 ·dsimp only
  rw [hst]
  refine Row.same (H:=E) hrw fun y hy=>?_
  have:=ub y hy
  rw [ab (by omega)]
end Go.Proofs.YtjgpfclngkcedaaGreat
namespace Go.Proofs.YtjgpfclngkcedaaGreat
open Go Go.Abs
open Nat (reduceEqDiff reduceAdd reduceLeDiff)
theorem eg {c d:CaseV}:c=d ↔ c.inp=d.inp∧c.out=d.out∧c.calm=d.calm:=by
 constructor
 ·rintro rfl; exact ⟨rfl,rfl,rfl⟩
 ·rintro ⟨h1,h2,h3⟩
  obtain ⟨a,b,e⟩:=c
  obtain ⟨a',b',e'⟩:=d
  cases h1; cases h2; cases h3; rfl
theorem dw {a b:TaskV}:a=b ↔ a.n=b.n∧a.ins=b.ins∧a.outs=b.outs∧a.cases=b.cases:=by
 constructor
 ·rintro rfl; exact ⟨rfl,rfl,rfl,rfl⟩
 ·rintro ⟨h1,h2,h3,h4⟩
  obtain ⟨n,i,o,c⟩:=a
  obtain ⟨n',i',o',c'⟩:=b
  cases h1; cases h2; cases h3; cases h4; rfl
def eqF (p:CaseV→CaseV→Bool) (x y:List CaseV):Bool:=decide (x.length=y.length) && (List.range x.length).all fun i=>p (x.getD i default) (y.getD i default)
theorem y3 {x y:List CaseV}:eqF (fun c d=>decide (c=d)) x y=decide (x=y):=by
 rw [Bool.eq_iff_iff,decide_eq_true_iff]
 unfold eqF
 rw [Bool.and_eq_true,decide_eq_true_iff,List.all_eq_true]
 constructor
 ·rintro ⟨h1,h2⟩
  refine List.ext_getElem h1 fun i h3 h4=>?_
  have:=of_decide_eq_true (h2 i (List.mem_range.2 h3))
  simpa [List.getD,h3,h4] using this
 ·rintro rfl
  exact ⟨rfl,fun i _=>decide_eq_true rfl⟩
def ye (t:TaskV):List (List Int):=(fU t.n.toNat).filter fun p=>decide (t=dY t p)
def mt (t:TaskV):List (List Int) × Int:=if a8 t ≠ 0 then ([],a8 t) else (ye t,0)
theorem md {t:TaskV} (h:a8 t=0) {p:List Int} (hp:p ∈ fU t.n.toNat):b0 p=0∧(p.length:Int)=t.n:=by
 have hn:=eY h
 have:=(jr t.n.toNat (by omega) (by omega)).2 p hp
 exact ⟨this.1,by omega⟩
attribute [local irreducible] aB ag aR aO aF aH ay aJ aP aZ Go.Abs.Fn aM Go.Abs.Pure an aC Yl
theorem sG (x y:List CaseV) (p:CaseV→CaseV→Bool) (g:Nat) (caps:List AV) (hd:∀ z ∈ caps,Dat z) (hx:Sh x) (hy:Sh y) (hg:∀ c ∈ x,∀ d ∈ y,Pure Tryz.prog g (.agg [av c.inp,aw c.out,aw c.calm] :: .agg [av d.inp,aw d.out,aw d.calm] :: caps) (.bool (p c d))):Pure Tryz.prog 83 [ba x,ba y,.func g caps] (.bool (eqF p x y)):=by
 refine Pure.of_c2 follows z6 (Nat.le_of_ble_eq_true rfl) ?_
 simp only [b83,cO,cG,cN,cM,cD,cF,cB,au,aD]
 have hx':x.length ≤ 17592186044416:=hx
 have hy':y.length ≤ 17592186044416:=hy
 unfold eqF
 by_cases hlen:x.length=y.length
 rotate_left
 ·have z:decide ((x.length:Int) ≠ y.length)=true:=decide_eq_true (by omega)
  rw [decide_eq_false hlen,Bool.false_and]
  (have zz:=aI @z (aI @ak (aI @ae @ap)); repeat' (first | refine zW ?_ | apply a_n | apply a_r | refine zO ?_ | refine vZ ?_ | refine cTZ ?_ | refine aa rfl ?_ | refine r1Z ?_ | fail)) <;> (try clear zz)
  exact .bool _
 rw [decide_eq_true hlen,Bool.true_and]
 have z:decide ((x.length:Int) ≠ y.length)=false:=decide_eq_false (by omega)
 (have zz:=aI @z (aI @ak (aI @ae @ap)); repeat' (first | refine zW ?_ | apply a_n | refine zO ?_ | refine vZ ?_ | refine cFZ ?_ | fail)) <;> (try clear zz)
 refine aW (X:=Nat) (fun k=>[(0,ba x),(1,ba y),(2,.func g caps),(15,ba x),(16,.int .i64 x.length),(17,.int .i64 k)]) (fun k H nx=>k ≤ x.length∧∀ i,i < k→p (x.getD i default) (y.getD i default)=true) (fun k=>x.length - k) 0 ⟨Nat.zero_le _,fun i h=>absurd h (by omega)⟩ ag0 ?_
 rintro k H nx ⟨hk,hz⟩
 by_cases hk2:k < x.length
 rotate_left
 ·rw [List.all_eq_true.2 (fun i hi=>hz i (by have:=List.mem_range.1 hi; omega))]
  (have zz:=and_self; repeat' (first | refine zW ?_ | apply a_n | apply a_x | refine zO ?_ | refine vY ?_ | (refine zGY ?_ ?_ <;> (intro _hg; try (exfalso; omega))) | refine aa rfl ?_ | refine r1Y ?_ | fail)) <;> (try clear zz)
  exact .bool _
 have ix:=a9 hk2
 have iy:=a9 (l:=y) (k:=k) (by omega)
 have hc:=hg _ (aj hk2) _ (aj (l:=y) (k:=k) (by omega))
 have dx:=lW (x.getD k default)
 have dy:=lW (y.getD k default)
 unfold bk at dx dy
 have hbad:p (x.getD k default) (y.getD k default)=false→(List.range x.length).all (fun i=>p (x.getD i default) (y.getD i default))=false:=fun h=>by
  rw [Bool.eq_false_iff,ne_eq,List.all_eq_true]
  intro h2
  have:=h2 k (List.mem_range.2 hk2)
  rw [h] at this; cases this
 have hnext:p (x.getD k default) (y.getD k default)=true→∀ i,i < k + 1→p (x.getD i default) (y.getD i default)=true:=fun h i hi=>by
  rcases Nat.lt_succ_iff_lt_or_eq.1 hi with h' | rfl
  ·exact hz i h'
  ·exact h
 cases hb:p (x.getD k default) (y.getD k default)
 ·rw [hb] at hc
  rw [hbad hb]
  (have zz:=aI @ak (aI @ae (aI @ap (aI @ix @iy))); repeat' (first | refine zW ?_ | apply a_n | apply a_r | refine zO ?_ | refine vY ?_ | refine cY ?_ (hp:=hc) (hs:=by (first | refine al ?_ rfl | apply ao); (repeat' (first | exact af | apply aE | apply ar | exact dx | exact dy | exact aq hd)); first | done | fail) | refine alY ?_ | refine stY ?_ | refine cTY ?_ | (refine zGY ?_ ?_ <;> (intro _hg; try (exfalso; omega))) | refine aa rfl ?_ | refine r1Y ?_ | fail)) <;> (try clear zz)
  exact .bool _
 ·rw [hb] at hc
  (have zz:=aI @ak (aI @ae (aI @ap (aI @ix @iy))); repeat' (first | refine zW ?_ | apply a_n | refine zO ?_ | refine vY ?_ | refine cY ?_ (hp:=hc) (hs:=by (first | refine al ?_ rfl | apply ao); (repeat' (first | exact af | apply aE | apply ar | exact dx | exact dy | exact aq hd)); first | done | fail) | refine alY ?_ | refine stY ?_ | refine cFY ?_ | (refine zGY ?_ ?_ <;> (intro _hg; try (exfalso; omega))) | fail)) <;> (try clear zz)
  exact ⟨k + 1,by omega,⟨by omega,hnext hb⟩,ag0⟩
theorem rO (x y:List (List Int)) (hx:Sh x) (hy:Sh y) (hxs:∀ v ∈ x,Sh v) (hys:∀ v ∈ y,Sh v):Pure Tryz.prog 120 [aw x,aw y] (.bool (decide (x=y))):=by
 refine Pure.of_c2 follows xP (Nat.le_of_ble_eq_true rfl) ?_
 simp only [zf,cO,cG,cN,cM,cD,cF,cB,au,aD]
 have hE:=sC x y hx hy hxs hys
 (have zz:=and_self; repeat' (first | refine zW ?_ | apply a_n | refine zO ?_ | refine vZ ?_ | refine cZ ?_ (hp:=hE) (hs:=by (first | refine al ?_ rfl | apply ao); (repeat' (first | exact af | apply aE | apply ar | exact Dat.func DatL.nil)); first | done | fail) | refine aa rfl ?_ | refine r1Z ?_ | fail)) <;> (try clear zz)
 exact .bool _
theorem vT (c d:CaseV) (hc:ShC c) (hd:ShC d):Pure Tryz.prog 121 [.agg [av c.inp,aw c.out,aw c.calm],.agg [av d.inp,aw d.out,aw d.calm],.iptr [.func 120 []] 0] (.bool (decide (c=d))):=by
 refine Pure.of_c2 follows xO (Nat.le_of_ble_eq_true rfl) ?_
 simp only [yK,cO,cG,cN,cM,cD,cF,cB,au,aD]
 have h1:=jK c.inp d.inp hc.1 hd.1
 have h2:=rO c.out d.out hc.2.1 hd.2.1 hc.2.2.1 hd.2.2.1
 have h3:=rO c.calm d.calm hc.2.2.2.1 hd.2.2.2.1 hc.2.2.2.2 hd.2.2.2.2
 by_cases e1:c.inp=d.inp
 rotate_left
 ·rw [decide_eq_false e1] at h1
  rw [decide_eq_false (p:=c=d) (fun h=>e1 (eg.1 h).1)]
  (have zz:=@Bool.false_eq_true; repeat' (first | refine zW ?_ | apply a_n | refine zO ?_ | refine vZ ?_ | refine cZ ?_ (hp:=h1) | refine bxZ ?_ | refine gFZ ?_ | refine aa rfl ?_ | refine r1Z ?_ | fail)) <;> (try clear zz)
  exact .bool _
 rw [decide_eq_true e1] at h1
 by_cases e2:c.out=d.out
 rotate_left
 ·rw [decide_eq_false e2] at h2
  rw [decide_eq_false (p:=c=d) (fun h=>e2 (eg.1 h).2.1)]
  (have zz:=@Bool.false_eq_true; repeat' (first | refine zW ?_ | apply a_n | refine zO ?_ | refine vZ ?_ | refine cZ ?_ (hp:=by first | exact h1 | exact h2) | refine bxZ ?_ | refine gTZ ?_ | refine gFZ ?_ | refine aa rfl ?_ | refine r1Z ?_ | fail)) <;> (try clear zz)
  exact .bool _
 rw [decide_eq_true e2] at h2
 by_cases e3:c.calm=d.calm
 ·rw [decide_eq_true e3] at h3
  rw [decide_eq_true (p:=c=d) (eg.2 ⟨e1,e2,e3⟩)]
  (have zz:=@Bool.false_eq_true; repeat' (first | refine zW ?_ | apply a_n | refine zO ?_ | refine vZ ?_ | refine cZ ?_ (hp:=by first | exact h1 | exact h2 | exact h3) | refine bxZ ?_ | refine gTZ ?_ | refine aa rfl ?_ | refine r1Z ?_ | fail)) <;> (try clear zz)
  exact .bool _
 ·rw [decide_eq_false e3] at h3
  rw [decide_eq_false (p:=c=d) (fun h=>e3 (eg.1 h).2.2)]
  (have zz:=@Bool.false_eq_true; repeat' (first | refine zW ?_ | apply a_n | refine zO ?_ | refine vZ ?_ | refine cZ ?_ (hp:=by first | exact h1 | exact h2 | exact h3) | refine bxZ ?_ | refine gTZ ?_ | refine aa rfl ?_ | refine r1Z ?_ | fail)) <;> (try clear zz)
  exact .bool _
theorem wC (a b:TaskV) (ha:∀ c ∈ a.cases,ShC c) (ha2:Sh a.cases) (hb:∀ c ∈ b.cases,ShC c) (hb2:Sh b.cases):Pure Tryz.prog 79 [bt a,bt b] (.bool (decide (a=b))):=by
 refine Pure.of_c2 follows zt (Nat.le_of_ble_eq_true rfl) ?_
 simp only [b79,cO,cG,cN,cM,cD,cF,cB,au,aD]
 have hE:=sG a.cases b.cases (fun c d=>decide (c=d)) 121 [.iptr [.func 120 []] 0] (DatL.cons (Dat.iptr (DatL.cons (Dat.func DatL.nil) DatL.nil)) DatL.nil) ha2 hb2 (fun c hc d hd=>vT c d (ha c hc) (hb d hd))
 rw [y3] at hE
 unfold bt
 by_cases e1:a.n=b.n
 rotate_left
 ·have z:decide (a.n=b.n)=false:=decide_eq_false e1
  rw [decide_eq_false (p:=a=b) (fun h=>e1 (dw.1 h).1)]
  (have zz:=aI @z (aI @ak @ae); repeat' (first | refine zW ?_ | apply a_n | refine zO ?_ | refine vZ ?_ | refine alZ ?_ | refine bxZ ?_ | refine stZ ?_ | refine gFZ ?_ | refine aa rfl ?_ | refine r1Z ?_ | fail)) <;> (try clear zz)
  exact .bool _
 have z1:decide (a.n=b.n)=true:=decide_eq_true e1
 by_cases e2:a.ins=b.ins
 rotate_left
 ·have z:decide (a.ins=b.ins)=false:=decide_eq_false e2
  rw [decide_eq_false (p:=a=b) (fun h=>e2 (dw.1 h).2.1)]
  (have zz:=aI @z1 (aI @z (aI @ak @ae)); repeat' (first | refine zW ?_ | apply a_n | refine zO ?_ | refine vZ ?_ | refine alZ ?_ | refine bxZ ?_ | refine stZ ?_ | refine gTZ ?_ | refine gFZ ?_ | refine aa rfl ?_ | refine r1Z ?_ | fail)) <;> (try clear zz)
  exact .bool _
 have z2:decide (a.ins=b.ins)=true:=decide_eq_true e2
 by_cases e3:a.outs=b.outs
 rotate_left
 ·have z:decide (a.outs=b.outs)=false:=decide_eq_false e3
  rw [decide_eq_false (p:=a=b) (fun h=>e3 (dw.1 h).2.2.1)]
  (have zz:=aI @z1 (aI @z2 (aI @z (aI @ak @ae))); repeat' (first | refine zW ?_ | apply a_n | refine zO ?_ | refine vZ ?_ | refine alZ ?_ | refine bxZ ?_ | refine stZ ?_ | refine gTZ ?_ | refine gFZ ?_ | refine aa rfl ?_ | refine r1Z ?_ | fail)) <;> (try clear zz)
  exact .bool _
 have z3:decide (a.outs=b.outs)=true:=decide_eq_true e3
 rw [show decide (a=b)=decide (a.cases=b.cases) from decide_eq_decide.2 ⟨fun h=>(dw.1 h).2.2.2,fun h=>dw.2 ⟨e1,e2,e3,h⟩⟩]
 (have zz:=aI @z1 (aI @z2 (aI @z3 (aI @ak @ae))); repeat' (first | refine zW ?_ | apply a_n | refine zO ?_ | refine vZ ?_ | refine alZ ?_ | refine bxZ ?_ | refine stZ ?_ | refine gTZ ?_ | fail)) <;> (try clear zz)
 refine bU ev0 ev0 hE (al (by (repeat' (first | exact af | exact Dat.snap Dat.int | exact Dat.snap Dat.bool | exact Dat.snap Dat.str | exact Dat.snap Dat.esl | exact Dat.snap Dat.nilf | exact Dat.snap (bf _) | exact Dat.snap (a7 _) | exact fL _ _ | apply ax | apply dg | apply dF | (apply dr; (focus ((try simp only [bo,ZA,reduceEqDiff,↓reduceIte,reduceAdd,reduceLeDiff]); with_reducible rfl)); (focus rfl))))) rfl) ?_
 (have zz:=and_self; repeat' (first | apply a_n | refine zO ?_ | refine vZ ?_ | refine aa rfl ?_ | refine r1Z ?_ | fail)) <;> (try clear zz)
 exact .bool _
theorem yT (a b:TaskV) (ha:∀ c ∈ a.cases,ShC c) (ha2:Sh a.cases) (hb:∀ c ∈ b.cases,ShC c) (hb2:Sh b.cases):Pure Tryz.prog 20 [bt a,bt b] (.bool (decide (a=b))):=by
 refine Pure.of_c2 follows yP (Nat.le_of_ble_eq_true rfl) ?_
 simp only [b20,cO,cG,cN,cM,cD,cF,cB,au,aD]
 have ha2':a.cases.length ≤ 17592186044416:=ha2
 have hb2':b.cases.length ≤ 17592186044416:=hb2
 unfold bt
 by_cases e1:a.n=b.n
 rotate_left
 ·have z:decide (a.n ≠ b.n)=true:=decide_eq_true e1
  rw [decide_eq_false (p:=a=b) (fun h=>e1 (dw.1 h).1)]
  (have zz:=aI @z (aI @ak (aI @ae @ap)); repeat' (first | refine zW ?_ | apply a_n | apply a_r | refine zO ?_ | refine vZ ?_ | refine bxZ ?_ | refine gFZ ?_ | refine cTZ ?_ | refine aa rfl ?_ | refine r1Z ?_ | fail)) <;> (try clear zz)
  exact .bool _
 have z1:decide (a.n ≠ b.n)=false:=decide_eq_false (fun h=>h e1)
 by_cases e2:a.ins=b.ins
 rotate_left
 ·have z:decide (a.ins ≠ b.ins)=true:=decide_eq_true e2
  rw [decide_eq_false (p:=a=b) (fun h=>e2 (dw.1 h).2.1)]
  (have zz:=aI @z1 (aI @z (aI @ak (aI @ae @ap))); repeat' (first | refine zW ?_ | apply a_n | apply a_r | refine zO ?_ | refine vZ ?_ | refine bxZ ?_ | refine gTZ ?_ | refine gFZ ?_ | refine cTZ ?_ | refine aa rfl ?_ | refine r1Z ?_ | fail)) <;> (try clear zz)
  exact .bool _
 have z2:decide (a.ins ≠ b.ins)=false:=decide_eq_false (fun h=>h e2)
 by_cases e3:a.outs=b.outs
 rotate_left
 ·have z:decide (a.outs ≠ b.outs)=true:=decide_eq_true e3
  rw [decide_eq_false (p:=a=b) (fun h=>e3 (dw.1 h).2.2.1)]
  (have zz:=aI @z1 (aI @z2 (aI @z (aI @ak (aI @ae @ap)))); repeat' (first | refine zW ?_ | apply a_n | apply a_r | refine zO ?_ | refine vZ ?_ | refine bxZ ?_ | refine gTZ ?_ | refine gFZ ?_ | refine cTZ ?_ | refine aa rfl ?_ | refine r1Z ?_ | fail)) <;> (try clear zz)
  exact .bool _
 have z3:decide (a.outs ≠ b.outs)=false:=decide_eq_false (fun h=>h e3)
 by_cases e4:a.cases.length=b.cases.length
 rotate_left
 ·have z:decide ((a.cases.length:Int) ≠ b.cases.length)=true:=decide_eq_true (by omega)
  rw [decide_eq_false (p:=a=b) (fun h=>e4 (by rw [h]))]
  (have zz:=aI @z1 (aI @z2 (aI @z3 (aI @z (aI @ak (aI @ae @ap))))); repeat' (first | refine zW ?_ | apply a_n | apply a_r | refine zO ?_ | refine vZ ?_ | refine bxZ ?_ | refine gTZ ?_ | refine cTZ ?_ | refine aa rfl ?_ | refine r1Z ?_ | fail)) <;> (try clear zz)
  exact .bool _
 have z4:decide ((a.cases.length:Int) ≠ b.cases.length)=false:=decide_eq_false (by omega)
 rw [show decide (a=b)=decide (a.cases=b.cases) from decide_eq_decide.2 ⟨fun h=>(dw.1 h).2.2.2,fun h=>dw.2 ⟨e1,e2,e3,h⟩⟩]
 (have zz:=aI @z1 (aI @z2 (aI @z3 (aI @z4 (aI @ak (aI @ae @ap))))); repeat' (first | refine zW ?_ | apply a_n | refine zO ?_ | refine vZ ?_ | refine bxZ ?_ | refine gTZ ?_ | refine cFZ ?_ | fail)) <;> (try clear zz)
 refine aW (X:=Nat) (fun k=>[(2,.ptr 0 4 0),(3,.ptr 1 4 0),(5,.int .i64 k)]) (fun k H nx=>k ≤ a.cases.length∧2 ≤ nx∧H 0=some [.int .i64 a.n,.int .i64 a.ins,.int .i64 a.outs,ba a.cases]∧H 1=some [.int .i64 b.n,.int .i64 b.ins,.int .i64 b.outs,ba b.cases]∧∀ i,i < k→a.cases.getD i default=b.cases.getD i default) (fun k=>a.cases.length - k) 0 ⟨Nat.zero_le _,Nat.le_refl _,rfl,rfl,fun i h=>absurd h (by omega)⟩ (by simp (disch:=omega) only [agr,ZG,reduceEqDiff,↓reduceIte,List.length_cons,List.length_nil,reduceAdd,Nat.zero_add]) ?_
 rintro k H nx ⟨hk,hn,g0,g1,hz⟩
 by_cases hj:k < a.cases.length
 rotate_left
 ·rw [decide_eq_true (p:=a.cases=b.cases) (List.ext_getElem e4 fun i h3 h4=>by
    have:=hz i (by omega)
    simpa [List.getD,h3,h4] using this)]
  (have zz:=aI @g0 (aI @g1 (aI @ak (aI @ae @ap))); repeat' (first | refine zW ?_ | apply a_n | apply a_x | refine zO ?_ | refine vY ?_ | (refine zGY ?_ ?_ <;> (intro _hg; try (exfalso; omega))) | refine aa rfl ?_ | refine r1Y ?_ | fail)) <;> (try clear zz)
  exact .bool _
 have ix:=a9 hj
 have iy:=a9 (l:=b.cases) (k:=k) (by omega)
 obtain ⟨s1,s2,s3,s4,s5⟩:=ha _ (aj hj)
 obtain ⟨u1,u2,u3,u4,u5⟩:=hb _ (aj (l:=b.cases) (k:=k) (by omega))
 have hbad:a.cases.getD k default ≠ b.cases.getD k default→decide (a.cases=b.cases)=false:=fun h=>decide_eq_false fun e=>h (by rw [e])
 have hnext:a.cases.getD k default=b.cases.getD k default→∀ i,i < k + 1→a.cases.getD i default=b.cases.getD i default:=fun h i hi=>by
  rcases Nat.lt_succ_iff_lt_or_eq.1 hi with h' | rfl
  ·exact hz i h'
  ·exact h
 generalize a.cases.getD k default=c at *
 generalize b.cases.getD k default=d at *
 have h1:=gd c.inp d.inp s1 u1
 have h2:=tL c.out d.out s2 u2 s3 u3
 have h3:=tL c.calm d.calm s4 u4 s5 u5
 by_cases e1:c.inp=d.inp
 rotate_left
 ·have z:decide (aQ c.inp d.inp ≠ 0)=true:=decide_eq_true (o8 e1)
  rw [hbad (fun h=>e1 (eg.1 h).1)]
  (have zz:=aI @g0 (aI @g1 (aI @ak (aI @ae (aI @ap (aI @ix (aI @iy (aI @z @Bool.false_eq_true))))))); repeat' (first | refine zW ?_ | apply a_n | apply a_r | refine zO ?_ | refine vY ?_ | refine cY ?_ (hp:=h1) | refine alY ?_ | refine stY ?_ | refine gFY ?_ | refine cTY ?_ | (refine zGY ?_ ?_ <;> (intro _hg; try (exfalso; omega))) | refine aa rfl ?_ | refine r1Y ?_ | fail)) <;> (try clear zz)
  exact .bool _
 rw [nk.2 e1] at h1
 by_cases e2:c.out=d.out
 rotate_left
 ·rw [decide_eq_false e2] at h2
  rw [hbad (fun h=>e2 (eg.1 h).2.1)]
  (have zz:=aI @g0 (aI @g1 (aI @ak (aI @ae (aI @ap (aI @ix (aI @iy @Bool.false_eq_true)))))); repeat' (first | refine zW ?_ | apply a_n | apply a_r | refine zO ?_ | refine vY ?_ | refine cY ?_ (hp:=by first | exact h1 | exact h2) | refine alY ?_ | refine stY ?_ | refine gTY ?_ | refine gFY ?_ | refine cTY ?_ | (refine zGY ?_ ?_ <;> (intro _hg; try (exfalso; omega))) | refine aa rfl ?_ | refine r1Y ?_ | fail)) <;> (try clear zz)
  exact .bool _
 rw [decide_eq_true e2] at h2
 by_cases e3:c.calm=d.calm
 ·rw [decide_eq_true e3] at h3
  (have zz:=aI @g0 (aI @g1 (aI @ak (aI @ae (aI @ap (aI @ix (aI @iy @Bool.false_eq_true)))))); repeat' (first | refine zW ?_ | apply a_n | refine zO ?_ | refine vY ?_ | refine cY ?_ (hp:=by first | exact h1 | exact h2 | exact h3) | refine alY ?_ | refine stY ?_ | refine gTY ?_ | refine cFY ?_ | (refine zGY ?_ ?_ <;> (intro _hg; try (exfalso; omega))) | fail)) <;> (try clear zz)
  refine ⟨k + 1,by omega,⟨by omega,by omega,?_,?_,hnext (eg.2 ⟨e1,e2,e3⟩)⟩,ag0⟩
  ·rw [ab (by omega),ab (by omega),ab (by omega),ab (by omega),g0]
  ·rw [ab (by omega),ab (by omega),ab (by omega),ab (by omega),g1]
 ·rw [decide_eq_false e3] at h3
  rw [hbad (fun h=>e3 (eg.1 h).2.2)]
  (have zz:=aI @g0 (aI @g1 (aI @ak (aI @ae (aI @ap (aI @ix (aI @iy @Bool.false_eq_true)))))); repeat' (first | refine zW ?_ | apply a_n | apply a_r | refine zO ?_ | refine vY ?_ | refine cY ?_ (hp:=by first | exact h1 | exact h2 | exact h3) | refine alY ?_ | refine stY ?_ | refine gTY ?_ | refine cTY ?_ | (refine zGY ?_ ?_ <;> (intro _hg; try (exfalso; omega))) | refine aa rfl ?_ | refine r1Y ?_ | fail)) <;> (try clear zz)
  exact .bool _
end Go.Proofs.YtjgpfclngkcedaaGreat
namespace Go.Proofs.YtjgpfclngkcedaaGreat
open Go Go.Abs
open Nat (reduceEqDiff reduceAdd reduceLeDiff)
theorem oX {t:TaskV} {p:List Int} (h:a8 t=0) (fit:Fit t) (hp:b0 p=0) (hn:(p.length:Int)=t.n):(∀ c ∈ (dY t p).cases,ShC c)∧Sh (dY t p).cases:=by
 have:=vL fit.sh fit.sh2 (eM hp).2.1 (rF h hn)
 exact ⟨this.2,this.1⟩
attribute [local irreducible] aB ag aR aO aF aH ay aJ aP aZ Go.Abs.Fn aM Go.Abs.Pure an aC Yl
theorem yE (t:TaskV) (p:List Int) (fit:Fit t) (h:a8 t=0) (hp:b0 p=0) (hn:(p.length:Int)=t.n):Pure Tryz.prog 78 [av p,.iptr [.int .i64 t.n,.int .i64 t.ins,.int .i64 t.outs,ba t.cases] 0] (.bool (decide (t=dY t p))):=by
 refine Pure.of_c2 follows zZ (Nat.le_of_ble_eq_true rfl) ?_
 simp only [b78,cO,cG,cN,cM,cD,cF,cB,au,aD]
 have hpl:p.length ≤ 5:=(eM hp).2.1
 have hc:=th t p fit.sh fit.sh2 fit.q (show p.length ≤ _ by omega)
 rw [qA h hp hn] at hc
 obtain ⟨r1,r2⟩:=oX h fit hp hn
 have hs:=wC t (dY t p) fit.sh fit.sh2 r1 r2
 have d1:=bW t
 have d2:=bW (dY t p)
 generalize dY t p=R at *
 unfold bt at *
 dsimp only at hc
 (have zz:=aI @ak @ae; repeat' (first | refine zW ?_ | apply a_n | refine zO ?_ | refine vZ ?_ | refine cZ ?_ (hp:=by first | exact hc | exact hs) | refine alZ ?_ | refine stZ ?_ | refine gTZ ?_ | (refine zGZ ?_ ?_ <;> (intro _hg; try (exfalso; omega))) | refine aa rfl ?_ | refine r1Z ?_ | fail)) <;> (try clear zz)
 exact .bool _
theorem oS (t:TaskV) (fit:Fit t):Pure Tryz.prog 25 [bt t] (.tup [aw (mt t).1,.int .i64 (mt t).2]):=by
 refine Pure.of_c2 follows Aj (Nat.le_of_ble_eq_true rfl) ?_
 simp only [b25,cO,cG,cN,cM,cD,cF,cB,au,aD]
 have hc:=oB t fit.sh fit.sh2
 have d1:=bW t
 unfold mt
 generalize hAA:[.int .i64 t.n,.int .i64 t.ins,.int .i64 t.outs,ba t.cases]=A
 have hTA:bt t=.agg A:=by rw [← hAA]; rfl
 rw [hTA] at hc d1 ⊢
 by_cases he:a8 t=0
 rotate_left
 ·rw [if_pos he]
  generalize a8 t=C at *
  subst hAA
  (have zz:=aI @ak @ae; repeat' (first | refine zW ?_ | apply a_n | apply a_r | refine zO ?_ | refine vZ ?_ | refine cZ ?_ (hp:=hc) | refine bxZ ?_ | (refine zGZ ?_ ?_ <;> (intro _hg; try (exfalso; omega))) | refine aa rfl ?_ | refine r2Z ?_ | fail)) <;> (try clear zz)
  exact rI _
 rw [if_neg (fun h=>h he)]
 rw [he] at hc
 have nn:=eY he
 have hall:=zV t.n.toNat (by omega) (by omega)
 rw [show ((t.n.toNat:Nat):Int)=t.n by omega] at hall
 have hpo:=jr t.n.toNat (by omega) (by omega)
 refine aA (fun T H nx=>T 1=.ptr 0 4 0∧H=ah aL 0 A∧nx=1) ?_ ?_
 ·subst hAA
  (have zz:=aI @ak @ae; repeat' (first | apply a_n | refine zO ?_ | refine vZ ?_ | refine bxZ ?_ | fail)) <;> (try clear zz)
  exact ⟨rfl,rfl,rfl⟩
 rintro T H _ ⟨t1,rfl,rfl⟩
 refine aA (fun T H nx=>T 1=.ptr 0 4 0∧H=ah aL 0 A∧nx=1) ?_ ?_
 ·subst hAA
  (have zz:=aI @t1 (aI @ak @ae); repeat' (first | refine zW ?_ | apply a_n | refine zO ?_ | refine vZ ?_ | refine cZ ?_ (hp:=hc) | (refine zGZ ?_ ?_ <;> (intro _hg; try (exfalso; omega))) | fail)) <;> (try clear zz)
  exact ⟨(have zz:=@t1; evZ),rfl,rfl⟩
 clear t1
 rintro T H _ ⟨t1,rfl,rfl⟩
 refine aA (fun T H nx=>T 1=.ptr 0 4 0∧T 5=aw (fU t.n.toNat)∧T 6=.int .i64 0∧H=ah aL 0 A∧nx=1) ?_ ?_
 ·subst hAA
  (have zz:=aI @t1 (aI @ak @ae); repeat' (first | apply a_n | refine zO ?_ | refine vZ ?_ | refine cZ ?_ (hp:=hall) | fail)) <;> (try clear zz)
  exact ⟨(have zz:=@t1; evZ),ev0,ev0,rfl,rfl⟩
 clear t1
 rintro T H _ ⟨t1,t5,t6,rfl,rfl⟩
 refine aA (fun T H nx=>T 1=.ptr 0 4 0∧T 5=aw (fU t.n.toNat)∧H=ah aL 0 A∧nx=1) ?_ ?_
 ·(have zz:=aI @t1 (aI @t5 @t6); repeat' (first | refine zW ?_ | apply a_n | refine zO ?_ | refine vZ ?_ | (refine zGZ ?_ ?_ <;> (intro _hg; try (exfalso; omega))) | fail)) <;> (try clear zz)
  exact ⟨(have zz:=@t1; evZ),(have zz:=@t5; evZ),rfl,rfl⟩
 clear t1 t5 t6
 rintro T H _ ⟨t1,t5,rfl,rfl⟩
 have dA:∀ x ∈ A,Dat x:=by
  rw [← hAA]
  exact DatL.cons .int (DatL.cons .int (DatL.cons .int (DatL.cons (fL _) DatL.nil)))
 have hk:=vK (fU t.n.toNat) (fun p=>decide (t=dY t p)) 78 [.iptr A 0] (DatL.cons (Dat.iptr dA) DatL.nil) (fun p hp=>by
  subst hAA
  obtain ⟨p1,p2⟩:=md he hp
  exact yE t p fit he p1 p2) (by omega)
 have hAl:A.length=4:=by subst hAA; rfl
 refine bG ?_
 refine fu (only 0 A) (b5 (ah aL 0 A) 0) [(1,.iptr A 0),(5,aw (fU t.n.toNat))] (Fz.one ai) ⟨.inr (by rw [t1]; exact dr lh hAl (aq dA)),.inl t5,trivial⟩ ?_
 (have zz:=and_self; repeat' (first | apply a_n | refine zO ?_ | refine vY ?_ | fail)) <;> (try clear zz)
 refine bU (have zz:=and_self; evY) (have zz:=and_self; evY) hk (ao (ax (a7 _ _) (ax (dg (ax (Dat.iptr dA _) af)) af))) ?_
 (have zz:=and_self; repeat' (first | apply a_n | refine zO ?_ | refine vY ?_ | refine aa rfl ?_ | refine r2Y ?_ | fail)) <;> (try clear zz)
 exact er (ax (a7 _ _) (ax (.int _ _) af))
theorem qt (t:TaskV) (fit:Fit t):Pure Tryz.prog 26 [bt t] (.tup [aw (mt t).1,.int .i64 (mt t).2]):=by
 refine Pure.of_c2 follows Bh (Nat.le_of_ble_eq_true rfl) ?_
 simp only [b26,cO,cG,cN,cM,cD,cF,cB,au,aD]
 have hc:=uF t fit.sh fit.sh2
 have d1:=bW t
 unfold mt
 by_cases he:a8 t=0
 rotate_left
 ·rw [if_pos he]
  generalize a8 t=C at *
  unfold bt at *
  (have zz:=aI @ak @ae; repeat' (first | refine zW ?_ | apply a_n | apply a_r | refine zO ?_ | refine vZ ?_ | refine cZ ?_ (hp:=hc) | refine bxZ ?_ | (refine zGZ ?_ ?_ <;> (intro _hg; try (exfalso; omega))) | refine aa rfl ?_ | refine r2Z ?_ | fail)) <;> (try clear zz)
  exact rI _
 rw [if_neg (fun h=>h he)]
 rw [he] at hc
 have nn:=eY he
 have hall:=wD t.n.toNat (by omega)
 rw [show ((t.n.toNat:Nat):Int)=t.n by omega] at hall
 have hpo:=jr t.n.toNat (by omega) (by omega)
 have hren:=fun p (hp:b0 p=0) (hn:(p.length:Int)=t.n)=>uY t p hp (rF he hn) fit.len fit.q
 have hsame:=fun p (hp:b0 p=0) (hn:(p.length:Int)=t.n)=>yT (dY t p) t (oX he fit hp hn).1 (oX he fit hp hn).2 fit.sh fit.sh2
 unfold ye
 have hpt:=fun p hp=>md he (p:=p) hp
 generalize fU t.n.toNat=L at *
 unfold bt at hc d1 hren hsame
 rw [show bt t=.agg [.int .i64 t.n,.int .i64 t.ins,.int .i64 t.outs,ba t.cases] from rfl]
 (have zz:=aI @ak @ae; repeat' (first | refine zW ?_ | apply a_n | refine zO ?_ | refine vY ?_ | refine cY ?_ (hp:=by first | exact hc | exact hall) | refine bxY ?_ | (refine zGY ?_ ?_ <;> (intro _hg; try (exfalso; omega))) | fail)) <;> (try clear zz)
 refine aW (X:=AV × Nat) (fun x=>[(1,.ptr 0 4 0),(5,x.1),(6,aw L),(7,.int .i64 x.2)]) (fun x H nx=>x.2 ≤ L.length∧1 ≤ nx∧H 0=some [.int .i64 t.n,.int .i64 t.ins,.int .i64 t.outs,ba t.cases]∧Row H 1 x.1 (((L.take x.2).filter fun p=>decide (t=dY t p)).map av)∧∀ b,cp x.1=some b→1 ≤ b∧b < nx) (fun x=>L.length - x.2) (.esl,0) ⟨Nat.zero_le _,Nat.le_refl _,rfl,Row.nil,fun b hb=>(by cases hb)⟩ (by simp (disch:=omega) only [agr,ZG,reduceEqDiff,↓reduceIte,List.length_cons,List.length_nil,reduceAdd,Nat.zero_add]) ?_
 rintro ⟨s,j⟩ H nx ⟨h1,h2,g0,h3,h4⟩
 dsimp only at h1 h3 h4 ⊢
 by_cases hj:j < L.length
 rotate_left
 ·(have zz:=and_self; repeat' (first | refine zW ?_ | apply a_n | apply a_x | refine zO ?_ | refine vY ?_ | (refine zGY ?_ ?_ <;> (intro _hg; try (exfalso; omega))) | refine aa rfl ?_ | refine r2Y ?_ | fail)) <;> (try clear zz)
  rw [List.take_of_length_le (by omega)] at h3
  exact er (ax h3.snapV (ax (.int _ _) af))
 have hw:=aj hj
 obtain ⟨p1,p2⟩:=hpt _ hw
 have r1:=hren _ p1 p2
 have r2:=hsame _ p1 p2
 have hst:(L.take (j + 1)).filter (fun p=>decide (t=dY t p))=(L.take j).filter (fun p=>decide (t=dY t p)) ++ (if decide (t=dY t (L.getD j default)) then [L.getD j default] else []):=by
  rw [bx hj,List.filter_append,ln]
 have hlen:((L.take j).filter fun p=>decide (t=dY t p)).length ≤ L.length:=Nat.le_trans (List.length_filter_le _ _) (by rw [List.length_take]; omega)
 have dR:=bW (dY t (L.getD j default))
 have hcomm:decide (dY t (L.getD j default)=t)=decide (t=dY t (L.getD j default)):=decide_eq_decide.2 ⟨fun h=>h.symm,fun h=>h.symm⟩
 rw [hcomm] at r2
 unfold bt at dR
 generalize (L.take j).filter (fun p=>decide (t=dY t p))=Q at *
 generalize dY t (L.getD j default)=R at *
 cases hp:decide (t=R)
 ·rw [hp] at r2 hst
  (have zz:=@g0; repeat' (first | refine zW ?_ | refine zM ?_ | apply a_n | refine zO ?_ | refine vY ?_ | refine cY ?_ (hp:=by first | exact r1 | exact r2) | refine cFY ?_ | (refine zGY ?_ ?_ <;> (intro _hg; try (exfalso; omega))) | fail)) <;> (try clear zz)
  exact ⟨(s,j + 1),by dsimp only; omega,⟨by dsimp only; omega,h2,g0,by dsimp only; rw [hst,if_neg (by decide),List.append_nil]; exact h3,h4⟩,ag0⟩
 ·rw [hp] at r2 hst
  (have zz:=@g0; repeat' (first | refine zW ?_ | refine zM ?_ | apply a_n | refine zO ?_ | refine vY ?_ | refine cY ?_ (hp:=by first | exact r1 | exact r2) | refine blY ?_ | refine cTY ?_ | (refine zGY ?_ ?_ <;> (intro _hg; try (exfalso; omega))) | fail)) <;> (try clear zz)
  refine fl rfl ev0 (h3.same fun b hb=>?_) ev0 jA rfl rfl Nat.one_pos (by simp; omega) (by simp; omega) ?_
  ·have:=h4 b hb
   rw [ab (by omega)]
  rintro s2 E e hrow hle1 hle2 hsame2 hb2
  (have zz:=and_self; repeat' (first | apply a_n | refine zO ?_ | refine vY ?_ | fail)) <;> (try clear zz)
  refine ⟨(s2,j + 1),by dsimp only; omega,⟨by dsimp only; omega,by omega,?_,?_,fun b hb=>?_⟩,ag0⟩
  ·rw [hsame2 0 (by omega) (fun h=>by have:=h4 0 h; omega),ab (by omega),g0]
  ·dsimp only
   rw [hst,if_pos rfl,List.map_append]
   exact hrow
  ·rcases hb2 b hb with h | h
   ·have:=h4 b h; omega
   ·omega
end Go.Proofs.YtjgpfclngkcedaaGreat
namespace Go.Proofs.YtjgpfclngkcedaaGreat
open Go Go.Abs
open Nat (reduceEqDiff reduceAdd reduceLeDiff)
section
attribute [local irreducible] aB ag aR aO aF aH ay aJ aP aZ Go.Abs.Fn aM Go.Abs.Pure an aC Yl
theorem qE (H:Hp) (nx:Nat):Abs.Fn Tryz.prog 42 [.esl] H nx fun r H' nx'=>(r=.esl ∨ r=.msl nx 0 1 0 0)∧(H'=H∧nx'=nx ∨ H'=ah H nx []∧nx'=nx + 1):=by
 refine Abs.Fn.of_c2 follows uZ (Nat.le_of_ble_eq_true rfl) ?_
 simp only [b42,cO,cG,cN,cM,cD,cF,cB,au,aD]
 (have zz:=and_self; repeat' (first | refine zW ?_ | apply a_n | refine zO ?_ | refine vZ ?_ | fail)) <;> (try clear zz)
 refine jX (k:=0) (by ((try simp only [bo,ZA,reduceEqDiff,↓reduceIte,reduceAdd,reduceLeDiff]); (try with_reducible rfl)); rfl) (fun h=>by omega) (fun h=>?_) (fun h=>?_)
 ((all_goals (try have zz:=and_self)); (repeat' (first | refine zW ?_ | apply a_n | apply a_r | refine zO ?_ | refine vZ ?_ | refine b0Z ?_ | refine a0Z ?_ | refine cTZ ?_ | refine cFZ ?_ | refine aa rfl ?_ | refine r1Z ?_ | fail)); (all_goals (try clear zz)))
 all_goals first | exact ⟨.inl rfl,.inl ⟨rfl,rfl⟩⟩ | exact ⟨.inr rfl,.inr ⟨rfl,rfl⟩⟩
theorem rh (H:Hp) (nx:Nat):Abs.Fn Tryz.prog 106 [.esl] H nx fun r H' nx'=>(r=.esl ∨ r=.msl nx 0 1 0 0)∧(H'=H∧nx'=nx ∨ H'=ah H nx []∧nx'=nx + 1):=by
 refine Abs.Fn.of_c2 follows ur (Nat.le_of_ble_eq_true rfl) ?_
 simp only [vG,cO,cG,cN,cM,cD,cF,cB,au,aD]
 (have zz:=and_self; repeat' (first | refine zW ?_ | apply a_n | refine zO ?_ | refine vZ ?_ | fail)) <;> (try clear zz)
 refine jX (k:=0) (by ((try simp only [bo,ZA,reduceEqDiff,↓reduceIte,reduceAdd,reduceLeDiff]); (try with_reducible rfl)); rfl) (fun h=>by omega) (fun h=>?_) (fun h=>?_)
 ((all_goals (try have zz:=and_self)); (repeat' (first | refine zW ?_ | apply a_n | apply a_r | refine zO ?_ | refine vZ ?_ | refine b0Z ?_ | refine a0Z ?_ | refine cTZ ?_ | refine cFZ ?_ | refine aa rfl ?_ | refine r1Z ?_ | fail)); (all_goals (try clear zz)))
 all_goals first | exact ⟨.inl rfl,.inl ⟨rfl,rfl⟩⟩ | exact ⟨.inr rfl,.inr ⟨rfl,rfl⟩⟩
end
def ctC:FuncId→List AV→Nat→Option AV:=fun g args nx=>match Nat.beq g 42 || Nat.beq g 106,args with
 | true,[.esl]=>some (.msl nx 0 1 0 0)
 | _,_=>none
theorem xx {g:Nat} {args:List AV} {H:Hp} {nx:Nat} {R:AV→Hp→Nat→Prop} (h:Abs.Fn Tryz.prog g args H nx fun r' H' nx'=>(r'=.esl ∨ r'=.msl nx 0 1 0 0)∧(H'=H∧nx'=nx ∨ H'=ah H nx []∧nx'=nx + 1)) (hR:R (.msl nx 0 1 0 0) (ah H nx []) (nx + 1)):Abs.Fn Tryz.prog g args H nx R :=
 ⟨h.1,fun E w vs h1 h2 h3 h4=>(h.2 E w vs h1 h2 h3 h4).mono fun e w' ⟨v,E',r',H',nx',k1,k2,k3,k4,k5,k6,a,b⟩=>by
  have hr:Rel E' w' (.msl nx 0 1 0 0) v:=by
   rcases a with rfl | rfl
   ·cases k6 with
    | eslnil=>exact .msl0 _ _ _ (.inl rfl)
    | esl a=>exact .msl0 _ _ _ (.inr ⟨a,rfl⟩)
   ·exact k6
  rcases b with ⟨rfl,rfl⟩ | ⟨rfl,rfl⟩
  ·exact ⟨v,E',_,_,_,k1,k2,k3,k4.virtual (k5 _ (Nat.le_refl _)),fun b hb=>k5 b (by omega),hr,hR⟩
  ·exact ⟨v,E',_,_,_,k1,k2,k3,k4,k5,hr,hR⟩⟩
def ctE (q:FuncId→List AV→Option AV):CT:=⟨ctC,q⟩
theorem yr (g:FuncId) (args:List AV) (nx:Nat) (r:AV) (h:ctC g args nx=some r) (H:Hp) (R:AV→Hp→Nat→Prop) (hR:R r (ah H nx []) (nx + 1)):Abs.Fn Tryz.prog g args H nx R:=by
 unfold ctC at h
 split at h
 ·rename_i hg
  cases h
  rcases Bool.or_eq_true _ _ |>.mp hg with hg | hg
  ·cases Nat.eq_of_beq_eq_true hg
   exact xx (qE H nx) hR
  ·cases Nat.eq_of_beq_eq_true hg
   exact xx (rh H nx) hR
 ·cases h
theorem hJ {q:FuncId→List AV→Option AV} (hq:∀ (g:FuncId) (args:List AV) (r:AV),q g args=some r→Go.Abs.Pure Tryz.prog g args r):CTok Tryz.prog (ctE q):=⟨yr,hq⟩
def zL:List (Nat × F2):=[(12,b12),(13,b13),(15,b15),(16,b16),(18,b18),(20,b20),(21,b21),(23,b23),(25,b25),(27,b27),(33,b33),(39,b39),(40,b40),(41,b41),(42,b42),(43,b43),(44,b44),(47,b47),(48,b48),(49,b49),(50,b50),(51,b51),(56,b56),(57,b57),(58,b58),(59,b59),(60,b60),(61,b61),(62,b62),(63,b63),(64,b64),(68,b68),(69,b69),(71,b71),(72,b72),(73,b73),(74,b74),(75,b75),(77,b77),(78,b78),(79,b79),(83,b83),(86,b86),(87,b87),(88,b88),(96,b96),(100,AD),(101,Aq),(102,Az),(104,Ae),(106,vG),(107,uK),(108,wI),(109,Ac),(110,ym),(111,yQ),(112,vF),(113,xZ),(115,yn),(116,za),(117,yY),(118,xU),(119,wc),(120,zf),(121,yK),(126,yU),(127,x8),(130,tQ),(131,y7),(132,yD),(133,yZ),(134,zh),(135,y1),(136,ze),(137,yN),(138,yL),(139,AH),(140,wn),(141,yx),(142,yj),(143,x1),(144,yz),(145,yH),(149,tN),(150,zc),(151,yg),(152,yS),(153,xS),(154,zi),(155,x4),(156,xR),(157,yt),(158,yR),(159,yf),(160,yG),(161,xT),(162,yJ),(163,x6),(165,yi),(166,x7),(167,y4),(168,y9),(169,zg)]
theorem kv:iA Tryz.prog (lookup zL) :=
 (ac Bu (ac Bg (ac zN (ac Bs (ac Ba (ac yP (ac Bn (ac zK (ac Aj (ac yd (ac zX (ac Br (ac AU (ac AW (ac uZ (ac Bc (ac Bp (ac Bj (ac Bi (ac Am (ac A8 (ac A4 (ac A2 (ac zl (ac AS (ac Bb (ac Bk (ac Bl (ac Aw (ac A3 (ac Ad (ac zD (ac Be (ac An (ac zu (ac AF (ac zU (ac Ax (ac zs (ac zZ (ac zt (ac z6 (ac zS (ac z5 (ac zq (ac zv (ac AL (ac zk (ac AN (ac AI (ac ur (ac rK (ac uE (ac zP (ac wW (ac xt (ac uv (ac xp (ac wO (ac xG (ac xN (ac xj (ac tV (ac xP (ac xO (ac wQ (ac wN (ac rU (ac wS (ac xa (ac xn (ac xc (ac xB (ac xf (ac xJ (ac wV (ac zx (ac uW (ac xe (ac wX (ac w9 (ac wY (ac xK (ac rM (ac xl (ac xH (ac wR (ac xb (ac w6 (ac wJ (ac xd (ac wZ (ac xu (ac xF (ac xk (ac xz (ac xI (ac xo (ac xy (ac xE (ac xC (ac wM (ac wL sP)))))))))))))))))))))))))))))))))))))))))))))))))))))))))))))))))))))))))))))))))))))))))))))))))))))))
def eI (n:Int):AV:=.int .i64 n
def eV (a b:Int):AV:=.sl 1 [eI a,eI b]
def eC (a b:Int) (o:List AV):AV:=.agg [eV a b,.sl 1 o,.esl]
def eT (o:Int) (l:List AV):AV:=.agg [eI 2,eI 2,eI o,.sl 3 l]
def e4:List AV:=[eV 0 0,eV 0 1,eV 1 0,eV 1 1]
def e2:List AV:=[eV 0 0,eV 1 1]
def eP:List AV:=[eV 0 0,eV 1 1,eV 2 2,eV 3 3]
def tA:AV:=eT 2 [eC 0 0 [eV 0 0],eC 0 1 e2,eC 1 0 e2,eC 1 1 [eV 1 1]]
def tB:AV:=eT 2 [eC 0 0 e4,eC 0 1 e4,eC 1 0 e4,eC 1 1 e4]
def tP:AV:=eT 4 [eC 0 0 [eV 0 0],eC 0 1 eP,eC 1 0 eP,eC 1 1 [eV 3 3]]
def pfE:FuncId→Bool:=xQ [39,13,16,18,21,25,23,33,87,77]
theorem isV {v:AV} (r:AV) (h:eqA 60 r v=true):r=v:=qV _ _ _ h
set_option maxRecDepth 100000 in
theorem q1:Go.Abs.Pure Tryz.prog 39 [] (.tup [tA,tB]):=Pure.of_runC follows kv (hJ fj) (pf:=pfE) (n:=2000) (by decide +kernel) isV
set_option maxRecDepth 100000 in
theorem q2:Go.Abs.Pure Tryz.prog 13 [tA,tB] (.tup [.esl,eI 0,.esl,.bool true,eI 0]):=Pure.of_runC follows kv (hJ fj) (pf:=pfE) (n:=2000) (by decide +kernel) isV
set_option maxRecDepth 100000 in
theorem q3:Go.Abs.Pure Tryz.prog 13 [tB,tA] (.tup [eV 0 0,eI 0,eV 0 1,.bool false,eI 0]):=Pure.of_runC follows kv (hJ fj) (pf:=pfE) (n:=2000) (by decide +kernel) isV
set_option maxRecDepth 100000 in
theorem q4:Go.Abs.Pure Tryz.prog 16 [tA,tB] (.tup [tA,eI 0]):=Pure.of_runC follows kv (hJ fj) (pf:=pfE) (n:=2000) (by decide +kernel) isV
set_option maxRecDepth 100000 in
theorem q5:Go.Abs.Pure Tryz.prog 18 [tA,tB] (.tup [tB,eI 0]):=Pure.of_runC follows kv (hJ fj) (pf:=pfE) (n:=2000) (by decide +kernel) isV
set_option maxRecDepth 100000 in
theorem q6:Go.Abs.Pure Tryz.prog 21 [tA,tA] (.tup [tP,eI 0]):=Pure.of_runC follows kv (hJ fj) (pf:=pfE) (n:=2000) (by decide +kernel) isV
set_option maxRecDepth 100000 in
theorem q7:Go.Abs.Pure Tryz.prog 25 [tA] (.tup [.sl 1 [eV 0 1,eV 1 0],eI 0]):=Pure.of_runC follows kv (hJ fj) (pf:=pfE) (n:=2000) (by decide +kernel) isV
set_option maxRecDepth 100000 in
theorem vH:Go.Abs.Pure Tryz.prog 12 [] (.bool true):=Pure.of_runC follows kv (hJ (e9 q1 (e9 q2 (e9 q3 (e9 q4 (e9 q5 (e9 q6 (e9 q7 fj)))))))) (pf:=pfE) (n:=2000) (good:=isTrue) (by decide +kernel) sB
end Go.Proofs.YtjgpfclngkcedaaGreat
namespace Go.Proofs.YtjgpfclngkcedaaGreat
open Go Go.Abs
open Nat (reduceEqDiff reduceAdd reduceLeDiff)
attribute [local irreducible] aB ag aR aO aF aH ay aJ aP aZ Go.Abs.Fn aM Go.Abs.Pure an aC Yl
end Go.Proofs.YtjgpfclngkcedaaGreat
namespace Go.Proofs.YtjgpfclngkcedaaGreat
open Go Go.Abs
def jm (l:List TaskV):AV:=.sl 4 (l.map bt)
theorem pq {l:List TaskV}:ce (jm l)=some (.int .i64 l.length):=by simp [ce,jm]
theorem qU {l:List TaskV} {k:Nat} (h:k < l.length):gb 4 (jm l) (.int .i64 k)=some (.iptr [.int .i64 (l.getD k default).n,.int .i64 (l.getD k default).ins,.int .i64 (l.getD k default).outs,ba (l.getD k default).cases] 0):=by
 simp [gb,jm,h,List.getD,bt,AV.cells]
theorem ou {H:Hp} {b:Nat} {a:TaskV} (hb:H b=some [.int .i64 a.n,.int .i64 a.ins,.int .i64 a.outs,ba a.cases]):Snap H (.msl b 4 4 0 1) (jm [a]):=by
 have hr:Row H 4 (.msl b (1 * 4) 4 0 1) ([bt a].flatMap AV.cells):=Row.box b 1 _ (by simpa [bt,AV.cells] using hb) rfl
 refine Row.snap (elems:=[bt a]) hr (fun y hy=>?_) (by omega) (fun y hy c hc=>?_)
 ·simp at hy; subst hy; rfl
 ·simp only [List.mem_singleton] at hy; subst hy
  simp only [bt,AV.cells,List.mem_cons,List.not_mem_nil,or_false] at hc
  rcases hc with rfl | rfl | rfl | rfl
  ·exact .int
  ·exact .int
  ·exact .int
  ·exact fL _
def Ok (t:TaskV):Prop:=Sh t.cases∧∀ c ∈ t.cases,ShC c
attribute [local irreducible] aB ag aR aO aF aH ay aJ aP aZ Go.Abs.Fn aM Go.Abs.Pure an aC Yl
theorem vN (l:List TaskV) (hl:l.length ≤ 100) (hs:∀ t ∈ l,Ok t):Pure Tryz.prog 11 [jm l] (.bool (l.all i8)):=by
 refine Pure.of_c2 follows Bd (Nat.le_of_ble_eq_true rfl) ?_
 simp only [b11,cO,cG,cN,cM,cD,cF,cB,au,aD]
 have one:(jm l).one=true:=rfl
 (have zz:=@pq; repeat' (first | refine zW ?_ | apply a_n | refine zO ?_ | refine vY ?_ | fail)) <;> (try clear zz)
 refine aW (X:=Nat) (fun k=>[(0,jm l),(5,jm l),(6,.int .i64 l.length),(7,.int .i64 k)]) (fun k H nx=>k ≤ l.length∧∀ i,i < k→i8 (l.getD i default)=true) (fun k=>l.length - k) 0 ⟨Nat.zero_le _,fun i h=>absurd h (by omega)⟩ ag0 ?_
 rintro k H nx ⟨hk,hz⟩
 by_cases hk2:k < l.length
 rotate_left
 ·(have zz:=and_self; repeat' (first | refine zW ?_ | apply a_n | apply a_x | refine zO ?_ | refine vY ?_ | (refine zGY ?_ ?_ <;> (intro _hg; try (exfalso; omega))) | refine aa rfl ?_ | refine r1Y ?_ | fail)) <;> (try clear zz)
  rw [mP fun i hi=>hz i (by omega)]
  exact .bool _
 have ix:=qU hk2
 obtain ⟨s1,s2⟩:=hs _ (aj hk2)
 have hf:=A7 (l.getD k default) s2 s1
 have hbad:i8 (l.getD k default)=false→l.all i8=false:=fun h=>ig hk2 h
 have hnext:i8 (l.getD k default)=true→∀ i,i < k + 1→i8 (l.getD i default)=true:=fun h i hi=>by
  rcases Nat.lt_succ_iff_lt_or_eq.1 hi with h' | rfl
  ·exact hz i h'
  ·exact h
 have d1:=bW (l.getD k default)
 generalize l.getD k default=t at *
 unfold bt at hf d1
 cases hb:i8 t
 ·rw [hb] at hf
  rw [hbad hb]
  (have zz:=aI @ix (aI @ak @ae); repeat' (first | refine zW ?_ | apply a_n | apply a_r | refine zO ?_ | refine vY ?_ | refine cY ?_ (hp:=hf) | refine alY ?_ | refine stY ?_ | refine cTY ?_ | (refine zGY ?_ ?_ <;> (intro _hg; try (exfalso; omega))) | refine aa rfl ?_ | refine r1Y ?_ | fail)) <;> (try clear zz)
  exact .bool _
 ·rw [hb] at hf
  (have zz:=aI @ix (aI @ak @ae); repeat' (first | refine zW ?_ | apply a_n | refine zO ?_ | refine vY ?_ | refine cY ?_ (hp:=hf) | refine alY ?_ | refine stY ?_ | refine cFY ?_ | (refine zGY ?_ ?_ <;> (intro _hg; try (exfalso; omega))) | fail)) <;> (try clear zz)
  exact ⟨k + 1,by omega,⟨by omega,hnext hb⟩,ag0⟩
theorem oq (t:TaskV) (o:Int) (to:List Int) (ht:Ok t) (hto:Sh to):Pure Tryz.prog 6 [bt t,.int .i64 o,av to] (.bool true):=by
 refine Pure.of_c2 follows is6 (Nat.le_of_ble_eq_true rfl) ?_
 simp only [b6,cO,cG,cN,cM,cD,cF,cB,au,aD]
 have haw:=vH
 have hfw:=vN [t] (by simp) (by simp; exact ht)
 have d1:=bW t
 have hto':to.length ≤ 17592186044416:=hto
 cases hF:[t].all i8
 ·rw [hF] at hfw
  unfold bt at d1
  rw [show bt t=.agg [.int .i64 t.n,.int .i64 t.ins,.int .i64 t.outs,ba t.cases] from rfl]
  (have zz:=aI @ak @ae; repeat' (first | refine zW ?_ | apply a_n | refine zO ?_ | refine vZ ?_ | refine bxZ ?_ | refine blZ ?_ | fail)) <;> (try clear zz)
  refine bU ev0 ev0 hfw (al (ax (ou ai) af) rfl) ?_
  (have zz:=aI @ak @ae; repeat' (first | refine zW ?_ | apply a_n | apply a_r | refine zO ?_ | refine vZ ?_ | refine cZ ?_ (hp:=haw) | refine gFZ ?_ | refine cTZ ?_ | refine aa rfl ?_ | refine r1Z ?_ | fail)) <;> (try clear zz)
  exact .bool _
 rw [hF] at hfw
 have hfa:i8 t=true:=by simpa using hF
 have ft:=(Fit30.of hfa).four
 by_cases h60:60 < to.length
 ·have z:decide ((60:Int) < (to.length:Int))=true:=decide_eq_true (by omega)
  unfold bt at d1
  rw [show bt t=.agg [.int .i64 t.n,.int .i64 t.ins,.int .i64 t.outs,ba t.cases] from rfl]
  (have zz:=aI @ak (aI @ae @z); repeat' (first | refine zW ?_ | apply a_n | refine zO ?_ | refine vZ ?_ | refine bxZ ?_ | refine blZ ?_ | fail)) <;> (try clear zz)
  refine bU ev0 ev0 hfw (al (ax (ou ai) af) rfl) ?_
  (have zz:=aI @ak (aI @ae @z); repeat' (first | refine zW ?_ | apply a_n | apply a_r | refine zO ?_ | refine vZ ?_ | refine cZ ?_ (hp:=haw) | refine gTZ ?_ | refine cTZ ?_ | refine aa rfl ?_ | refine r1Z ?_ | fail)) <;> (try clear zz)
  exact .bool _
 have z:decide ((60:Int) < (to.length:Int))=false:=decide_eq_false (by omega)
 have c1:=tn t o to ft.fit (by omega)
 have c2:=uf t o to ft (by omega)
 have c3:=oS t ft.fit
 have c4:=qt t ft.fit
 have hm:Ok (du t o to).1:=by
  unfold du
  split
  ·exact n7
  rename_i hE
  split
  ·exact n7
  split
  ·exact n7
  split
  ·exact n7
  have hE:=Decidable.of_not_not hE
  have nn:=eY hE
  refine ⟨show (t.cases.map (jq to)).length ≤ _ by rw [List.length_map]; have:=ft.fit.len; omega,fun x hx=>?_⟩
  obtain ⟨c,hc,rfl⟩:=List.mem_map.1 hx
  have h1:=ft.fit.sh c hc
  have h2:=ft.fit.q c hc
  obtain ⟨v1,v2⟩:=jQ hE hc
  have hcm:∀ v ∈ c.calm,v ∈ c.out:=(c6 (e5 hE hc).2).2.2.2.1
  have l1:=jp (to:=to) (l:=c.out)
  have l2:=jp (to:=to) (l:=c.calm)
  refine ⟨h1.1,show (e8 (c.out.map (bF to))).length ≤ _ by omega,fun u hu=>?_,show (e8 (c.calm.map (bF to))).length ≤ _ by omega,fun u hu=>?_⟩
  ·obtain ⟨v,hv,rfl⟩:=List.mem_map.1 (jh.1 hu)
   have:=(v1 v hv).1
   show (bF to v).length ≤ _
   rw [dP]; omega
  ·obtain ⟨v,hv,rfl⟩:=List.mem_map.1 (jh.1 hu)
   have:=(v1 v (hcm v hv)).1
   show (bF to v).length ≤ _
   rw [dP]; omega
 have hs:Sh (mt t).1∧∀ v ∈ (mt t).1,Sh v:=by
  unfold mt
  split
  ·exact ⟨Nat.zero_le _,fun v hv=>(by cases hv)⟩
  rename_i hE
  have hE:=Decidable.of_not_not hE
  have nn:=eY hE
  have hp:=jr t.n.toNat (by omega) (by omega)
  refine ⟨show (ye t).length ≤ _ from Nat.le_trans (List.length_filter_le _ _) (by omega),fun v hv=>?_⟩
  have:=(hp.2 v (List.mem_filter.1 hv).1).2
  show v.length ≤ _
  omega
 have e1:=yk (du t o to).1 hm.1 hm.2
 have e2:=mi (mt t).1 hs.1 hs.2
 generalize du t o to=X at *
 generalize mt t=Y at *
 have dX:=bW X.1
 have z1:decide (X.2=X.2)=true:=decide_eq_true rfl
 have z2:decide (Y.2=Y.2)=true:=decide_eq_true rfl
 unfold bt at d1 c1 c2 c3 c4 dX e1
 rw [show bt t=.agg [.int .i64 t.n,.int .i64 t.ins,.int .i64 t.outs,ba t.cases] from rfl]
 (have zz:=aI @ak (aI @ae @z); repeat' (first | refine zW ?_ | apply a_n | refine zO ?_ | refine vZ ?_ | refine bxZ ?_ | refine blZ ?_ | fail)) <;> (try clear zz)
 refine bU ev0 ev0 hfw (al (ax (ou ai) af) rfl) ?_
 (have zz:=aI @ak (aI @ae (aI @z (aI @z1 @z2))); repeat' (first | refine zW ?_ | apply a_n | refine zO ?_ | refine vZ ?_ | refine cZ ?_ (hp:=by first | exact haw | exact c1 | exact c2 | exact c3 | exact c4 | exact e1 | exact e2) | refine alZ ?_ | refine stZ ?_ | refine gTZ ?_ | (refine zGZ ?_ ?_ <;> (intro _hg; try (exfalso; omega))) | refine cFZ ?_ | refine aa rfl ?_ | refine r1Z ?_ | fail)) <;> (try clear zz)
 all_goals exact .bool _
end Go.Proofs.YtjgpfclngkcedaaGreat
namespace Go.Proofs.YtjgpfclngkcedaaGreat
open Go Go.Abs Go.RowKit
section
variable {H:Type} {enc:TypeId × Value→H} {W:World}
theorem oi:cR enc Tryz.prog W 3 (AV.int .i64) (fun n=>(Lit.int .i64 n).wf=true):=sE Tryz.underlying3
theorem oL1:cR enc Tryz.prog W 27 av Sh :=
 (gY Tryz.underlying27 (sz:=1) (by_:=8) (by kernel_rfl) (by kernel_rfl) Nat.one_pos (fun _=>rfl) oi).mono fun l h=>by have:=h.2.2; show _ ≤ _; omega
theorem oL2:cR enc Tryz.prog W 41 aw (fun l=>Sh l∧∀ x ∈ l,Sh x) :=
 (gY Tryz.underlying41 (sz:=1) (by_:=24) (by kernel_rfl) (by kernel_rfl) Nat.one_pos (fun _=>rfl) oL1).mono fun l h=>⟨by have:=h.2.2; show _ ≤ _; omega,h.1⟩
set_option maxRecDepth 100000 in
theorem zo:cR enc Tryz.prog W 57 bk ShC :=
 (je Tryz.underlying57 (by kernel_rfl) (cV (off:=0) (off':=1) rfl (by kernel_rfl) oL1 (cV (off:=1) (off':=2) rfl (by kernel_rfl) oL2 (cV (off:=2) (off':=3) rfl (by kernel_rfl) oL2 my)))).map
  (fun a=>(⟨a.1,a.2.1,a.2.2.1⟩:CaseV)) (by
   rintro ⟨i,o,c,u⟩ ⟨h1,h2,h3,_⟩
   exact ⟨h1,h2.1,h2.2,h3.1,h3.2⟩) (fun _ _=>rfl)
theorem y2:cR enc Tryz.prog W 22 ba (fun l=>Sh l∧∀ c ∈ l,ShC c) :=
 (gY Tryz.underlying22 (sz:=3) (by_:=72) (by kernel_rfl) (by kernel_rfl) (by omega) (fun _=>rfl) zo).mono fun l h=>⟨by have:=h.2.2; show _ ≤ _; omega,h.1⟩
set_option maxRecDepth 100000 in
theorem zT:cR enc Tryz.prog W 24 bt (fun t=>Sh t.cases∧∀ c ∈ t.cases,ShC c) :=
 (je Tryz.underlying24 (by kernel_rfl) (cV (off:=0) (off':=1) rfl (by kernel_rfl) oi (cV (off:=1) (off':=2) rfl (by kernel_rfl) oi (cV (off:=2) (off':=3) rfl (by kernel_rfl) oi (cV (off:=3) (off':=4) rfl (by kernel_rfl) y2 my))))).map
  (fun a=>(⟨a.1,a.2.1,a.2.2.1,a.2.2.2.1⟩:TaskV)) (by
   rintro ⟨n,i,o,c,u⟩ ⟨_,_,_,h,_⟩
   exact h) (fun _ _=>rfl)
end
theorem mh {f:FuncId} {xs:List AV} {vs:List Value} (h:Go.Abs.Pure Tryz.prog f xs (.bool true)) (w:World) (hv:bI (E0 (nd w)) w xs vs) :
    Calls Tryz.prog f vs.toArray w fun e w'=>e=.returned (.bool true)∧Below w.heap.size w w':=by
 refine (h.2 (nd w) w vs (fun _ h=>h) hv).mono ?_
 rintro e w' ⟨v,imm',rfl,hb,_,_,_,hr⟩
 cases hr
 exact ⟨rfl,hb⟩
theorem A6:laidOutB Tryz.prog=true:=by kernel_rfl
end Go.Proofs.YtjgpfclngkcedaaGreat
namespace Go.Proofs.YtjgpfclngkcedaaGreat
open Go Go.Abs Go.RowKit Go.ChangeShapes Go.WideShapes Go.ChangeAt
theorem nb {H:Type} {enc:TypeId × Value→H} {P:Program} {f:Func} {s:ChangeSpec} {apart fresh handsOn again:Bool} {W W':World} {args:Array Value} {v:Value} {ds gs:List (DataW H)} {before pa pv:List MemPlace}
    (hW:DataW.Whole enc P f.params.toList s.vars apart W args.toList ds gs before)
    (hres:∀ (b:Nat) (sp:Nat→Bool) (hd:Bool),DataW.TrodAll enc P W' b sp hd f.resultTypes.toList (v.resultList f.resultTypes.size) (s.fn H (ds ++ gs)).results [])
    (hargs:∀ sp:Nat→Bool,(∀ p ∈ before,sp p.block=true)→DataW.TrodAll enc P W' 0 sp true f.params.toList args.toList (s.fn H (ds ++ gs)).args pa)
    (hvars:∀ sp:Nat→Bool,(∀ p ∈ before,sp p.block=true)→DataW.TrodVars enc P W' sp s.vars (s.fn H (ds ++ gs)).vars pv)
    (hps:before=pa ++ pv) (hb:Below W.heap.size W W')
    (hok:∀ (j:Nat) (t:TypeId) (r:Value),f.resultTypes[j]?=some t→(v.resultList f.resultTypes.size)[j]?=some r→Value.okWide P W' .any 0 t r) :
    s.post enc P f apart fresh handsOn again W args v W':=by
 have hold:∀ p ∈ before,(fun b=>decide (b < W.heap.size)) p.block=true:=fun p hp=>by simpa using hW.lt p hp
 have hlt:=fun p hp=>hW.lt p hp
 refine ⟨ds,gs,before,[],pa,pv,hW,hres _ _ _,hargs _ hold,hvars _ hold,World.keptBut_mono (fun p hp=>⟨hp,?_⟩) (hb.frame _),fun _=>?_⟩
 ·rw [hps,List.mem_append] at hp
  exact Or.inr hp
 ·obtain ⟨_,_,_,_,_,hz,hn⟩:=hW
  refine ⟨hok,_,_,([] ++ pa) ++ pv,⟨[] ++ pa,pv,trodAll_append (hargs _ (fun _ _=>rfl)) (hres _ _ _),hvars _ (fun _ _=>rfl),rfl,?_,?_⟩,?_⟩
  ·intro b off hp
   have hp':MemPlace.cell b off ∈ before:=by rw [hps]; simpa using hp
   rw [hb.frozen (hlt _ hp')]
   exact hz b off hp'
  ·intro ha
   have:=hn ha
   rw [hps] at this
   simpa using this
  ·intro p hp _
   rw [hps]
   simpa using hp
theorem ud {E:Env} {w:World}:bI E w [] []:=⟨rfl,fun i x y h=>(by cases h)⟩
theorem jV {E:Env} {w:World} {x:AV} {y:Value} {xs:List AV} {ys:List Value} (h:Rel E w x y) (hs:bI E w xs ys):bI E w (x :: xs) (y :: ys):=by
 refine ⟨by simp [hs.1],fun i a b ha hb=>?_⟩
 cases i with
 | zero=>simp at ha hb; subst ha hb; exact h
 | succ i=>simp at ha hb; exact hs.2 i a b ha hb
theorem own:ownKnob Tryz.prog.godebug=none:=by kernel_rfl
end Go.Proofs.YtjgpfclngkcedaaGreat