/- Texts of this claim, one after the other: T104, T105, T108, U2s, U3s, U4s, U5s, U6s, U7s, U8s, U9s, U10s, U11s, U12s, U13s, U2p, U3p, U4p, U5p, U6p, U7p, U8p, U10p, U12p, U13p, T106, T109, T110, T111, T112, T113, T107, T114, T115, T116, T117, T119, T124, T125, T120, T123, T126, T127, T128, T135, T136, T137, T129. -/
import Derived.Test.YtlodfaaceehfmaaGreatXG4
import Derived.Test.YtlodfaaceehfmaaGreatXG3

set_option linter.unusedSimpArgs false
set_option linter.unusedVariables false
set_option maxHeartbeats 1000000
namespace Go.Proofs.YtlodfaaceehfmaaGreat
open Go Go.Abs
open Nat (reduceEqDiff reduceAdd reduceLeDiff)
theorem Ae (a b c d:Int):dx [.int,.int] [.int .i64 a,.int .i64 b] [.int .i64 c,.int .i64 d]=some (decide (a=c∧b=d)):=by
 have e:∀ x y:Int,(x == y)=decide (x=y):=fun x y=>rfl;by_cases h1:a=c
 ·by_cases h2:b=d
  ·subst h1 h2; simp [dx,iz]
  ·subst h1; simp only [dx,iz,if_true,e,bj h2,decide_true,h2,and_false,decide_false]
 ·simp only [dx,iz,if_true,e,bj h1,h1,false_and,decide_false]
theorem acq (a b c d:Int):nS .eql [.int,.int] [.int .i64 a,.int .i64 b] [.int .i64 c,.int .i64 d]=some (.bool (decide (a=c∧b=d))):=by
 unfold nS; rw [Ae]
theorem acn (a b c d:Int):nS .neq [.int,.int] [.int .i64 a,.int .i64 b] [.int .i64 c,.int .i64 d]=some (.bool (!decide (a=c∧b=d))):=by
 unfold nS; rw [Ae]
theorem wz (v w:Vtx):decide (v.color=w.color∧v.label=w.label)=decide (v=w):=decide_eq_decide.2 nO.symm
theorem uy {H:Hp} {d:Nat} {x y:AV}:ef 2 (aq H d [x,y]) (.msl d 2 2 0 1)=some (1,[x,y]):=jC (n:=2) (len:=1) (off:=0) (cs:=[x,y]) ai rfl (by simp)
theorem dE {α:Type} [Inhabited α] {l:List α} {k:Nat} (h:k < l.length):l.take (k + 1)=l.take k ++ [l.getD k default]:=by
 rw [List.take_add_one]; simp [List.getD,h]
section
variable {α:Type} {K:α→α→Int} {v x:α} {l:List α}
end
def eN (a b:Spx):Bool:=a.all fun v=>decide (v ∈ b)
attribute [local irreducible] aM am bm be aX a6 aG aZ bf bI Go.Abs.Fn bc Go.Abs.Pure aB aQ Yl
theorem Jm (l:Spx) (v:Vtx) (hl:Shn l):Pure Tryz.prog 71 [aF l,dA v] (.bool (decide (v ∈ l))):=by
 refine Pure.of_c2 follows JN (br rfl) ?_;simp only [b71,aU];have hl':l.length ≤ 17592186044416:=hl;have zz:=@az; repeat' (first|refine zW ?_|apply a_n|refine zO ?_|refine vZ ?_|refine bxZ ?_|fail)
 refine A8 (fun k=>[(0,aF l),(3,.ptr 0 2 0),(5,.int .i64 k)]) l.length (fun k=>l.getD k default ≠ v) (by simp (disch:=omega) only [agr,ZG,reduceEqDiff,↓reduceIte,bN,fL,cb,reduceAdd]) ?_;intro k hk hz;by_cases hk2:k < l.length
 rotate_left
 ·clear zz;have zz:=@az; repeat' (first|refine zW ?_|apply a_n|apply a_x|refine zO ?_|refine vZ ?_|(refine zGZ ?_ ?_ <;> (intro _hg; try (exfalso; omega)))|refine ak rfl ?_|refine r1Z ?_|fail)
  exact cu (B9 fun i hi=>hz i (by omega)).symm
 have ix:=ix2 hk2;have hd:=wz (l.getD k default) v;by_cases he:l.getD k default=v
 ·rw [bt he] at hd;rw [DK hk2 he];clear zz;have zz:=aI @az (aI @ix (aI @acq @hd)); repeat' (first|refine zW ?_|apply a_n|apply a_r|refine zO ?_|refine vZ ?_|refine cTZ ?_|(refine zGZ ?_ ?_ <;> (intro _hg; try (exfalso; omega)))|refine ak rfl ?_|refine r1Z ?_|fail)
  exact .bool _
 ·rw [bj he] at hd;clear zz;have zz:=aI @az (aI @ix (aI @acq @hd)); repeat' (first|refine zW ?_|apply a_n|refine zO ?_|refine vZ ?_|refine cFZ ?_|(refine zGZ ?_ ?_ <;> (intro _hg; try (exfalso; omega)))|fail)
  exact ⟨hk2,he,ag0,rfl,rfl⟩
theorem CW (a b:Spx) (ha:Shn a) (hb:Shn b):Pure Tryz.prog 43 [aF a,aF b] (.bool (eN a b)):=by
 refine Pure.of_c2 follows JL (br rfl) ?_;simp only [b43,aU];have ha':a.length ≤ 17592186044416:=ha;have zz:=@az; repeat' (first|refine zW ?_|apply a_n|refine zO ?_|refine vZ ?_|fail)
 refine A8 (fun k=>[(0,aF a),(1,aF b),(5,.int .i64 k)]) a.length (fun k=>decide (a.getD k default ∈ b)=true) ag0 ?_;intro k hk hz;by_cases hk2:k < a.length
 rotate_left
 ·clear zz;have zz:=@az; repeat' (first|refine zW ?_|apply a_n|apply a_x|refine zO ?_|refine vZ ?_|(refine zGZ ?_ ?_ <;> (intro _hg; try (exfalso; omega)))|refine ak rfl ?_|refine r1Z ?_|fail)
  exact cu (og fun i hi=>hz i (by omega)).symm
 have ix:=ix2 hk2;have hh:=Jm b (a.getD k default) hb;cases hm:decide (a.getD k default ∈ b)
 ·rw [hm] at hh;rw [show eN a b=false from me hk2 hm];clear zz;have zz:=aI @az @ix; repeat' (first|refine zW ?_|apply a_n|apply a_r|refine zO ?_|refine vZ ?_|refine cZ ?_ (hp:=hh) (hs:=by (first | refine af ?_ rfl | apply ag); (repeat' (first | exact ac | apply an | apply ah | exact aH _ | exact dK _)); first | done | fail)|refine cTZ ?_|(refine zGZ ?_ ?_ <;> (intro _hg; try (exfalso; omega)))|refine ak rfl ?_|refine r1Z ?_|fail)
  exact .bool _
 ·rw [hm] at hh;clear zz;have zz:=aI @az @ix; repeat' (first|refine zW ?_|apply a_n|refine zO ?_|refine vZ ?_|refine cZ ?_ (hp:=hh) (hs:=by (first | refine af ?_ rfl | apply ag); (repeat' (first | exact ac | apply an | apply ah | exact aH _ | exact dK _)); first | done | fail)|refine cFZ ?_|(refine zGZ ?_ ?_ <;> (intro _hg; try (exfalso; omega)))|fail)
  exact ⟨hk2,rfl,ag0,rfl,rfl⟩
def md (c:List Spx):Bool:=decide (c.length ≤ 30) && c.all fun s=>decide (s.length ≤ 10)
theorem FU (l:Spx) (hl:Shn l):Pure Tryz.prog 68 [aF l] (.bool (decide (l.length ≤ 10))):=by
 refine Pure.of_c2 follows Ke (br rfl) ?_;simp only [b68,aU];have zz:=@az; repeat' (first|refine zW ?_|apply a_n|refine zO ?_|refine vZ ?_|refine ak rfl ?_|refine r1Z ?_|fail)
 exact cu (decide_eq_decide.2 (by omega))
theorem D9 (c:List Spx) (hc:Shn c) (hs:∀ s ∈ c,Shn s):Pure Tryz.prog 40 [aC c] (.bool (md c)):=by
 refine Pure.of_c2 follows J1 (br rfl) ?_;simp only [b40,aU];have hc':c.length ≤ 17592186044416:=hc;unfold md;by_cases h:c.length ≤ 30
 rotate_left
 ·have z:decide (30 < (c.length:Int))=true:=bt (by omega);rw [bj h,Bool.false_and];have zz:=aI @aj @z; repeat' (first|refine zW ?_|apply a_n|apply a_r|refine zO ?_|refine vZ ?_|refine cTZ ?_|refine ak rfl ?_|refine r1Z ?_|fail)
  exact .bool _
 have z:decide (30 < (c.length:Int))=false:=bj (by omega);rw [bt h,Bool.true_and];have zz:=aI @aj @z; repeat' (first|refine zW ?_|apply a_n|refine zO ?_|refine vZ ?_|refine cFZ ?_|fail)
 refine A8 (fun k=>[(0,aC c),(3,.int .i64 k)]) c.length (fun k=>decide ((c.getD k default).length ≤ 10)=true) ag0 ?_;intro k hk hz;by_cases hk2:k < c.length
 rotate_left
 ·clear zz;have zz:=@aj; repeat' (first|refine zW ?_|apply a_n|apply a_x|refine zO ?_|refine vZ ?_|(refine zGZ ?_ ?_ <;> (intro _hg; try (exfalso; omega)))|refine ak rfl ?_|refine r1Z ?_|fail)
  exact cu (og fun i hi=>hz i (by omega)).symm
 have ix:=fq hk2;have hf:=FU (c.getD k default) (hs _ (ba hk2));cases hm:decide ((c.getD k default).length ≤ 10)
 ·rw [hm] at hf;rw [me hk2 hm];clear zz;have zz:=aI @aj @ix; repeat' (first|refine zW ?_|apply a_n|apply a_r|refine zO ?_|refine vZ ?_|refine cZ ?_ (hp:=hf) (hs:=by (first | refine af ?_ rfl | apply ag); (repeat' (first | exact ac | apply an | apply ah | exact aH _)); first | done | fail)|refine cTZ ?_|(refine zGZ ?_ ?_ <;> (intro _hg; try (exfalso; omega)))|refine ak rfl ?_|refine r1Z ?_|fail)
  exact .bool _
 ·rw [hm] at hf;clear zz;have zz:=aI @aj @ix; repeat' (first|refine zW ?_|apply a_n|refine zO ?_|refine vZ ?_|refine cZ ?_ (hp:=hf) (hs:=by (first | refine af ?_ rfl | apply ag); (repeat' (first | exact ac | apply an | apply ah | exact aH _)); first | done | fail)|refine cFZ ?_|(refine zGZ ?_ ?_ <;> (intro _hg; try (exfalso; omega)))|fail)
  exact ⟨hk2,rfl,ag0,rfl,rfl⟩
abbrev dl (c:List Spx):AV:=.agg [aC c]
theorem aV (c:List Spx):Dat (dl c):=Dat.agg (DatL.cons (aW c) DatL.nil)
instance datI_encCx {c:List Spx}:DatI (dl c):=⟨aV c⟩
theorem E8 (c:List Spx) (hc:Shn c) (hs:∀ s ∈ c,Shn s):Pure Tryz.prog 17 [dl c] (.bool (md c)):=by
 refine Pure.of_c2 follows J5 (br rfl) ?_;simp only [b17,aU];have h:=D9 c hc hs;have zz:=aI @au @ao; repeat' (first|refine zW ?_|apply a_n|refine zO ?_|refine vZ ?_|refine cZ ?_ (hp:=h) (hs:=by (first | refine af ?_ rfl | apply ag); (repeat' (first | exact ac | apply an | apply ah | exact aW _)); first | done | fail)|refine bxZ ?_|refine ak rfl ?_|refine r1Z ?_|fail)
 exact .bool _
end Go.Proofs.YtlodfaaceehfmaaGreat
namespace Go.Proofs.YtlodfaaceehfmaaGreat
open Go Go.Abs
theorem wQ {α:Type} [Inhabited α] {l:List α} {p:α→Bool} {k:Nat} (hk:k < l.length) (h:∀ i,i < k→p (l.getD i default)=false) (hv:p (l.getD k default)=true):l.any p=true∧l.findIdx p=k:=by
 have e:l.getD k default=l[k]:=by simp [List.getD,hk]
 refine ⟨pQ.2 ⟨l[k],mM hk,by rw [← e]; exact hv⟩,(List.findIdx_eq hk).2 ⟨by rw [← e]; exact hv,fun j hj=>by have:=h j hj; rwa [show l.getD j default=l[j] by simp [List.getD,show j < l.length by omega]] at this⟩⟩
section
attribute [local irreducible] aM am bm be aX a6 aG aZ bf bI Go.Abs.Fn bc Go.Abs.Pure aB aQ Yl
end
end Go.Proofs.YtlodfaaceehfmaaGreat
namespace Go.Proofs.YtlodfaaceehfmaaGreat
open Go Go.Abs
open Nat (reduceEqDiff reduceAdd reduceLeDiff)
theorem Bu {l:Spx} {j:Nat} (h:j < l.length):(l.drop j).getD 0 default=l.getD j default:=by simp [List.getD,ji]
theorem zi {l:Spx} {v:Vtx} (h:∀ i,i < l.length→l.getD i default ≠ v):v ∉ l:=fun hm=>by
 obtain ⟨i,hi,e⟩:=jW hm;exact h i hi (by simp [List.getD,hi,e])
theorem aE {α:Type} [Inhabited α] {l:List α} {i:Nat} (h:i < l.length):l.getD i default ∈ l:=ba h
attribute [local irreducible] aM am bm be aX a6 aG aZ bf bI Go.Abs.Fn bc Go.Abs.Pure aB aQ Yl
set_option maxHeartbeats 1000000 in
theorem Hu (a b:Spx) (ha:bQ ce a) (hb:bQ ce b) (la:a.length ≤ 1000000) (lb:b.length ≤ 1000000):Pure Tryz.prog 75 [aF a,aF b] (.bool (eN a b)):=by
 refine Pure.of_c2 follows JJ (br rfl) ?_;simp only [b75,aU];have zz:=@az; repeat' (first|refine zW ?_|apply a_n|refine zO ?_|refine vZ ?_|fail)
 refine bC (X:=Nat × Nat) (fun x=>[(1,aF (b.drop x.2)),(7,aF a),(8,.int .i64 a.length),(9,.int .i64 x.1)]) (fun x H nx=>x.1 ≤ a.length∧x.2 ≤ b.length∧(∀ i,i < x.1→decide (a.getD i default ∈ b)=true)∧∀ i m,i < x.2→x.1 ≤ m→m < a.length→b.getD i default ≠ a.getD m default) (fun x=>a.length - x.1) (0,0) ⟨cf _,cf _,fun i h=>absurd h (by omega),fun i m h=>absurd h (by omega)⟩ (by simp (disch:=omega) only [agr,ZG,reduceEqDiff,↓reduceIte,List.drop_zero]) ?_;rintro ⟨k,j⟩ H nx ⟨h1,h2,h3,h4⟩;dsimp only at h1 h2 h3 h4 ⊢;by_cases hk:k < a.length
 rotate_left
 ·repeat' (first|refine zW ?_|apply a_n|apply a_x|refine zO ?_|refine vY ?_|(refine zGY ?_ ?_ <;> (intro _hg; try (exfalso; omega)))|refine ak rfl ?_|refine r1Y ?_|fail)
  exact cu (og fun i hi=>h3 i (by omega)).symm
 have ix:=ix2 hk;have hlt:∀ m,k < m→m < a.length→ce (a.getD k default) (a.getD m default) < 0:=fun m h5 h6=>dJ ha h5 h6;have hkm:∀ j',(∀ i,i < j'→b.getD i default ≠ a.getD k default)→b.length ≤ j'→decide (a.getD k default ∈ b)=false:=fun j' h5 h6=>bj (zi fun i hi=>h5 i (by omega));have hall:decide (a.getD k default ∈ b)=false→eN a b=false:=fun h=>me hk h;have hdec:=fun i=>wz (b.getD i default) (a.getD k default);have h40:=fun i hi=>h4 i k hi (aP _) hk;generalize hv:a.getD k default=v at *;clear zz;have zz:=@ix; repeat' (first|refine zW ?_|apply a_n|refine zO ?_|refine vY ?_|refine alY ?_|refine stY ?_|(refine zGY ?_ ?_ <;> (intro _hg; try (exfalso; omega)))|fail)
 refine bC (X:=Nat) (fun j'=>[(1,aF (b.drop j')),(6,.ptr nx 2 0),(7,aF a),(8,.int .i64 a.length),(9,.int .i64 k)]) (fun j' H' nx'=>j' ≤ b.length∧H' nx=some [.int .i64 v.color,.int .i64 v.label]∧nx < nx'∧∀ i,i < j'→b.getD i default ≠ v) (fun j'=>b.length - j') j ⟨h2,by rw [ai]; rfl,by omega,h40⟩ (by simp (disch:=omega) only [agr,ZG,reduceEqDiff,↓reduceIte,bN,fL,cb,reduceAdd]) ?_;rintro j' H' nx' ⟨k1,g0,hnx,k2⟩;have hlen:(b.drop j').length=b.length - j':=xU ..;by_cases hj:j' < b.length
 rotate_left
 ·have z1:decide (0 < ((b.drop j').length:Int))=false:=bj (by omega);have z2:decide (((b.drop j').length:Int)=0)=true:=bt (by omega);rw [hall (hkm j' k2 (by omega))];clear zz;have zz:=aI @az (aI @z1 @z2); repeat' (first|refine zW ?_|apply a_n|apply a_x|apply a_r|refine zO ?_|refine vY ?_|refine gFY ?_|refine cTY ?_|refine cFY ?_|refine ak rfl ?_|refine r1Y ?_|fail)
  exact .bool _
 have z1:decide (0 < ((b.drop j').length:Int))=true:=bt (by omega);have z2:decide (((b.drop j').length:Int)=0)=false:=bj (by omega);have iy:=ix2 (l:=b.drop j') (k:=0) (by omega);rw [Bu hj,show ((0:Nat):Int)=0 from rfl] at iy;have hd:=hdec j';by_cases he:b.getD j' default=v
 ·rw [bt he] at hd;clear zz;have zz:=aI @az (aI @z1 (aI @z2 (aI @iy (aI @g0 (aI @acn @hd))))); repeat' (first|refine zW ?_|apply a_n|apply a_x|refine zO ?_|refine vY ?_|refine gTY ?_|refine cFY ?_|fail)
  refine ⟨(k + 1,j'),by dsimp only; omega,⟨by dsimp only; omega,by dsimp only; omega,fun i hi=>?_,fun i m h5 h6 h7 e=>?_⟩,ag0⟩
  ·rcases jl.1 hi with h' | rfl
   ·exact h3 i h'
   ·rw [hv,← he]; exact bt (aE hj)
  ·have q1:=dJ hb h5 hj;have q2:=hlt m (by dsimp only at h6; omega) h7;rw [e,he] at q1;exact Af.ord.asym _ _ q1 q2
 ·rw [bj he] at hd
  have hs:kN 2 (aF (b.drop j')) (some (.int .i64 1)) none none=some (aF (b.drop (j' + 1))):=by
   have:=jK (sz:=2) (f:=dA) (l:=b.drop j') (k:=1) (by omega);rw [List.drop_drop] at this;exact this
  clear zz;have zz:=aI @az (aI @z1 (aI @z2 (aI @iy (aI @g0 (aI @acn (aI @hd @hs)))))); repeat' (first|refine zW ?_|apply a_n|refine zO ?_|refine vY ?_|refine gTY ?_|refine cTY ?_|fail)
  exact ⟨j' + 1,by omega,⟨by omega,g0,hnx,fun i hi=>by
   rcases jl.1 hi with h' | rfl
   ·exact k2 i h'
   ·exact he⟩,ag0⟩
end Go.Proofs.YtlodfaaceehfmaaGreat
namespace Go.Proofs.YtlodfaaceehfmaaGreat
open Go Go.Abs
structure Cmp {α:Type} (P:Program) (f:α→AV) (K:α→α→Int) (G:α→Prop) (g:Nat) (caps:List AV):Prop where
 cells:∀ x,(f x).cells=[f x]
 one:∀ x,(f x).one=true
 dat:∀ x,Dat (f x)
 dcaps:∀ x ∈ caps,Dat x
 run:∀ x y,G x→G y→Go.Abs.Pure P g (f x :: f y :: caps) (.int .i64 (K x y))
 ord:Ord K
theorem l8 {α:Type} {f:α→AV} {l:List α} {k:Nat} {x:α} (h:k < l.length):bK (l.map f) k [f x]=(l.set k x).map f:=by
 simp only [bK,List.map_set,bN,fL,cb];rw [List.set_eq_take_append_cons_drop,if_pos (by simpa using h)];simp
theorem a7 (H:Hp) (b:Nat) (x y:List AV):aq (aq H b x) b y=aq H b y:=by
 funext i; unfold aq; split <;> rfl
theorem mF {H:Hp} {b:Nat} {cs:List AV} (h:H b=some cs):H=aq H b cs:=by
 funext i
 by_cases e:i=b
 ·subst e; rw [ai,h]
 ·rw [ae e]
def gy {α:Type} [Inhabited α] (K:α→α→Int) (a i j:Nat) (M:List α):Prop:=∀ p q,a ≤ p→p < q→q ≤ i→q ≠ j→¬ K (M.getD q default) (M.getD p default) < 0
section
variable {α:Type} [Inhabited α] {f:α→AV} {K:α→α→Int} {G:α→Prop} {g:Nat} {caps:List AV}
theorem gy.start {a i:Nat} {M:List α} (h:bv K a i M):gy K a i i M:=fun p q h1 h2 h3 h4=>h p q h1 h2 (by omega)
theorem gy.done {a i j:Nat} {M:List α} (hK:Ord K) (h:gy K a i j M) (hj:j=a ∨ (a < j∧¬ K (M.getD j default) (M.getD (j - 1) default) < 0)):bv K a (i + 1) M:=by
 intro p q h1 h2 h3;by_cases e:q=j
 ·subst e;rcases hj with hj | ⟨hj,hk⟩
  ·omega
  ·by_cases e2:p=q - 1
   ·rw [e2]; exact hk
   ·exact hK.negtr _ _ _ (h p (q - 1) h1 (by omega) (by omega) (by omega)) hk
 ·exact h p q h1 h2 (by omega) e
theorem gy.step {a i j:Nat} {M:List α} (hK:Ord K) (h:gy K a i (j + 1) M) (haj:a ≤ j) (hji:j + 1 ≤ i) (hi:i < M.length) (hk:K (M.getD (j + 1) default) (M.getD j default) < 0):gy K a i j (swp M (j + 1) j):=by
 intro p q h1 h2 h3 h4;rw [eO (by omega) (by omega),eO (by omega) (by omega)];rw [if_neg h4];by_cases e1:q=j + 1
 ·rw [if_pos e1];by_cases e2:p=j
  ·rw [if_pos e2]; exact hK.asym _ _ hk
  ·rw [if_neg e2,if_neg (by omega)];exact h p j h1 (by omega) (by omega) (by omega)
 ·rw [if_neg e1];by_cases e2:p=j
  ·rw [if_pos e2]; exact h (j + 1) q (by omega) (by omega) h3 e1
  ·rw [if_neg e2];by_cases e3:p=j + 1
   ·rw [if_pos e3]; exact h j q (by omega) (by omega) h3 e1
   ·rw [if_neg e3]; exact h p q h1 h2 h3 e1
theorem bv.mono {a b a' b':Nat} {M:List α} (h:bv K a b M) (h1:a ≤ a') (h2:b' ≤ b):bv K a' b' M:=fun p q k1 k2 k3=>h p q (by omega) k2 (by omega)
theorem PermR.mem {a b:Nat} {L M:List α} (h:PermR a b L M) (hG:∀ x ∈ L,G x):∀ x ∈ M,G x:=fun x hx=>hG x (h.perm.mem_iff.1 hx)
attribute [local irreducible] aM am bm be aX a6 aG aZ bf bI Go.Abs.Fn bc Go.Abs.Pure aB aQ Yl
theorem IR (hc:Cmp Tryz.prog f K G g caps) {L:List α} {H:Hp} {b nx n a e:Nat} (hH:H b=some (L.map f)) (hn:L.length=n) (hG:∀ x ∈ L,G x) (hae:a ≤ e) (hen:e ≤ n) (hn2:n ≤ 1000000000) :
    Abs.Fn Tryz.prog 97 [.msl b n 1 0 n,.int .i64 a,.int .i64 e,.func g caps] H nx fun r H' nx'=>nx'=nx∧∃ L',H'=aq H b (L'.map f)∧PermR a e L L'∧bv K a e L':=by
 refine Abs.Fn.of_c2 follows IG (br rfl) ?_;simp only [b97,aU]
 repeat' (first|refine zW ?_|apply a_n|refine zO ?_|refine vZ ?_|fail)
 refine bC (X:=Nat × List α) (fun x=>[(0,.msl b n 1 0 n),(1,.int .i64 a),(2,.int .i64 e),(3,.func g caps),(8,.int .i64 (x.1:Nat))]) (fun x H' nx'=>a + 1 ≤ x.1∧(x.1 ≤ e ∨ x.1=a + 1)∧H'=aq H b (x.2.map f)∧nx'=nx∧PermR a e L x.2∧bv K a x.1 x.2) (fun x=>e + 1 - x.1) (a + 1,L) ⟨aP _,.inr rfl,mF hH,rfl,.refl,bv.one (aP _)⟩ ag0 ?_;rintro ⟨i,M0⟩ H' nx' ⟨h1,h2,rfl,rfl,hp0,hs0⟩;dsimp only at *;have hl0:M0.length=n:=by rw [hp0.len,hn]
 by_cases hi:i < e
 rotate_left
 ·repeat' (first|refine zW ?_|apply a_n|apply a_x|refine zO ?_|refine vZ ?_|(refine zGZ ?_ ?_ <;> (intro _hg; try (exfalso; omega)))|refine ak rfl ?_|fail)
  exact ⟨rfl,M0,rfl,hp0,hs0.mono (aP _) (by omega)⟩
 repeat' (first|refine zW ?_|apply a_n|refine zO ?_|refine vZ ?_|(refine zGZ ?_ ?_ <;> (intro _hg; try (exfalso; omega)))|fail)
 refine bC (X:=Nat × List α) (fun x=>[(0,.msl b n 1 0 n),(1,.int .i64 a),(2,.int .i64 e),(3,.func g caps),(8,.int .i64 (i:Nat)),(9,.int .i64 (x.1:Nat))]) (fun x H' nxx=>a ≤ x.1∧x.1 ≤ i∧H'=aq H b (x.2.map f)∧nxx=nx'∧PermR a e L x.2∧gy K a i x.1 x.2) (fun x=>x.1) (i,M0) ⟨by omega,aP _,rfl,rfl,hp0,.start hs0⟩ ag0 ?_;clear hp0 hs0 hl0;rintro ⟨j,M⟩ H' nxx ⟨a1,a2,rfl,rfl,hp,hal⟩;dsimp only at *;have hl:M.length=n:=by rw [hp.len,hn]
 have hGM:=hp.mem hG;by_cases hja:j=a
 ·subst hja
  repeat' (first|refine zW ?_|refine zM ?_|apply a_n|apply a_x|refine zO ?_|refine vZ ?_|refine gFZ ?_|(refine zGZ ?_ ?_ <;> (intro _hg; try (exfalso; omega)))|refine cFZ ?_|fail)
  exact ⟨(i + 1,M),by dsimp only; omega,⟨by dsimp only; omega,.inl (by dsimp only; omega),rfl,rfl,hp,hal.done hc.ord (.inl rfl)⟩,ag0⟩
 ·obtain ⟨k,rfl⟩:∃ k,j=k + 1:=⟨j - 1,by omega⟩
  have tj:((k + 1:Nat):Int) - 1=(k:Int):=by omega
  have lc:=hc.run (M.getD (k + 1) default) (M.getD k default) (hGM _ (ba (by omega))) (hGM _ (ba (by omega)));have d1:=hc.dat (M.getD (k + 1) default);have d2:=hc.dat (M.getD k default);have dcap:=hc.dcaps;generalize hKK:K (M.getD (k + 1) default) (M.getD k default)=kk at lc;by_cases hlt:kk < 0
  ·obtain ⟨M1,hl1,lm1,lm2⟩:∃ M1:List α,M1.length=n∧bK (M.map f) (k + 1) [f (M.getD k default)]=M1.map f∧bK (M1.map f) k [f (M.getD (k + 1) default)]=(swp M (k + 1) k).map f :=
     ⟨M.set (k + 1) (M.getD k default),by simp [hl],l8 (by omega),by rw [l8 (by simp; omega)]; rfl⟩
   have lm3:=lm2;simp only [bK,bN,fL,cb] at lm1 lm2;have zz:=aI @tj (aI @cQ (aI @lm1 (aI @lm2 (aI hc.cells hc.one)))); repeat' (first|refine zW ?_|refine zM ?_|apply a_n|refine zO ?_|refine vZ ?_|refine cZ ?_ (hp:=lc) (hs:=by (first | refine af ?_ rfl | apply ag); (repeat' (first | exact ac | apply an | apply ah | exact d1 | exact d2 | exact bd dcap)); first | done | fail)|refine stZ ?_|refine gTZ ?_|(refine zGZ ?_ ?_ <;> (intro _hg; try (exfalso; omega)))|fail)
   refine ⟨(k,swp M (k + 1) k),by dsimp only; omega,⟨by dsimp only; omega,by dsimp only; omega,?_,rfl,hp.trans (PermR.swap (by omega) (by omega) (by omega)),hal.step hc.ord (by omega) (by omega) (by omega) (by rw [hKK]; exact hlt)⟩,(have zz:=@tj; agZ)⟩;dsimp only;rw [a7,a7,lm3]
  ·have zz:=aI @tj (aI @cQ (aI hc.cells hc.one)); repeat' (first|refine zW ?_|refine zM ?_|apply a_n|apply a_x|refine zO ?_|refine vZ ?_|refine cZ ?_ (hp:=lc) (hs:=by (first | refine af ?_ rfl | apply ag); (repeat' (first | exact ac | apply an | apply ah | exact d1 | exact d2 | exact bd dcap)); first | done | fail)|refine gTZ ?_|(refine zGZ ?_ ?_ <;> (intro _hg; try (exfalso; omega)))|fail)
   exact ⟨(i + 1,M),by dsimp only; omega,⟨by dsimp only; omega,.inl (by dsimp only; omega),rfl,rfl,hp,hal.done hc.ord (.inr ⟨by omega,by rw [qF,hKK]; exact hlt⟩)⟩,ag0⟩
end
end Go.Proofs.YtlodfaaceehfmaaGreat
namespace Go.Proofs.YtlodfaaceehfmaaGreat
open Go Go.Abs
def Kid (p c:Nat):Prop:=c=2 * p + 1 ∨ c=2 * p + 2
def hJ {α:Type} [Inhabited α] (K:α→α→Int) (a hi r:Nat) (M:List α):Prop:=∀ p c,r ≤ p→Kid p c→c < hi→¬ K (M.getD (a + p) default) (M.getD (a + c) default) < 0
structure SiftR {α:Type} [Inhabited α] (K:α→α→Int) (a hi lo root:Nat) (M:List α):Prop where
 le:lo ≤ root
 heap:∀ p c,lo ≤ p→p ≠ root→Kid p c→c < hi→¬ K (M.getD (a + p) default) (M.getD (a + c) default) < 0
 up:∀ q c,lo ≤ q→Kid q root→Kid root c→c < hi→¬ K (M.getD (a + q) default) (M.getD (a + c) default) < 0
section
variable {α:Type} [Inhabited α] {f:α→AV} {K:α→α→Int} {G:α→Prop} {g:Nat} {caps:List AV}
theorem SiftR.start {a hi lo:Nat} {M:List α} (h:hJ K a hi (lo + 1) M):SiftR K a hi lo lo M :=
 ⟨aP _,fun p c h1 h2=>h p c (by omega),fun q c h1 h2=>by unfold Kid at h2; omega⟩
theorem SiftR.leaf {a hi lo root:Nat} {M:List α} (h:SiftR K a hi lo root M) (hr:hi ≤ 2 * root + 1):hJ K a hi lo M:=fun p c h1 h2 h3=>by
 by_cases e:p=root
 ·subst e; unfold Kid at h2; omega
 ·exact h.heap p c h1 e h2 h3
theorem SiftR.stop {a hi lo root c:Nat} {M:List α} (hK:Ord K) (h:SiftR K a hi lo root M) (hb:∀ d,Kid root d→d < hi→¬ K (M.getD (a + c) default) (M.getD (a + d) default) < 0) (hn:¬ K (M.getD (a + root) default) (M.getD (a + c) default) < 0):hJ K a hi lo M:=fun p d h1 h2 h3=>by
 by_cases e:p=root
 ·subst e; exact hK.negtr _ _ _ (hb d h2 h3) hn
 ·exact h.heap p d h1 e h2 h3
theorem SiftR.step {a hi lo root c:Nat} {M:List α} (hK:Ord K) (h:SiftR K a hi lo root M) (hkid:Kid root c) (hc:c < hi) (hM:a + hi ≤ M.length) (hb:∀ d,Kid root d→d < hi→¬ K (M.getD (a + c) default) (M.getD (a + d) default) < 0) (hn:K (M.getD (a + root) default) (M.getD (a + c) default) < 0):SiftR K a hi lo c (swp M (a + root) (a + c)):=by
 have hrc:root < c:=by unfold Kid at hkid; omega
 have hg:∀ k,(swp M (a + root) (a + c)).getD (a + k) default=if k=c then M.getD (a + root) default else if k=root then M.getD (a + c) default else M.getD (a + k) default:=fun k=>by
  rw [eO (by omega) (by omega)];by_cases e:k=c
  ·rw [if_pos (by omega),if_pos e]
  ·rw [if_neg (by omega),if_neg e];by_cases e2:k=root
   ·rw [if_pos (by omega),if_pos e2]
   ·rw [if_neg (by omega),if_neg e2]
 refine ⟨by have:=h.le; omega,fun p d h1 h2 h3 h4=>?_,fun q d h1 h2 h3 h4=>?_⟩
 ·rw [hg,hg,if_neg h2];by_cases e1:p=root
  ·rw [if_pos e1];subst e1;by_cases e2:d=c
   ·rw [if_pos e2]; exact hK.asym _ _ hn
   ·rw [if_neg e2,if_neg (by unfold Kid at h3; omega)]; exact hb d h3 h4
  ·rw [if_neg e1];have hdc:d ≠ c:=fun e=>by subst e; unfold Kid at h3 hkid; omega
   rw [if_neg hdc];by_cases e2:d=root
   ·rw [if_pos e2]; subst e2; exact h.up p c h1 h3 hkid hc
   ·rw [if_neg e2]; exact h.heap p d h1 e1 h3 h4
 ·have eq:q=root:=by unfold Kid at h2 hkid; omega
  subst eq;rw [hg,hg,if_neg (by omega),if_pos rfl,if_neg (by unfold Kid at h3; omega),if_neg (by unfold Kid at h3; omega)];exact h.heap c d (by omega) (by omega) h3 h4
theorem dZ {M:List α} {i j:Nat} (hi:i < M.length) (hj:j < M.length):∃ M1:List α,M1.length=M.length∧bK (M.map f) i [f (M.getD j default)]=M1.map f∧bK (M1.map f) j [f (M.getD i default)]=(swp M i j).map f :=
 ⟨M.set i (M.getD j default),by simp,l8 hi,by rw [l8 (by simpa using hj)]; rfl⟩
theorem gj {a c:Nat}:((a:Int) + (c:Int)).toNat=a + c:=by omega
theorem pX {a c:Nat}:((a:Int) + (c:Int) + 1).toNat=a + (c + 1):=by omega
attribute [local irreducible] aM am bm be aX a6 aG aZ bf bI Go.Abs.Fn bc Go.Abs.Pure aB aQ Yl
theorem ET (hc:Cmp Tryz.prog f K G g caps) {L:List α} {H:Hp} {b nx n a lo hi:Nat} (hH:H b=some (L.map f)) (hn:L.length=n) (hG:∀ x ∈ L,G x) (hhi:a + hi ≤ n) (hn2:n ≤ 1000000000) (hlo:lo ≤ n) (hheap:hJ K a hi (lo + 1) L) :
    Abs.Fn Tryz.prog 118 [.msl b n 1 0 n,.int .i64 lo,.int .i64 hi,.int .i64 a,.func g caps] H nx fun r H' nx'=>nx'=nx∧∃ L',H'=aq H b (L'.map f)∧PermR a (a + hi) L L'∧hJ K a hi lo L':=by
 refine Abs.Fn.of_c2 follows Jf (br rfl) ?_;simp only [HV,aU]
 repeat' (first|refine zW ?_|apply a_n|refine zO ?_|refine vZ ?_|fail)
 refine bC (X:=Nat × List α) (fun x=>[(0,.msl b n 1 0 n),(2,.int .i64 hi),(3,.int .i64 a),(4,.func g caps),(10,.int .i64 (x.1:Nat))]) (fun x H' nx'=>x.1 ≤ n∧H'=aq H b (x.2.map f)∧nx'=nx∧PermR a (a + hi) L x.2∧SiftR K a hi lo x.1 x.2) (fun x=>n + 1 - x.1) (lo,L) ⟨hlo,mF hH,rfl,.refl,.start hheap⟩ ag0 ?_;rintro ⟨root,M⟩ H' nx' ⟨h0,rfl,rfl,hp,hs⟩;dsimp only at *;have hl:M.length=n:=by rw [hp.len,hn]
 have hGM:=hp.mem hG;by_cases hch:2 * root + 1 < hi
 rotate_left
 ·repeat' (first|refine zW ?_|apply a_n|apply a_x|refine zO ?_|refine vZ ?_|(refine zGZ ?_ ?_ <;> (intro _hg; try (exfalso; omega)))|refine ak rfl ?_|fail)
  exact ⟨rfl,M,rfl,hp,hs.leaf (by omega)⟩
 have dcap:=hc.dcaps;have tch:(2:Int) * (root:Int) + 1=((2 * root + 1:Nat):Int):=by omega
 have tch2:((2 * root + 1:Nat):Int) + 1=((2 * root + 1 + 1:Nat):Int):=by omega
 have w1:IntKind.wrap .i64 (2 * (root:Int))=2 * (root:Int):=v8 (by omega) (by omega)
 obtain ⟨c,hkid,hchi,hbest,hsel⟩:∃ c,Kid root c∧c < hi∧(∀ d,Kid root d→d < hi→¬ K (M.getD (a + c) default) (M.getD (a + d) default) < 0)∧((c=2 * root + 1 + 1∧K (M.getD (a + (2 * root + 1)) default) (M.getD (a + (2 * root + 1 + 1)) default) < 0) ∨ (c=2 * root + 1∧(2 * root + 1 + 1 < hi→¬ K (M.getD (a + (2 * root + 1)) default) (M.getD (a + (2 * root + 1 + 1)) default) < 0))):=by
  by_cases h2:2 * root + 1 + 1 < hi∧K (M.getD (a + (2 * root + 1)) default) (M.getD (a + (2 * root + 1 + 1)) default) < 0
  ·refine ⟨2 * root + 1 + 1,.inr rfl,h2.1,fun d hd hd2=>?_,.inl ⟨rfl,h2.2⟩⟩;rcases hd with rfl | rfl
   ·exact hc.ord.asym _ _ h2.2
   ·exact hc.ord.irr _
  ·refine ⟨2 * root + 1,.inl rfl,hch,fun d hd hd2=>?_,.inr ⟨rfl,fun h h3=>h2 ⟨h,h3⟩⟩⟩;rcases hd with rfl | rfl
   ·exact hc.ord.irr _
   ·exact fun h3=>h2 ⟨hd2,h3⟩
 have lc2:=hc.run (M.getD (a + root) default) (M.getD (a + c) default) (hGM _ (ba (by omega))) (hGM _ (ba (by omega)));have e1:=hc.dat (M.getD (a + root) default);have e2:=hc.dat (M.getD (a + c) default);generalize hK2:K (M.getD (a + root) default) (M.getD (a + c) default)=k2 at lc2;refine iX ?_;refine cr (fun T H'' nx''=>T 0=.msl b n 1 0 n∧T 2=.int .i64 hi∧T 3=.int .i64 a∧T 4=.func g caps∧T 10=.int .i64 (root:Nat)∧T 11=.int .i64 ((2 * root + 1:Nat):Int)∧H''=aq H b (M.map f)∧nx'=nx'') ?_ ?_
 ·have zz:=aI @w1 @tch; repeat' (first|apply a_n|refine zO ?_|refine vZ ?_|fail)
  exact ⟨rfl,rfl,rfl,rfl,rfl,rfl,rfl,rfl⟩
 rintro T _ _ ⟨t0,t2,t3,t4,t10,t11,rfl,rfl⟩;refine cr (fun T H'' nx''=>T 0=.msl b n 1 0 n∧T 2=.int .i64 hi∧T 3=.int .i64 a∧T 4=.func g caps∧T 10=.int .i64 (root:Nat)∧T 11=.int .i64 ((2 * root + 1:Nat):Int)∧H''=aq H b (M.map f)∧nx'=nx'') ?_ ?_
 ·have zz:=aI @t0 (aI @t2 (aI @t3 (aI @t4 (aI @t10 @t11)))); repeat' (first|refine zW ?_|apply a_n|refine zO ?_|refine vZ ?_|(refine zGZ ?_ ?_ <;> (intro _hg; try (exfalso; omega)))|fail)
  all_goals exact ⟨(have zz:=@t0; evZ),(have zz:=@t2; evZ),(have zz:=@t3; evZ),(have zz:=@t4; evZ),(have zz:=@t10; evZ),(have zz:=@t11; evZ),rfl,rfl⟩
 clear t0 t2 t3 t4 t10 t11;rintro T _ _ ⟨t0,t2,t3,t4,t10,t11,rfl,rfl⟩;refine cr (fun T H'' nx''=>T 0=.msl b n 1 0 n∧T 2=.int .i64 hi∧T 3=.int .i64 a∧T 4=.func g caps∧T 10=.int .i64 (root:Nat)∧T 11=.int .i64 (c:Nat)∧H''=aq H b (M.map f)∧nx'=nx'') ?_ ?_
 ·by_cases h2:2 * root + 1 + 1 < hi
  ·have lc1:=hc.run (M.getD (a + (2 * root + 1)) default) (M.getD (a + (2 * root + 1 + 1)) default) (hGM _ (ba (by omega))) (hGM _ (ba (by omega)));have e3:=hc.dat (M.getD (a + (2 * root + 1)) default);have e4:=hc.dat (M.getD (a + (2 * root + 1 + 1)) default);generalize hK1:K (M.getD (a + (2 * root + 1)) default) (M.getD (a + (2 * root + 1 + 1)) default)=k1 at lc1 hsel;have hlt:decide (((2 * root + 1 + 1:Nat):Int) < (hi:Int))=true:=bt (by omega);generalize 2 * root + 1=ch at *;rcases hsel with ⟨rfl,hk1⟩ | ⟨rfl,hk1⟩
   ·have zz:=aI @t0 (aI @t2 (aI @t3 (aI @t4 (aI @t10 (aI @t11 (aI @tch2 (aI @hlt (aI @gj (aI @pX (aI hc.cells hc.one)))))))))); repeat' (first|refine zW ?_|refine zM ?_|apply a_n|refine zO ?_|refine vZ ?_|refine cZ ?_ (hp:=lc1) (hs:=by (first | refine af ?_ rfl | apply ag); (repeat' (first | exact ac | apply an | apply ah | exact e3 | exact e4 | exact bd dcap)); first | done | fail)|refine gTZ ?_|(refine zGZ ?_ ?_ <;> (intro _hg; try (exfalso; omega)))|fail)
    all_goals exact ⟨(have zz:=@t0; evZ),(have zz:=@t2; evZ),(have zz:=@t3; evZ),(have zz:=@t4; evZ),(have zz:=@t10; evZ),(have zz:=@t11; evZ),rfl,rfl⟩
   ·have hk1:=hk1 h2;have zz:=aI @t0 (aI @t2 (aI @t3 (aI @t4 (aI @t10 (aI @t11 (aI @tch2 (aI @hlt (aI @gj (aI @pX (aI hc.cells hc.one)))))))))); repeat' (first|refine zW ?_|refine zM ?_|apply a_n|refine zO ?_|refine vZ ?_|refine cZ ?_ (hp:=lc1) (hs:=by (first | refine af ?_ rfl | apply ag); (repeat' (first | exact ac | apply an | apply ah | exact e3 | exact e4 | exact bd dcap)); first | done | fail)|refine gTZ ?_|(refine zGZ ?_ ?_ <;> (intro _hg; try (exfalso; omega)))|fail)
    all_goals exact ⟨(have zz:=@t0; evZ),(have zz:=@t2; evZ),(have zz:=@t3; evZ),(have zz:=@t4; evZ),(have zz:=@t10; evZ),(have zz:=@t11; evZ),rfl,rfl⟩
  ·have hlt:decide (((2 * root + 1 + 1:Nat):Int) < (hi:Int))=false:=bj (by omega)
   have hcc:c=2 * root + 1:=by
    rcases hsel with ⟨rfl,_⟩ | ⟨rfl,_⟩
    ·omega
    ·rfl
   subst hcc;have zz:=aI @t0 (aI @t2 (aI @t3 (aI @t4 (aI @t10 (aI @t11 (aI @tch2 @hlt)))))); repeat' (first|refine zW ?_|refine zM ?_|apply a_n|refine zO ?_|refine vZ ?_|refine gFZ ?_|refine cFZ ?_|fail)
   all_goals exact ⟨(have zz:=@t0; evZ),(have zz:=@t2; evZ),(have zz:=@t3; evZ),(have zz:=@t4; evZ),(have zz:=@t10; evZ),(have zz:=@t11; evZ),rfl,rfl⟩
 clear t0 t2 t3 t4 t10 t11 hsel;rintro T _ _ ⟨t0,t2,t3,t4,t10,t11,rfl,rfl⟩;by_cases hk2:k2 < 0
 ·obtain ⟨M1,hl1,lm1,lm2⟩:=dZ (f:=f) (M:=M) (i:=a + root) (j:=a + c) (by omega) (by omega);have lm3:=lm2;simp only [bK,bN,fL,cb] at lm1 lm2;have zz:=aI @t0 (aI @t2 (aI @t3 (aI @t4 (aI @t10 (aI @t11 (aI @gj (aI @lm1 (aI @lm2 (aI hc.cells hc.one))))))))); repeat' (first|refine zW ?_|refine zM ?_|apply a_n|refine zO ?_|refine vZ ?_|refine cZ ?_ (hp:=lc2) (hs:=by (first | refine af ?_ rfl | apply ag); (repeat' (first | exact ac | apply an | apply ah | exact e1 | exact e2 | exact bd dcap)); first | done | fail)|refine stZ ?_|(refine zGZ ?_ ?_ <;> (intro _hg; try (exfalso; omega)))|fail)
  have hrc:root < c:=by unfold Kid at hkid; omega
  have hcn:c < n:=by omega
  refine ⟨(c,swp M (a + root) (a + c)),by dsimp only; omega,⟨by dsimp only; omega,?_,rfl,hp.trans (PermR.swap (by omega) (by omega) (by omega)),hs.step hc.ord hkid hchi (by omega) hbest (by rw [hK2]; exact hk2)⟩,(have zz:=aI @t0 (aI @t2 (aI @t3 @t4)); agZ)⟩;dsimp only;rw [a7,a7,lm3]
 ·have zz:=aI @t0 (aI @t2 (aI @t3 (aI @t4 (aI @t10 (aI @t11 (aI @gj (aI hc.cells hc.one))))))); repeat' (first|refine zW ?_|refine zM ?_|apply a_n|apply a_r|refine zO ?_|refine vZ ?_|refine cZ ?_ (hp:=lc2) (hs:=by (first | refine af ?_ rfl | apply ag); (repeat' (first | exact ac | apply an | apply ah | exact e1 | exact e2 | exact bd dcap)); first | done | fail)|(refine zGZ ?_ ?_ <;> (intro _hg; try (exfalso; omega)))|refine ak rfl ?_|fail)
  exact ⟨rfl,M,rfl,hp,hs.stop hc.ord hbest (by rw [hK2]; exact hk2)⟩
end
end Go.Proofs.YtlodfaaceehfmaaGreat
namespace Go.Proofs.YtlodfaaceehfmaaGreat
open Go Go.Abs
open Nat (reduceEqDiff reduceAdd reduceLeDiff)
section
variable {α:Type} [Inhabited α] {f:α→AV} {K:α→α→Int} {G:α→Prop} {g:Nat} {caps:List AV}
theorem hJ.top {a hi:Nat} {M:List α} (hK:Ord K) (h:hJ K a hi 0 M):∀ p,p < hi→¬ K (M.getD a default) (M.getD (a + p) default) < 0:=by
 intro p
 induction p using Nat.strongRecOn with
 | ind p ih =>
  intro hp;by_cases e:p=0
  ·subst e; exact hK.irr _
  ·have k:Kid ((p - 1) / 2) p:=by unfold Kid; omega
   exact hK.negtr _ _ _ (h _ p (cf _) k hp) (ih ((p - 1) / 2) (by omega) (by omega))
structure TailR {α:Type} [Inhabited α] (K:α→α→Int) (a e k:Nat) (M:List α):Prop where
 sort:bv K k e M
 ge:∀ p q,a ≤ p→p < k→k ≤ q→q < e→¬ K (M.getD q default) (M.getD p default) < 0
theorem TailR.step {a e k:Nat} {M N:List α} (hK:Ord K) (ht:TailR K a e (a + (k + 1)) M) (hh:hJ K a (k + 1) 0 M) (he:a + (k + 1) ≤ e) (hM:e ≤ M.length) (hp:PermR a (a + k) (swp M a (a + k)) N):TailR K a e (a + k) N:=by
 have hg:∀ j,(swp M a (a + k)).getD j default=if j=a + k then M.getD a default else if j=a then M.getD (a + k) default else M.getD j default:=fun j=>eO (by omega) (by omega) j
 have hmax:=hh.top hK
 have lo:∀ q,a + k ≤ q→q < e→∀ p,a ≤ p→p < a + k→¬ K (N.getD q default) (N.getD p default) < 0:=by
  intro q h1 h2;rw [hp.out q (.inr h1),hg];have hl:(swp M a (a + k)).length=M.length:=AW _ _;refine hp.all (p:=fun x=>¬ K (if q=a + k then M.getD a default else if q=a then M.getD (a + k) default else M.getD q default) x < 0) (by omega) (by omega) ?_;intro p k1 k2;rw [hg,if_neg (by omega:¬ p=a + k)];by_cases e1:q=a + k
  ·rw [if_pos e1];by_cases e2:p=a
   ·rw [if_pos e2]; exact hmax k (by omega)
   ·rw [if_neg e2];have:=hmax (p - a) (by omega);rw [show a + (p - a)=p by omega] at this;exact this
  ·rw [if_neg e1,if_neg (by omega:¬ q=a)];by_cases e2:p=a
   ·rw [if_pos e2]; exact ht.ge (a + k) q (by omega) (by omega) (by omega) h2
   ·rw [if_neg e2]; exact ht.ge p q k1 (by omega) (by omega) h2
 refine ⟨fun p q h1 h2 h3=>?_,fun p q h1 h2 h3 h4=>lo q h3 h4 p h1 h2⟩;rw [hp.out p (.inr h1),hp.out q (.inr (by omega)),hg,hg,if_neg (by omega:¬ q=a + k),if_neg (by omega:¬ q=a)];by_cases e1:p=a + k
 ·rw [if_pos e1]; exact ht.ge a q (aP _) (by omega) (by omega) h3
 ·rw [if_neg e1,if_neg (by omega:¬ p=a)]; exact ht.sort p q (by omega) h2 h3
theorem hJ.swapTop {a k:Nat} {M:List α} (h:hJ K a (k + 1) 0 M) (hM:a + (k + 1) ≤ M.length):hJ K a k 1 (swp M a (a + k)):=by
 intro p c h1 h2 h3;have hg:∀ j,(swp M a (a + k)).getD j default=if j=a + k then M.getD a default else if j=a then M.getD (a + k) default else M.getD j default:=fun j=>eO (by omega) (by omega) j
 have:p < c:=by unfold Kid at h2; omega
 rw [hg,hg,if_neg (by omega),if_neg (by omega),if_neg (by omega),if_neg (by omega)];exact h p c (cf _) h2 (by omega)
theorem TailR.start {a e:Nat} {M:List α}:TailR K a e e M:=⟨fun p q h1 h2 h3=>by omega,fun p q h1 h2 h3 h4=>by omega⟩
theorem TailR.done {a e:Nat} {M:List α} (h:TailR K a e a M):bv K a e M:=h.sort
theorem hJ.start {a hi r:Nat} {M:List α} (hr:hi ≤ 2 * r + 1):hJ K a hi r M:=fun p c h1 h2 h3=>by unfold Kid at h2; omega
attribute [local irreducible] aM am bm be aX a6 aG aZ bf bI Go.Abs.Fn bc Go.Abs.Pure aB aQ Yl
theorem GX (hc:Cmp Tryz.prog f K G g caps) {L:List α} {H:Hp} {b nx n a e:Nat} (hH:H b=some (L.map f)) (hn:L.length=n) (hG:∀ x ∈ L,G x) (hae:a ≤ e) (hen:e ≤ n) (hn2:n ≤ 1000000000) :
    Abs.Fn Tryz.prog 98 [.msl b n 1 0 n,.int .i64 a,.int .i64 e,.func g caps] H nx fun r H' nx'=>nx'=nx∧∃ L',H'=aq H b (L'.map f)∧PermR a e L L'∧bv K a e L':=by
 obtain ⟨h,rfl⟩:∃ h,e=a + h:=⟨e - a,by omega⟩
 refine Abs.Fn.of_c2 follows Ku (br rfl) ?_;simp only [b98,aU];have dcap:=hc.dcaps;have te:((a + h:Nat):Int) - (a:Int)=(h:Int):=by omega
 obtain ⟨r,tr,hr,hrn⟩:∃ r:Nat,bh .quo false false (.int .i64 ((h:Int) - 1)) (.int .i64 2)=some (.int .i64 (r:Int))∧h ≤ 2 * (r + 1) + 1∧r ≤ h:=by
  rcases yV h with e | e
  ·subst e; exact ⟨0,rfl,by omega,by omega⟩
  ·refine ⟨(h - 1) / 2,?_,by omega,by omega⟩;rw [oo (by omega) (by omega) (by omega)]
   congr 2
   omega
 have zz:=aI @te @tr; repeat' (first|refine zW ?_|apply a_n|refine zO ?_|refine vZ ?_|fail)
 refine bC (X:=Nat × List α) (fun x=>[(0,.msl b n 1 0 n),(1,.int .i64 a),(3,.func g caps),(8,.int .i64 a),(9,.int .i64 0),(10,.int .i64 h),(11,.int .i64 ((x.1:Nat) - 1))]) (fun x H' nxx=>x.1 ≤ n + 1∧H'=aq H b (x.2.map f)∧nx=nxx∧PermR a (a + h) L x.2∧hJ K a h x.1 x.2) (fun x=>x.1) (r + 1,L) ⟨by dsimp only; omega,mF hH,rfl,.refl,hJ.start (by dsimp only; omega)⟩ (by simp (disch:=omega) only [agr,ZG,reduceEqDiff,↓reduceIte,Int.add_sub_cancel]) ?_;rintro ⟨i,M⟩ H' nxx ⟨h1,rfl,rfl,hp,hh⟩;dsimp only at *;have hl:M.length=n:=by rw [hp.len,hn]
 have hGM:=hp.mem hG;rcases yV i with e | e
 ·subst e
  repeat' (first|refine zW ?_|apply a_n|apply a_x|refine zO ?_|refine vZ ?_|(refine zGZ ?_ ?_ <;> (intro _hg; try (exfalso; omega)))|fail)
  clear zz;clear hGM;refine bC (X:=Nat × List α) (fun x=>[(0,.msl b n 1 0 n),(3,.func g caps),(8,.int .i64 a),(9,.int .i64 0),(12,.int .i64 ((x.1:Nat) - 1))]) (fun x H' nxx'=>x.1 ≤ h∧H'=aq H b (x.2.map f)∧nx=nxx'∧PermR a (a + h) L x.2∧hJ K a x.1 0 x.2∧TailR K a (a + h) (a + x.1) x.2) (fun x=>x.1) (h,M) ⟨aP _,rfl,rfl,hp,hh,.start⟩ (by simp (disch:=omega) only [agr,ZG,reduceEqDiff,↓reduceIte,Int.add_sub_cancel]) ?_;clear hp hh hl;rintro ⟨i,M⟩ H' nxx ⟨h1,rfl,rfl,hp,hh,ht⟩;dsimp only at *;have hl:M.length=n:=by rw [hp.len,hn]
  have hGM:=hp.mem hG;rcases yV i with e | e
  ·subst e
   repeat' (first|refine zW ?_|apply a_n|apply a_x|refine zO ?_|refine vZ ?_|(refine zGZ ?_ ?_ <;> (intro _hg; try (exfalso; omega)))|refine ak rfl ?_|fail)
   exact ⟨rfl,M,rfl,hp,ht.done⟩
  ·obtain ⟨k,rfl⟩:∃ k,i=k + 1:=⟨i - 1,by omega⟩
   have tj:((k + 1:Nat):Int) - 1=(k:Int):=by omega
   obtain ⟨M1,hl1,lm1,lm2⟩:=dZ (f:=f) (M:=M) (i:=a) (j:=a + k) (by omega) (by omega);have lm3:=lm2;simp only [bK,bN,fL,cb] at lm1 lm2;have hp1:PermR a (a + h) L (swp M a (a + k)):=hp.trans (PermR.swap (by omega) (by omega) (by omega));have hsl:(swp M a (a + k)).length=n:=by rw [hp1.len,hn]
   have zz:=aI @tj (aI @gj (aI @lm1 (aI @lm2 (aI hc.cells hc.one)))); repeat' (first|refine zW ?_|apply a_n|refine zO ?_|refine vZ ?_|refine stZ ?_|(refine zGZ ?_ ?_ <;> (intro _hg; try (exfalso; omega)))|fail)
   refine bn ev0 (have zz:=aI @tj @Int.natCast_zero; evZ) (ET hc (b:=b) (L:=swp M a (a + k)) (a:=a) (lo:=0) (hi:=k) (by rw [a7,a7,ai,← lm3]) hsl (hp1.mem hG) (by omega) (by omega) (by omega) (hh.swapTop (by omega))) ?_;rintro _ _ _ ⟨rfl,N,rfl,hpN,hhN⟩;clear zz;have zz:=@tj; repeat' (first|apply a_n|refine zO ?_|refine vZ ?_|fail)
   exact ⟨(k,N),by dsimp only; omega,⟨by dsimp only; omega,by dsimp only; rw [a7,a7,a7],rfl,hp1.trans (hpN.mono (aP _) (by omega)),hhN,ht.step hc.ord hh (by omega) (by omega) hpN⟩,ag0⟩
 ·obtain ⟨k,rfl⟩:∃ k,i=k + 1:=⟨i - 1,by omega⟩
  have tj:((k + 1:Nat):Int) - 1=(k:Int):=by omega
  clear zz;have zz:=@tj; repeat' (first|refine zW ?_|apply a_n|refine zO ?_|refine vZ ?_|(refine zGZ ?_ ?_ <;> (intro _hg; try (exfalso; omega)))|fail)
  refine bn ev0 ev0 (ET hc (L:=M) (a:=a) (lo:=k) (hi:=h) ai hl hGM (by omega) (by omega) (by omega) hh) ?_;rintro _ _ _ ⟨rfl,N,rfl,hpN,hhN⟩;clear zz;have zz:=@tj; repeat' (first|apply a_n|refine zO ?_|refine vZ ?_|fail)
  exact ⟨(k,N),by dsimp only; omega,⟨by dsimp only; omega,by dsimp only; rw [a7],rfl,hp.trans hpN,hhN⟩,ag0⟩
end
end Go.Proofs.YtlodfaaceehfmaaGreat
namespace Go.Proofs.YtlodfaaceehfmaaGreat
open Go Go.Abs
section
variable {α:Type} [Inhabited α] {f:α→AV} {K:α→α→Int} {G:α→Prop} {g:Nat} {caps:List AV}
def HY:AV→Option AV
 | .ptr b n o=>some (.ptr b n o)
 | .iptr c o=>some (.iptr c o)
 | .func f c=>some (.func f c)
 | _=>none
theorem SV3:(∀ (T:Tm) (H:Hp) (x:Opd),bu T H (.nilck x)=HY (ov T x))∧(∀ b n o:Nat,HY (.ptr b n o)=some (.ptr b n o)):=⟨fun T H x=>by
 simp only [bu];cases ov T x <;> rfl,fun _ _ _=>rfl⟩
attribute [local irreducible] aM am bm be aX a6 aG aZ bf bI Go.Abs.Fn bc Go.Abs.Pure aB aQ Yl
theorem Ip (hc:Cmp Tryz.prog f K G g caps) {L:List α} {H:Hp} {b nx n a e:Nat} (hH:H b=some (L.map f)) (hn:L.length=n) (hae:a < e) (hen:e ≤ n) (hn2:n ≤ 1000000000) :
    Abs.Fn Tryz.prog 101 [.msl b n 1 0 n,.int .i64 a,.int .i64 e,.func g caps] H nx fun r H' nx'=>nx'=nx∧∃ L',H'=aq H b (L'.map f)∧PermR a e L L':=by
 obtain ⟨m,rfl⟩:∃ m,e=m + 1:=⟨e - 1,by omega⟩
 have te:((m + 1:Nat):Int) - 1=(m:Int):=by omega
 refine Abs.Fn.of_c2 follows IJ (br rfl) ?_;simp only [IU,aU];have zz:=@te; repeat' (first|refine zW ?_|apply a_n|refine zO ?_|refine vZ ?_|fail)
 refine bC (X:=Nat × Nat × List α) (fun x=>[(0,.msl b n 1 0 n),(8,.int .i64 (x.1:Nat)),(9,.int .i64 (x.2.1:Nat))]) (fun x H' nxx=>a ≤ x.1∧x.2.1 ≤ m∧H'=aq H b (x.2.2.map f)∧nx=nxx∧PermR a (m + 1) L x.2.2) (fun x=>x.2.1) (a,m,L) ⟨aP _,aP _,mF hH,rfl,.refl⟩ ag0 ?_;rintro ⟨i,j,M⟩ H' nxx ⟨h1,h2,rfl,rfl,hp⟩;dsimp only at *;have hl:M.length=n:=by rw [hp.len,hn]
 by_cases hij:i < j
 ·obtain ⟨k,rfl⟩:∃ k,j=k + 1:=⟨j - 1,by omega⟩
  have tj:((k + 1:Nat):Int) - 1=(k:Int):=by omega
  have ti:((i:Nat):Int) + 1=((i + 1:Nat):Int):=by omega
  obtain ⟨M1,hl1,lm1,lm2⟩:=dZ (f:=f) (M:=M) (i:=i) (j:=k + 1) (by omega) (by omega);have lm3:=lm2;simp only [bK,bN,fL,cb] at lm1 lm2;clear zz;have zz:=aI @tj (aI @ti (aI @lm1 (aI @lm2 (aI hc.cells hc.one)))); repeat' (first|refine zW ?_|apply a_n|refine zO ?_|refine vZ ?_|refine stZ ?_|(refine zGZ ?_ ?_ <;> (intro _hg; try (exfalso; omega)))|fail)
  exact ⟨(i + 1,k,swp M i (k + 1)),by dsimp only; omega,⟨by dsimp only; omega,by dsimp only; omega,by dsimp only; rw [a7,a7,lm3],rfl,hp.trans (PermR.swap (by omega) (by omega) (by omega))⟩,ag0⟩
 ·repeat' (first|refine zW ?_|apply a_n|apply a_x|refine zO ?_|refine vZ ?_|(refine zGZ ?_ ?_ <;> (intro _hg; try (exfalso; omega)))|refine ak rfl ?_|fail)
  exact ⟨rfl,M,rfl,hp⟩
theorem sr (hc:Cmp Tryz.prog f K G g caps) {L:List α} {H:Hp} {b c nx n i j s:Nat} (hH:H b=some (L.map f)) (hcc:H c=some [.int .i64 (s:Nat)]) (hn:L.length=n) (hG:∀ x ∈ L,G x) (hi:i < n) (hj:j < n) (hn2:n ≤ 1000000000) (hs:s ≤ 100) :
    Abs.Fn Tryz.prog 128 [.msl b n 1 0 n,.int .i64 i,.int .i64 j,.ptr c 1 0,.func g caps] H nx fun r H' nx'=>nx'=nx∧∃ i' j' s':Nat,r=.tup [.int .i64 i',.int .i64 j']∧((i'=i∧j'=j) ∨ (i'=j∧j'=i))∧s' ≤ s + 1∧H'=aq H c [.int .i64 s']:=by
 refine Abs.Fn.of_c2 follows Iu (br rfl) ?_;simp only [Jj,aU];have dcap:=hc.dcaps;have lc:=hc.run (L.getD j default) (L.getD i default) (hG _ (ba (by omega))) (hG _ (ba (by omega)));have e1:=hc.dat (L.getD j default);have e2:=hc.dat (L.getD i default);have ts:((s:Nat):Int) + 1=((s + 1:Nat):Int):=by omega
 have ls:∀ x y:AV,bK [x] 0 [y]=[y]:=fun _ _=>rfl;simp only [bK,bN,fL,cb] at ls;generalize hKK:K (L.getD j default) (L.getD i default)=kk at lc;by_cases hlt:kk < 0
 ·have zz:=aI @hH (aI @hcc (aI @cQ (aI hc.cells (aI hc.one (aI @ts (aI @ls @SV3)))))); repeat' (first|refine zW ?_|refine zM ?_|apply a_n|apply a_r|refine zO ?_|refine vZ ?_|refine cZ ?_ (hp:=lc) (hs:=by (first | refine af ?_ rfl | apply ag); (repeat' (first | exact ac | apply an | apply ah | exact e1 | exact e2 | exact bd dcap)); first | done | fail)|refine stZ ?_|(refine zGZ ?_ ?_ <;> (intro _hg; try (exfalso; omega)))|refine ak rfl ?_|refine r2Z ?_|fail)
  exact ⟨rfl,j,i,s + 1,rfl,.inr ⟨rfl,rfl⟩,aP _,rfl⟩
 ·have zz:=aI @hH (aI @hcc (aI @cQ (aI hc.cells hc.one))); repeat' (first|refine zW ?_|refine zM ?_|apply a_n|refine zO ?_|refine vZ ?_|refine cZ ?_ (hp:=lc) (hs:=by (first | refine af ?_ rfl | apply ag); (repeat' (first | exact ac | apply an | apply ah | exact e1 | exact e2 | exact bd dcap)); first | done | fail)|(refine zGZ ?_ ?_ <;> (intro _hg; try (exfalso; omega)))|refine ak rfl ?_|refine r2Z ?_|fail)
  exact ⟨rfl,i,j,s,rfl,.inl ⟨rfl,rfl⟩,Nat.le_succ _,mF hcc⟩
end
end Go.Proofs.YtlodfaaceehfmaaGreat
namespace Go.Proofs.YtlodfaaceehfmaaGreat
open Go Go.Abs
section
variable {α:Type} [Inhabited α] {f:α→AV} {K:α→α→Int} {G:α→Prop} {g:Nat} {caps:List AV}
attribute [local irreducible] aM am bm be aX a6 aG aZ bf bI Go.Abs.Fn bc Go.Abs.Pure aB aQ Yl
theorem r9 (hc:Cmp Tryz.prog f K G g caps) {L:List α} {H:Hp} {b c nx n i j k s lo hi:Nat} (hH:H b=some (L.map f)) (hbc:b ≠ c) (hcc:H c=some [.int .i64 (s:Nat)]) (hn:L.length=n) (hG:∀ x ∈ L,G x) (hi1:lo ≤ i∧i < hi) (hj1:lo ≤ j∧j < hi) (hk1:lo ≤ k∧k < hi) (hhi:hi ≤ n) (hn2:n ≤ 1000000000) (hs:s ≤ 50) :
    Abs.Fn Tryz.prog 122 [.msl b n 1 0 n,.int .i64 i,.int .i64 j,.int .i64 k,.ptr c 1 0,.func g caps] H nx fun r H' nx'=>nx'=nx∧∃ p s':Nat,r=.int .i64 p∧lo ≤ p∧p < hi∧s' ≤ s + 3∧H'=aq H c [.int .i64 s']:=by
 refine Abs.Fn.of_c2 follows I2 (br rfl) ?_;simp only [Il,aU]
 repeat' (first|refine zW ?_|apply a_n|refine zO ?_|refine vZ ?_|fail)
 refine bn ev0 ev0 (sr hc (b:=b) hH hcc hn hG (i:=i) (j:=j) (by omega) (by omega) hn2 (by omega)) ?_;rintro _ _ _ ⟨rfl,i1,j1,s1,rfl,h1,hs1,rfl⟩
 repeat' (first|refine zW ?_|apply a_n|refine zO ?_|refine vZ ?_|fail)
 refine bn ev0 ev0 (sr hc (b:=b) (by rw [ae hbc]; exact hH) ai hn hG (i:=j1) (j:=k) (by omega) (by omega) hn2 (by omega)) ?_;rintro _ _ _ ⟨rfl,j2,k2,s2,rfl,h2,hs2,rfl⟩
 repeat' (first|refine zW ?_|apply a_n|refine zO ?_|refine vZ ?_|fail)
 refine bn ev0 ev0 (sr hc (b:=b) (by rw [a7,ae hbc]; exact hH) ai hn hG (i:=i1) (j:=j2) (by omega) (by omega) hn2 (by omega)) ?_;rintro _ _ _ ⟨rfl,i3,j3,s3,rfl,h3,hs3,rfl⟩
 repeat' (first|refine zW ?_|apply a_n|refine zO ?_|refine vZ ?_|refine ak rfl ?_|refine r1Z ?_|fail)
 exact ⟨rfl,j3,s3,rfl,by omega,by omega,by omega,by rw [a7,a7]⟩
theorem rQ (hc:Cmp Tryz.prog f K G g caps) {L:List α} {H:Hp} {b c nx n i s lo hi:Nat} (hH:H b=some (L.map f)) (hbc:b ≠ c) (hcc:H c=some [.int .i64 (s:Nat)]) (hn:L.length=n) (hG:∀ x ∈ L,G x) (hi1:lo + 1 ≤ i∧i + 1 < hi) (hhi:hi ≤ n) (hn2:n ≤ 1000000000) (hs:s ≤ 50) :
    Abs.Fn Tryz.prog 121 [.msl b n 1 0 n,.int .i64 i,.ptr c 1 0,.func g caps] H nx fun r H' nx'=>nx'=nx∧∃ p s':Nat,r=.int .i64 p∧lo ≤ p∧p < hi∧s' ≤ s + 3∧H'=aq H c [.int .i64 s']:=by
 obtain ⟨m,rfl⟩:∃ m,i=m + 1:=⟨i - 1,by omega⟩
 have t1:((m + 1:Nat):Int) - 1=(m:Int):=by omega
 have t2:((m + 1:Nat):Int) + 1=((m + 1 + 1:Nat):Int):=by omega
 refine Abs.Fn.of_c2 follows Jn (br rfl) ?_;simp only [IO,aU];have zz:=aI @t1 @t2; repeat' (first|refine zW ?_|apply a_n|refine zO ?_|refine vZ ?_|fail)
 refine bn ev0 ev0 (r9 hc (b:=b) hH hbc hcc hn hG (i:=m) (j:=m + 1) (k:=m + 1 + 1) (lo:=lo) (hi:=hi) (by omega) (by omega) (by omega) hhi hn2 hs) ?_;rintro _ _ _ ⟨rfl,p,s1,rfl,h1,h2,hs1,rfl⟩
 repeat' (first|apply a_n|refine zO ?_|refine vZ ?_|refine ak rfl ?_|refine r1Z ?_|fail)
 exact ⟨rfl,p,s1,rfl,h1,h2,hs1,rfl⟩
theorem DH (hc:Cmp Tryz.prog f K G g caps) {L:List α} {H:Hp} {b nx n a e:Nat} (hH:H b=some (L.map f)) (hbx:b < nx) (hn:L.length=n) (hG:∀ x ∈ L,G x) (hae:a + 8 ≤ e) (hen:e ≤ n) (hn2:n ≤ 1000000000) :
    Abs.Fn Tryz.prog 100 [.msl b n 1 0 n,.int .i64 a,.int .i64 e,.func g caps] H nx fun r H' nx'=>nx'=nx + 1∧∃ (p:Nat) (hint:Int) (v:List AV),r=.tup [.int .i64 p,.int .i64 hint]∧a ≤ p∧p < e∧H'=aq H nx v:=by
 obtain ⟨l,rfl⟩:∃ l,e=a + l:=⟨e - a,by omega⟩
 have te:((a + l:Nat):Int) - (a:Int)=(l:Int):=by omega
 obtain ⟨q,hq⟩:∃ q,l / 4=q:=⟨_,rfl⟩
 have tq:bh .quo false false (.int .i64 (l:Int)) (.int .i64 4)=some (.int .i64 (q:Int)):=by
  rw [oo (by omega) (by omega) (by omega)]
  congr 2
  omega
 have w1:(a:Int) + (q:Int) * 1=((a + q:Nat):Int):=by omega
 have w2:(a:Int) + (q:Int) * 2=((a + q * 2:Nat):Int):=by omega
 have w3:(a:Int) + (q:Int) * 3=((a + q * 3:Nat):Int):=by omega
 have hbn:b ≠ nx:=by omega
 refine Abs.Fn.of_c2 follows IH (br rfl) ?_;simp only [II,aU];have last:∀ (s:Nat) (H1:Hp),H1=aq (aq H nx [.int .i64 0]) nx [.int .i64 s]→H1 nx=some [.int .i64 (s:Nat)]:=fun s H1 h=>by rw [h]; exact ai
 have hHn:∀ v,aq H nx v b=some (L.map f):=fun v=>by rw [ae hbn]; exact hH
 by_cases h50:50 ≤ l
 ·have zz:=aI @te (aI @tq (aI @w1 (aI @w2 @w3))); repeat' (first|refine zW ?_|apply a_n|refine zO ?_|refine vZ ?_|refine alZ ?_|(refine zGZ ?_ ?_ <;> (intro _hg; try (exfalso; omega)))|fail)
  refine bn ev0 ev0 (rQ hc (b:=b) (c:=nx) (s:=0) (i:=a + q) (lo:=a) (hi:=a + l) (hHn _) hbn ai hn hG (by omega) (by omega) hn2 (by omega)) ?_;rintro _ _ _ ⟨rfl,p1,s1,rfl,k1,k2,hs1,rfl⟩;rw [a7]
  repeat' (first|refine zW ?_|apply a_n|refine zO ?_|refine vZ ?_|fail)
  refine bn ev0 ev0 (rQ hc (b:=b) (c:=nx) (s:=s1) (i:=a + q * 2) (lo:=a) (hi:=a + l) (hHn _) hbn ai hn hG (by omega) (by omega) hn2 (by omega)) ?_;rintro _ _ _ ⟨rfl,p2,s2,rfl,k3,k4,hs2,rfl⟩;rw [a7]
  repeat' (first|apply a_n|refine zO ?_|refine vZ ?_|fail)
  refine bn ev0 ev0 (rQ hc (b:=b) (c:=nx) (s:=s2) (i:=a + q * 3) (lo:=a) (hi:=a + l) (hHn _) hbn ai hn hG (by omega) (by omega) hn2 (by omega)) ?_;rintro _ _ _ ⟨rfl,p3,s3,rfl,k5,k6,hs3,rfl⟩;rw [a7]
  repeat' (first|apply a_n|refine zO ?_|refine vZ ?_|fail)
  refine bn ev0 ev0 (r9 hc (b:=b) (c:=nx) (s:=s3) (i:=p1) (j:=p2) (k:=p3) (lo:=a) (hi:=a + l) (hHn _) hbn ai hn hG (by omega) (by omega) (by omega) (by omega) hn2 (by omega)) ?_;rintro _ _ _ ⟨rfl,p4,s4,rfl,k7,k8,hs4,rfl⟩;rw [a7]
  repeat' (first|refine zW ?_|apply a_n|refine zO ?_|refine vZ ?_|(refine zGZ ?_ ?_ <;> (intro _hg; try (exfalso; omega)))|refine ak rfl ?_|refine r2Z ?_|fail)
  all_goals exact ⟨rfl,p4,_,_,rfl,by omega,by omega,rfl⟩
 ·have zz:=aI @te (aI @tq (aI @w1 (aI @w2 @w3))); repeat' (first|refine zW ?_|apply a_n|refine zO ?_|refine vZ ?_|refine alZ ?_|(refine zGZ ?_ ?_ <;> (intro _hg; try (exfalso; omega)))|fail)
  refine bn ev0 ev0 (r9 hc (b:=b) (c:=nx) (s:=0) (i:=a + q) (j:=a + q * 2) (k:=a + q * 3) (lo:=a) (hi:=a + l) (hHn _) hbn ai hn hG (by omega) (by omega) (by omega) (by omega) hn2 (by omega)) ?_;rintro _ _ _ ⟨rfl,p4,s4,rfl,k7,k8,hs4,rfl⟩;rw [a7]
  repeat' (first|refine zW ?_|apply a_n|refine zO ?_|refine vZ ?_|(refine zGZ ?_ ?_ <;> (intro _hg; try (exfalso; omega)))|refine ak rfl ?_|refine r2Z ?_|fail)
  all_goals exact ⟨rfl,p4,_,_,rfl,by omega,by omega,rfl⟩
end
end Go.Proofs.YtlodfaaceehfmaaGreat
namespace Go.Proofs.YtlodfaaceehfmaaGreat
open Go Go.Abs
def tQ {α:Type} [Inhabited α] (K:α→α→Int) (a e:Nat) (M:List α):Prop:=∀ q,0 < a→a ≤ q→q < e→¬ K (M.getD q default) (M.getD (a - 1) default) < 0
section
variable {α:Type} [Inhabited α] {f:α→AV} {K:α→α→Int} {G:α→Prop} {g:Nat} {caps:List AV}
theorem tQ.perm {a e:Nat} {L M:List α} (h:tQ K a e L) (hp:PermR a e L M) (hae:a ≤ e) (he:e ≤ L.length):tQ K a e M:=fun q h0 h1 h2=>by
 rw [hp.out (a - 1) (.inl (by omega))];exact hp.all (p:=fun x=>¬ K x (L.getD (a - 1) default) < 0) hae he (fun i k1 k2=>h i h0 k1 k2) q h1 h2
theorem bv.out {a i e:Nat} {L M:List α} (h:bv K a i L) (hp:PermR i e L M):bv K a i M:=fun p q h1 h2 h3=>by
 rw [hp.out p (.inl (by omega)),hp.out q (.inl h3)]; exact h p q h1 h2 h3
theorem bv.snoc {a i:Nat} {M:List α} (hK:Ord K) (h:bv K a i M) (ha:a < i) (hn:¬ K (M.getD i default) (M.getD (i - 1) default) < 0):bv K a (i + 1) M:=fun p q h1 h2 h3=>by
 by_cases e:q=i
 ·subst e;by_cases e2:p=q - 1
  ·rw [e2]; exact hn
  ·exact hK.negtr _ _ _ (h p (q - 1) h1 (by omega) (by omega)) hn
 ·exact h p q h1 h2 (by omega)
attribute [local irreducible] aM am bm be aX a6 aG aZ bf bI Go.Abs.Fn bc Go.Abs.Pure aB aQ Yl
theorem CI (hc:Cmp Tryz.prog f K G g caps) {L:List α} {H:Hp} {b nx n a e:Nat} (hH:H b=some (L.map f)) (hn:L.length=n) (hG:∀ x ∈ L,G x) (hae:a < e) (hen:e ≤ n) (hn2:n ≤ 1000000000) (hlow:tQ K a e L) :
    Abs.Fn Tryz.prog 102 [.msl b n 1 0 n,.int .i64 a,.int .i64 e,.func g caps] H nx fun r H' nx'=>nx'=nx∧∃ L' t,r=.bool t∧H'=aq H b (L'.map f)∧PermR a e L L'∧(t=true→bv K a e L'):=by
 have dcap:=hc.dcaps;refine Abs.Fn.of_c2 follows I6 (br rfl) ?_;simp only [I1,aU]
 repeat' (first|refine zW ?_|apply a_n|refine zO ?_|refine vZ ?_|fail)
 refine bC (X:=Nat × Nat × List α) (fun x=>[(0,.msl b n 1 0 n),(1,.int .i64 a),(2,.int .i64 e),(3,.func g caps),(9,.int .i64 (x.2.1:Nat)),(10,.int .i64 (x.1:Nat))]) (fun x H' nxx=>x.1 ≤ 5∧a + 1 ≤ x.2.1∧x.2.1 ≤ e∧H'=aq H b (x.2.2.map f)∧nx=nxx∧PermR a e L x.2.2∧bv K a x.2.1 x.2.2) (fun x=>5 - x.1) (0,a + 1,L) ⟨by dsimp only; omega,aP _,hae,mF hH,rfl,.refl,bv.one (aP _)⟩ ag0 ?_;rintro ⟨jj,i0,M0⟩ H' nxx ⟨h1,h2,h3,rfl,rfl,hp0,hs0⟩;dsimp only at *;by_cases h5:jj=5
 ·subst h5
  repeat' (first|refine zW ?_|apply a_n|apply a_x|refine zO ?_|refine vZ ?_|(refine zGZ ?_ ?_ <;> (intro _hg; try (exfalso; omega)))|refine ak rfl ?_|refine r1Z ?_|fail)
  exact ⟨rfl,M0,false,rfl,rfl,hp0,fun h=>absurd h (by decide)⟩
 have hl:M0.length=n:=by rw [hp0.len,hn]
 have hGM:=hp0.mem hG;refine cr (fun T H'' nx''=>T 0=.msl b n 1 0 n∧T 1=.int .i64 a∧T 2=.int .i64 e∧T 3=.func g caps∧T 9=.int .i64 (i0:Nat)∧T 10=.int .i64 (jj:Nat)∧H''=aq H b ((M0).map f)∧nx=nx'') ?_ ?_
 ·repeat' (first|refine zW ?_|apply a_n|refine zO ?_|refine vZ ?_|(refine zGZ ?_ ?_ <;> (intro _hg; try (exfalso; omega)))|fail)
  exact ⟨rfl,rfl,rfl,rfl,rfl,rfl,rfl,rfl⟩
 rintro T _ _ ⟨t0,t1,t2,t3,t9,t10,rfl,rfl⟩;refine cr (fun T H'' nx''=>∃ (i:Nat) (M:List α),a + 1 ≤ i∧i ≤ e∧PermR a e L M∧bv K a i M∧T 0=.msl b n 1 0 n∧T 1=.int .i64 a∧T 2=.int .i64 e∧T 3=.func g caps∧T 9=.int .i64 (i:Nat)∧T 10=.int .i64 (jj:Nat)∧H''=aq H b ((M).map f)∧nx=nx'') ?_ ?_
 rotate_left
 ·clear t0 t1 t2 t3 t9 t10;rintro T _ _ ⟨i,M,k1,k2,hp,hs,t0,t1,t2,t3,t9,t10,rfl,rfl⟩;have zz:=aI @t0 (aI @t1 (aI @t2 (aI @t3 (aI @t9 @t10)))); repeat' (first|apply a_n|refine zO ?_|refine vZ ?_|fail)
  exact ⟨(jj + 1,i,M),by dsimp only; omega,⟨by dsimp only; omega,k1,k2,rfl,rfl,hp,hs⟩,(have zz:=aI @t0 (aI @t1 (aI @t2 (aI @t3 (aI @t9 @t10)))); agZ)⟩
 refine iX ?_;refine cr (fun T H'' nx''=>∃ (i:Nat),a + 1 ≤ i∧i ≤ e∧bv K a i M0∧(i < e→K (M0.getD i default) (M0.getD (i - 1) default) < 0)∧T 0=.msl b n 1 0 n∧T 1=.int .i64 a∧T 2=.int .i64 e∧T 3=.func g caps∧T 9=.int .i64 (i:Nat)∧T 10=.int .i64 (jj:Nat)∧H''=aq H b ((M0).map f)∧nx=nx'') ?_ ?_
 ·have zz:=aI @t0 (aI @t1 (aI @t2 (aI @t3 (aI @t9 @t10)))); repeat' (first|refine zW ?_|apply a_n|refine zO ?_|fail)
  refine bC (X:=Nat) (fun i=>[(0,.msl b n 1 0 n),(1,.int .i64 a),(2,.int .i64 e),(3,.func g caps),(9,.int .i64 (i:Nat)),(10,.int .i64 (jj:Nat))]) (fun i H' nxx=>a + 1 ≤ i∧i ≤ e∧H'=aq H b (M0.map f)∧nx=nxx∧bv K a i M0) (fun i=>e - i) i0 ⟨h2,h3,rfl,rfl,hs0⟩ (have zz:=aI @t0 (aI @t1 (aI @t2 (aI @t3 (aI @t9 @t10)))); agZ) ?_;clear zz;clear hs0 h2 h3;rintro i H' nxx ⟨h2,h3,rfl,rfl,hs⟩;by_cases hie:i=e
  ·subst hie
   repeat' (first|refine zW ?_|refine zM ?_|apply a_n|apply a_x|refine zO ?_|refine vZ ?_|refine gFZ ?_|(refine zGZ ?_ ?_ <;> (intro _hg; try (exfalso; omega)))|refine cFZ ?_|fail)
   exact ⟨i,h2,h3,hs,fun h=>absurd h (Nat.lt_irrefl _),rfl,rfl,rfl,rfl,rfl,rfl,rfl,rfl⟩
  obtain ⟨m,rfl⟩:∃ m,i=m + 1:=⟨i - 1,by omega⟩
  have tj:((m + 1:Nat):Int) - 1=(m:Int):=by omega
  have lc:=hc.run (M0.getD (m + 1) default) (M0.getD m default) (hGM _ (ba (by omega))) (hGM _ (ba (by omega)));have e1:=hc.dat (M0.getD (m + 1) default);have e2:=hc.dat (M0.getD m default);generalize hKK:K (M0.getD (m + 1) default) (M0.getD m default)=kk at lc;by_cases hlt:kk < 0
  ·have zz:=aI @tj (aI @cQ (aI hc.cells hc.one)); repeat' (first|refine zW ?_|refine zM ?_|apply a_n|apply a_x|refine zO ?_|refine vZ ?_|refine cZ ?_ (hp:=lc) (hs:=by (first | refine af ?_ rfl | apply ag); (repeat' (first | exact ac | apply an | apply ah | exact e1 | exact e2 | exact bd dcap)); first | done | fail)|refine gTZ ?_|(refine zGZ ?_ ?_ <;> (intro _hg; try (exfalso; omega)))|fail)
   exact ⟨m + 1,h2,h3,hs,fun _=>by rw [qF,hKK]; exact hlt,rfl,rfl,rfl,rfl,rfl,rfl,rfl,rfl⟩
  ·have zz:=aI @tj (aI @cQ (aI hc.cells hc.one)); repeat' (first|refine zW ?_|refine zM ?_|apply a_n|refine zO ?_|refine vZ ?_|refine cZ ?_ (hp:=lc) (hs:=by (first | refine af ?_ rfl | apply ag); (repeat' (first | exact ac | apply an | apply ah | exact e1 | exact e2 | exact bd dcap)); first | done | fail)|refine gTZ ?_|(refine zGZ ?_ ?_ <;> (intro _hg; try (exfalso; omega)))|fail)
   exact ⟨m + 1 + 1,by omega,⟨by omega,by omega,rfl,rfl,hs.snoc hc.ord (by omega) (by rw [qF,hKK]; exact hlt)⟩,ag0⟩
 clear t0 t1 t2 t3 t9 t10 hs0 h2 h3;rintro T _ _ ⟨i,h2,h3,hs,hless,t0,t1,t2,t3,t9,t10,rfl,rfl⟩;by_cases hie:i=e
 ·subst hie;have ten:decide ((i:Int)=(i:Int))=true:=bt rfl;have zz:=aI @t0 (aI @t1 (aI @t2 (aI @t3 (aI @t9 (aI @t10 @ten))))); repeat' (first|refine zW ?_|apply a_n|apply a_r|refine zO ?_|refine vZ ?_|(refine zGZ ?_ ?_ <;> (intro _hg; try (exfalso; omega)))|refine ak rfl ?_|refine r1Z ?_|fail)
  exact ⟨rfl,M0,true,rfl,rfl,hp0,fun _=>hs⟩
 replace hless:=hless (by omega);have ten:decide ((i:Int)=(e:Int))=false:=bj (by omega);refine cr (fun T H'' nx''=>T 0=.msl b n 1 0 n∧T 1=.int .i64 a∧T 2=.int .i64 e∧T 3=.func g caps∧T 9=.int .i64 (i:Nat)∧T 10=.int .i64 (jj:Nat)∧H''=aq H b ((M0).map f)∧nx=nx'') ?_ ?_
 ·have zz:=aI @t0 (aI @t1 (aI @t2 (aI @t3 (aI @t9 (aI @t10 @ten))))); repeat' (first|refine zW ?_|apply a_n|refine zO ?_|refine vZ ?_|refine cFZ ?_|fail)
  exact ⟨(have zz:=@t0; evZ),(have zz:=@t1; evZ),(have zz:=@t2; evZ),(have zz:=@t3; evZ),(have zz:=@t9; evZ),(have zz:=@t10; evZ),rfl,rfl⟩
 clear t0 t1 t2 t3 t9 t10 ten;rintro T _ _ ⟨t0,t1,t2,t3,t9,t10,rfl,rfl⟩;refine cr (fun T H'' nx''=>T 0=.msl b n 1 0 n∧T 1=.int .i64 a∧T 2=.int .i64 e∧T 3=.func g caps∧T 9=.int .i64 (i:Nat)∧T 10=.int .i64 (jj:Nat)∧H''=aq H b ((M0).map f)∧nx=nx'') ?_ ?_
 ·have zz:=aI @t0 (aI @t1 (aI @t2 (aI @t3 (aI @t9 @t10)))); repeat' (first|refine zW ?_|apply a_n|apply a_r|refine zO ?_|refine vZ ?_|(refine zGZ ?_ ?_ <;> (intro _hg; try (exfalso; omega)))|refine ak rfl ?_|refine r1Z ?_|fail)
  ·exact ⟨rfl,M0,false,rfl,rfl,hp0,fun h=>absurd h (by decide)⟩
  ·exact ⟨(have zz:=@t0; evZ),(have zz:=@t1; evZ),(have zz:=@t2; evZ),(have zz:=@t3; evZ),(have zz:=@t9; evZ),(have zz:=@t10; evZ),rfl,rfl⟩
 clear t0 t1 t2 t3 t9 t10;rintro T _ _ ⟨t0,t1,t2,t3,t9,t10,rfl,rfl⟩;obtain ⟨m,rfl⟩:∃ m,i=m + 1:=⟨i - 1,by omega⟩
 have tj:((m + 1:Nat):Int) - 1=(m:Int):=by omega
 rw [qF] at hless;obtain ⟨M1,hl1,lm1,lm2⟩:=dZ (f:=f) (M:=M0) (i:=m + 1) (j:=m) (by omega) (by omega);have lm3:=lm2;simp only [bK,bN,fL,cb] at lm1 lm2;refine cr (fun T H'' nx''=>T 0=.msl b n 1 0 n∧T 1=.int .i64 a∧T 2=.int .i64 e∧T 3=.func g caps∧T 9=.int .i64 (m + 1:Nat)∧T 10=.int .i64 (jj:Nat)∧H''=aq H b ((swp M0 (m + 1) m).map f)∧nx=nx'') ?_ ?_
 ·have zz:=aI @t0 (aI @t1 (aI @t2 (aI @t3 (aI @t9 (aI @t10 (aI @cQ (aI hc.cells (aI hc.one (aI @tj (aI @lm1 @lm2)))))))))); repeat' (first|apply a_n|refine zO ?_|refine vZ ?_|refine stZ ?_|fail)
  exact ⟨(have zz:=@t0; evZ),(have zz:=@t1; evZ),(have zz:=@t2; evZ),(have zz:=@t3; evZ),(have zz:=@t9; evZ),(have zz:=@t10; evZ),by rw [a7,a7,lm3],rfl⟩
 clear t0 t1 t2 t3 t9 t10;have hp1:PermR a e L (swp M0 (m + 1) m):=hp0.trans (PermR.swap (by omega) (by omega) (by omega));have hal:=(gy.start hs).step hc.ord (by omega) (aP _) (by omega) hless;clear hs hless lm1 lm2 lm3 hl1 M1;generalize swp M0 (m + 1) m=M2 at hp1 hal;clear hp0 hGM hl;rintro T _ _ ⟨t0,t1,t2,t3,t9,t10,rfl,rfl⟩;refine cr (fun T H'' nx''=>∃ M:List α,PermR a e L M∧bv K a (m + 1) M∧T 0=.msl b n 1 0 n∧T 1=.int .i64 a∧T 2=.int .i64 e∧T 3=.func g caps∧T 9=.int .i64 (m + 1:Nat)∧T 10=.int .i64 (jj:Nat)∧H''=aq H b ((M).map f)∧nx=nx'') ?_ ?_
 ·by_cases h2a:m=a
  ·subst h2a;have td:decide ((2:Int) ≤ ((m + 1:Nat):Int) - (m:Int))=false:=bj (by omega);have zz:=aI @t0 (aI @t1 (aI @t2 (aI @t3 (aI @t9 (aI @t10 @td))))); repeat' (first|refine zW ?_|apply a_n|refine zO ?_|refine vZ ?_|refine cFZ ?_|fail)
   exact ⟨M2,hp1,(hal.done hc.ord (.inl rfl)).mono (aP _) (by omega),(have zz:=@t0; evZ),(have zz:=@t1; evZ),(have zz:=@t2; evZ),(have zz:=@t3; evZ),(have zz:=@t9; evZ),(have zz:=@t10; evZ),rfl,rfl⟩
  have td:decide ((2:Int) ≤ ((m + 1:Nat):Int) - (a:Int))=true:=bt (by omega);have zz:=aI @t0 (aI @t1 (aI @t2 (aI @t3 (aI @t9 (aI @t10 (aI @td @tj)))))); repeat' (first|refine zW ?_|apply a_n|refine zO ?_|refine vZ ?_|refine cTZ ?_|fail)
  refine bC (X:=Nat × List α) (fun x=>[(0,.msl b n 1 0 n),(1,.int .i64 a),(2,.int .i64 e),(3,.func g caps),(9,.int .i64 (m + 1:Nat)),(10,.int .i64 (jj:Nat)),(11,.int .i64 (x.1:Nat))]) (fun x H' nxx=>a ≤ x.1∧x.1 ≤ m∧H'=aq H b (x.2.map f)∧nx=nxx∧PermR a e L x.2∧gy K a (m + 1) x.1 x.2) (fun x=>x.1) (m,M2) ⟨by dsimp only; omega,aP _,rfl,rfl,hp1,hal⟩ (have zz:=aI @t0 (aI @t1 (aI @t2 (aI @t3 (aI @t9 @t10)))); agZ) ?_;clear zz;clear t0 t1 t2 t3 t9 t10 hp1 hal M2;rintro ⟨j,M⟩ H' nxx ⟨a1,a2,rfl,rfl,hp,hal⟩;dsimp only at *;have hl:M.length=n:=by rw [hp.len,hn]
  have hGM:=hp.mem hG;rcases yV j with ej | ej
  ·subst ej
   repeat' (first|refine zW ?_|apply a_n|apply a_x|refine zO ?_|refine vZ ?_|(refine zGZ ?_ ?_ <;> (intro _hg; try (exfalso; omega)))|fail)
   exact ⟨M,hp,(hal.done hc.ord (.inl (by omega))).mono (aP _) (by omega),rfl,rfl,rfl,rfl,rfl,rfl,rfl,rfl⟩
  obtain ⟨k,rfl⟩:∃ k,j=k + 1:=⟨j - 1,by omega⟩
  have tk:((k + 1:Nat):Int) - 1=(k:Int):=by omega
  have lc:=hc.run (M.getD (k + 1) default) (M.getD k default) (hGM _ (ba (by omega))) (hGM _ (ba (by omega)));have e1:=hc.dat (M.getD (k + 1) default);have e2:=hc.dat (M.getD k default);have hlw:=hlow.perm hp (by omega) (by omega);generalize hKK:K (M.getD (k + 1) default) (M.getD k default)=kk at lc;by_cases hlt:kk < 0
  ·have hak:k + 1 ≠ a:=fun h=>by
     subst h;have:=hlw (k + 1) (by omega) (aP _) (by omega);rw [qF,hKK] at this;exact this hlt
   obtain ⟨M1,hl1,lm1,lm2⟩:=dZ (f:=f) (M:=M) (i:=k + 1) (j:=k) (by omega) (by omega);have lm3:=lm2;simp only [bK,bN,fL,cb] at lm1 lm2;have zz:=aI @tk (aI @cQ (aI hc.cells (aI hc.one (aI @lm1 @lm2)))); repeat' (first|refine zW ?_|refine zM ?_|apply a_n|refine zO ?_|refine vZ ?_|refine cZ ?_ (hp:=lc) (hs:=by (first | refine af ?_ rfl | apply ag); (repeat' (first | exact ac | apply an | apply ah | exact e1 | exact e2 | exact bd dcap)); first | done | fail)|refine stZ ?_|(refine zGZ ?_ ?_ <;> (intro _hg; try (exfalso; omega)))|fail)
   exact ⟨(k,swp M (k + 1) k),by dsimp only; omega,⟨by dsimp only; omega,by dsimp only; omega,by dsimp only; rw [a7,a7,lm3],rfl,hp.trans (PermR.swap (by omega) (by omega) (by omega)),hal.step hc.ord (by omega) (by omega) (by omega) (by rw [hKK]; exact hlt)⟩,(have zz:=@tk; agZ)⟩
  ·have hd:k + 1=a ∨ (a < k + 1∧¬ K (M.getD (k + 1) default) (M.getD (k + 1 - 1) default) < 0):=by
     by_cases h:k + 1=a
     ·exact .inl h
     ·exact .inr ⟨by omega,by rw [qF,hKK]; exact hlt⟩
   have zz:=aI @tk (aI @cQ (aI hc.cells hc.one)); repeat' (first|refine zW ?_|refine zM ?_|apply a_n|apply a_x|refine zO ?_|refine vZ ?_|refine cZ ?_ (hp:=lc) (hs:=by (first | refine af ?_ rfl | apply ag); (repeat' (first | exact ac | apply an | apply ah | exact e1 | exact e2 | exact bd dcap)); first | done | fail)|(refine zGZ ?_ ?_ <;> (intro _hg; try (exfalso; omega)))|fail)
   exact ⟨M,hp,(hal.done hc.ord hd).mono (aP _) (by omega),rfl,rfl,rfl,rfl,rfl,rfl,rfl,rfl⟩
 clear t0 t1 t2 t3 t9 t10 hp1 hal M2;rintro T _ _ ⟨M2,hp1,hs,t0,t1,t2,t3,t9,t10,rfl,rfl⟩;by_cases h2a:m + 1 + 2 ≤ e
 rotate_left
 ·have td:decide ((2:Int) ≤ (e:Int) - ((m + 1:Nat):Int))=false:=bj (by omega);have zz:=aI @t0 (aI @t1 (aI @t2 (aI @t3 (aI @t9 (aI @t10 @td))))); repeat' (first|refine zW ?_|apply a_n|refine zO ?_|refine vZ ?_|refine cFZ ?_|fail)
  exact ⟨m + 1,M2,h2,h3,hp1,hs,(have zz:=@t0; evZ),(have zz:=@t1; evZ),(have zz:=@t2; evZ),(have zz:=@t3; evZ),(have zz:=@t9; evZ),(have zz:=@t10; evZ),rfl,rfl⟩
 have td:decide ((2:Int) ≤ (e:Int) - ((m + 1:Nat):Int))=true:=bt (by omega);have tj2:((m + 1:Nat):Int) + 1=((m + 1 + 1:Nat):Int):=by omega
 have zz:=aI @t0 (aI @t1 (aI @t2 (aI @t3 (aI @t9 (aI @t10 (aI @td @tj2)))))); repeat' (first|refine zW ?_|apply a_n|refine zO ?_|refine vZ ?_|refine cTZ ?_|fail)
 refine bC (X:=Nat × List α) (fun x=>[(0,.msl b n 1 0 n),(1,.int .i64 a),(2,.int .i64 e),(3,.func g caps),(9,.int .i64 (m + 1:Nat)),(10,.int .i64 (jj:Nat)),(12,.int .i64 (x.1:Nat))]) (fun x H' nxx=>m + 1 + 1 ≤ x.1∧x.1 ≤ e∧H'=aq H b (x.2.map f)∧nx=nxx∧PermR a e L x.2∧bv K a (m + 1) x.2) (fun x=>e - x.1) (m + 1 + 1,M2) ⟨aP _,by dsimp only; omega,rfl,rfl,hp1,hs⟩ (have zz:=aI @t0 (aI @t1 (aI @t2 (aI @t3 (aI @t9 @t10)))); agZ) ?_;clear zz;clear t0 t1 t2 t3 t9 t10 hp1 hs M2;rintro ⟨j,M⟩ H' nxx ⟨a1,a2,rfl,rfl,hp,hs⟩;dsimp only at *;have hl:M.length=n:=by rw [hp.len,hn]
 have hGM:=hp.mem hG;by_cases hje:j=e
 ·subst hje
  repeat' (first|refine zW ?_|apply a_n|apply a_x|refine zO ?_|refine vZ ?_|(refine zGZ ?_ ?_ <;> (intro _hg; try (exfalso; omega)))|fail)
  exact ⟨m + 1,M,h2,h3,hp,hs,rfl,rfl,rfl,rfl,rfl,rfl,rfl,rfl⟩
 obtain ⟨k,rfl⟩:∃ k,j=k + 1:=⟨j - 1,by omega⟩
 have tk:((k + 1:Nat):Int) - 1=(k:Int):=by omega
 have lc:=hc.run (M.getD (k + 1) default) (M.getD k default) (hGM _ (ba (by omega))) (hGM _ (ba (by omega)));have e1:=hc.dat (M.getD (k + 1) default);have e2:=hc.dat (M.getD k default);generalize hKK:K (M.getD (k + 1) default) (M.getD k default)=kk at lc;by_cases hlt:kk < 0
 ·obtain ⟨M1,hl1,lm1,lm2⟩:=dZ (f:=f) (M:=M) (i:=k + 1) (j:=k) (by omega) (by omega);have lm3:=lm2;simp only [bK,bN,fL,cb] at lm1 lm2;have zz:=aI @tk (aI @cQ (aI hc.cells (aI hc.one (aI @lm1 @lm2)))); repeat' (first|refine zW ?_|refine zM ?_|apply a_n|refine zO ?_|refine vZ ?_|refine cZ ?_ (hp:=lc) (hs:=by (first | refine af ?_ rfl | apply ag); (repeat' (first | exact ac | apply an | apply ah | exact e1 | exact e2 | exact bd dcap)); first | done | fail)|refine stZ ?_|(refine zGZ ?_ ?_ <;> (intro _hg; try (exfalso; omega)))|fail)
  exact ⟨(k + 1 + 1,swp M (k + 1) k),by dsimp only; omega,⟨by dsimp only; omega,by dsimp only; omega,by dsimp only; rw [a7,a7,lm3],rfl,hp.trans (PermR.swap (by omega) (by omega) (by omega)),hs.out (e:=e) (PermR.swap (by omega) (by omega) (by omega))⟩,ag0⟩
 ·have zz:=aI @tk (aI @cQ (aI hc.cells hc.one)); repeat' (first|refine zW ?_|refine zM ?_|apply a_n|apply a_x|refine zO ?_|refine vZ ?_|refine cZ ?_ (hp:=lc) (hs:=by (first | refine af ?_ rfl | apply ag); (repeat' (first | exact ac | apply an | apply ah | exact e1 | exact e2 | exact bd dcap)); first | done | fail)|(refine zGZ ?_ ?_ <;> (intro _hg; try (exfalso; omega)))|fail)
  exact ⟨m + 1,M,h2,h3,hp,hs,rfl,rfl,rfl,rfl,rfl,rfl,rfl,rfl⟩
end
end Go.Proofs.YtlodfaaceehfmaaGreat
namespace Go.Proofs.YtlodfaaceehfmaaGreat
open Go Go.Abs
structure PartR {α:Type} [Inhabited α] (P:α→Prop) (a e mu i j:Nat) (M:List α):Prop where
 lo:a + 1 ≤ i
 mid:i ≤ j + 1
 hi:j < e
 mu:j + 1 - i ≤ mu
 up:∀ p,a + 1 ≤ p→p < i→P (M.getD p default)
 dn:∀ q,j < q→q < e→¬ P (M.getD q default)
section
variable {α:Type} [Inhabited α] {f:α→AV} {K:α→α→Int} {G:α→Prop} {g:Nat} {caps:List AV}
theorem PartR.start {P:α→Prop} {a m:Nat} {M:List α} (h:a ≤ m):PartR P a (m + 1) (m + 1 - (a + 1)) (a + 1) m M:=⟨aP _,by omega,by omega,aP _,fun p h1 h2=>by omega,fun q h1 h2=>by omega⟩
theorem PartR.stepUp {P:α→Prop} {a e mu i j:Nat} {M:List α} (h:PartR P a e mu i j M) (hij:i ≤ j) (hp:P (M.getD i default)):PartR P a e mu (i + 1) j M :=
 ⟨by have:=h.lo; omega,by omega,h.hi,by have:=h.mu; omega,fun p h1 h2=>by
  by_cases e:p=i
  ·rw [e]; exact hp
  ·exact h.up p h1 (by omega),h.dn⟩
theorem PartR.stepDn {P:α→Prop} {a e mu i k:Nat} {M:List α} (h:PartR P a e mu i (k + 1) M) (hij:i ≤ k + 1) (hp:¬ P (M.getD (k + 1) default)):PartR P a e mu i k M :=
 ⟨h.lo,hij,by have:=h.hi; omega,by have:=h.mu; omega,h.up,fun q h1 h2=>by
  by_cases e:q=k + 1
  ·rw [e]; exact hp
  ·exact h.dn q (by omega) h2⟩
theorem PartR.swap {P:α→Prop} {a e mu i k:Nat} {M:List α} (h:PartR P a e mu i (k + 1) M) (hM:e ≤ M.length) (hij:i ≤ k + 1) (hi:¬ P (M.getD i default)) (hj:P (M.getD (k + 1) default)):PartR P a e (k + 1 - (i + 1)) (i + 1) k (swp M i (k + 1))∧k + 1 - (i + 1) < mu:=by
 have hne:i ≠ k + 1:=fun e=>hi (by rw [e]; exact hj);have hh:=h.hi;have hlo:=h.lo;have hmu:=h.mu;refine ⟨⟨by omega,by omega,by omega,aP _,fun p h1 h2=>?_,fun q h1 h2=>?_⟩,by omega⟩
 ·rw [eO (by omega) (by omega),if_neg (by omega)];by_cases e:p=i
  ·rw [if_pos e]; exact hj
  ·rw [if_neg e]; exact h.up p h1 (by omega)
 ·rw [eO (by omega) (by omega)];by_cases e:q=k + 1
  ·rw [if_pos e]; exact hi
  ·rw [if_neg e,if_neg (by omega)]; exact h.dn q (by omega) h2
theorem sd {M:List α} {i j k:Nat} (hi:i < M.length) (hj:j < M.length) (h1:k ≠ i) (h2:k ≠ j):(swp M i j).getD k default=M.getD k default:=by
 rw [eO hi hj,if_neg h2,if_neg h1]
attribute [local irreducible] aM am bm be aX a6 aG aZ bf bI Go.Abs.Fn bc Go.Abs.Pure aB aQ Yl
theorem PartR.done {P:α→Prop} {a e mu i j:Nat} {M:List α} {v:α} (hK:Ord K) (h:PartR P a e mu i j M) (hM:e ≤ M.length) (hji:j < i) (hv:M.getD a default=v) (hP:∀ x,P x ↔ K x v < 0):a ≤ j∧j < e∧(∀ p,a ≤ p→p < j→K ((swp M j a).getD p default) ((swp M j a).getD j default) < 0)∧(∀ q,j < q→q < e→¬ K ((swp M j a).getD q default) ((swp M j a).getD j default) < 0):=by
 have hlo:=h.lo; have hmid:=h.mid; have hhi:=h.hi
 have ej:(swp M j a).getD j default=v:=by
  rw [eO (by omega) (by omega)];split
  ·rename_i e; rw [e,hv]
  ·rw [if_pos rfl,hv]
 rw [ej];refine ⟨by omega,by omega,fun p h1 h2=>?_,fun q h1 h2=>?_⟩
 ·rw [eO (by omega) (by omega)];by_cases e:p=a
  ·rw [if_pos e]; exact (hP _).1 (h.up j (by omega) hji)
  ·rw [if_neg e,if_neg (by omega)]; exact (hP _).1 (h.up p (by omega) (by omega))
 ·rw [eO (by omega) (by omega),if_neg (by omega),if_neg (by omega),← hP]; exact h.dn q h1 h2
theorem EO (hc:Cmp Tryz.prog f K G g caps) {L:List α} {H:Hp} {b nx n a e pv:Nat} (hH:H b=some (L.map f)) (hn:L.length=n) (hG:∀ x ∈ L,G x) (hae:a < e) (hen:e ≤ n) (hn2:n ≤ 1000000000) (hpv:a ≤ pv∧pv < e) :
    Abs.Fn Tryz.prog 103 [.msl b n 1 0 n,.int .i64 a,.int .i64 e,.int .i64 pv,.func g caps] H nx fun r H' nx'=>nx'=nx∧∃ (L':List α) (m:Nat),r=.int .i64 m∧a < m∧m ≤ e∧H'=aq H b (L'.map f)∧PermR a e L L'∧(∀ p,a ≤ p→p < m→¬ K (L.getD pv default) (L'.getD p default) < 0)∧(∀ q,m ≤ q→q < e→K (L.getD pv default) (L'.getD q default) < 0):=by
 have dcap:=hc.dcaps;obtain ⟨v,hv0⟩:∃ v,L.getD pv default=v:=⟨_,rfl⟩
 rw [hv0];obtain ⟨P,hP⟩:∃ P:α→Prop,∀ x,P x ↔ ¬ K v x < 0:=⟨_,fun _=>Iff.rfl⟩
 obtain ⟨N,hN⟩:∃ N,swp L a pv=N:=⟨_,rfl⟩
 have hp1:PermR a e L N:=hN ▸ PermR.swap (by omega) (by omega) (by omega)
 have hv1:N.getD a default=v:=by
  rw [← hN,eO (by omega) (by omega),← hv0];split
  ·rename_i h; rw [h]
  ·rw [if_pos rfl]
 obtain ⟨M1,hl1,lm1,lm2⟩:=dZ (f:=f) (M:=L) (i:=a) (j:=pv) (by omega) (by omega);rw [hN] at lm2;have lm3:=lm2;simp only [bK,bN,fL,cb] at lm1 lm2;obtain ⟨m,hm⟩:∃ m,e=m + 1:=⟨e - 1,by omega⟩
 have te:(e:Int) - 1=(m:Int):=by omega
 have ta:((a:Nat):Int) + 1=((a + 1:Nat):Int):=by omega
 refine Abs.Fn.of_c2 follows Ie (br rfl) ?_;simp only [Ix,aU];have zz:=aI @hH (aI @te (aI @ta (aI @cQ (aI hc.cells (aI hc.one (aI @lm1 @lm2)))))); repeat' (first|refine zW ?_|apply a_n|refine zO ?_|refine vZ ?_|refine stZ ?_|fail)
 refine bC (X:=Nat × Nat × List α) (fun x=>[(0,.msl b n 1 0 n),(1,.int .i64 a),(4,.func g caps),(11,.int .i64 (x.1:Nat)),(12,.int .i64 (x.2.1:Nat))]) (fun x H' nxx=>PartR P a e (x.2.1 + 1 - x.1) x.1 x.2.1 x.2.2∧H'=aq H b (x.2.2.map f)∧nx=nxx∧PermR a e L x.2.2∧x.2.2.getD a default=v) (fun x=>x.2.1 + 1 - x.1) (a + 1,m,N) ⟨by dsimp only; rw [hm]; exact .start (by omega),by dsimp only; rw [a7,lm3],rfl,hp1,hv1⟩ ag0 ?_;clear zz;clear lm1 lm2 lm3 hl1 M1 hp1 hv1 hN N te ta hm m;rintro ⟨i,j,M⟩ H' nxx ⟨hpt,rfl,rfl,hp,hv⟩;dsimp only at *;have hl:M.length=n:=by rw [hp.len,hn]
 have hGM:=hp.mem hG;generalize hmu:j + 1 - i=mu at hpt ⊢;clear hmu;obtain ⟨T,hT,t0,t1,t4,t11,t12⟩:∃ T,tl [(0,.msl b n 1 0 n),(1,.int .i64 a),(4,.func g caps),(11,.int .i64 (i:Nat)),(12,.int .i64 (j:Nat))]=T∧T 0=.msl b n 1 0 n∧T 1=.int .i64 a∧T 4=.func g caps∧T 11=.int .i64 (i:Nat)∧T 12=.int .i64 (j:Nat):=⟨_,rfl,rfl,rfl,rfl,rfl,rfl⟩
 rw [hT];clear hT;refine iX ?_;refine cr (fun T H'' nx''=>∃ i:Nat,PartR P a e mu i j M∧(i ≤ j→¬ P (M.getD i default))∧T 0=.msl b n 1 0 n∧T 1=.int .i64 a∧T 4=.func g caps∧T 11=.int .i64 (i:Nat)∧T 12=.int .i64 (j:Nat)∧H''=aq H b ((M).map f)∧nx=nx'') ?_ ?_
 ·have zz:=aI @t0 (aI @t1 (aI @t4 (aI @t11 @t12))); repeat' (first|refine zW ?_|apply a_n|refine zO ?_|fail)
  refine bC (X:=Nat) (fun i=>[(0,.msl b n 1 0 n),(1,.int .i64 a),(4,.func g caps),(11,.int .i64 (i:Nat)),(12,.int .i64 (j:Nat))]) (fun i H' nxx=>PartR P a e mu i j M∧H'=aq H b (M.map f)∧nx=nxx) (fun i=>j + 1 - i) i ⟨hpt,rfl,rfl⟩ (have zz:=aI @t0 (aI @t1 (aI @t4 (aI @t11 @t12))); agZ) ?_;clear zz;clear t0 t1 t4 t11 t12 hpt i;rintro i H' nxx ⟨hpt,rfl,rfl⟩;have hlo:=hpt.lo; have hmid:=hpt.mid; have hhi:=hpt.hi;have ii:((i:Nat):Int) + 1=((i + 1:Nat):Int):=by omega
  by_cases hij:j < i
  ·repeat' (first|refine zW ?_|refine zM ?_|apply a_n|apply a_x|refine zO ?_|refine vZ ?_|refine gFZ ?_|(refine zGZ ?_ ?_ <;> (intro _hg; try (exfalso; omega)))|refine cFZ ?_|fail)
   exact ⟨i,hpt,fun h=>absurd h (by omega),rfl,rfl,rfl,rfl,rfl,rfl,rfl⟩
  have lc:=hc.run (M.getD (a) default) (M.getD (i) default) (hGM _ (ba (by omega))) (hGM _ (ba (by omega)));have e1:=hc.dat (M.getD (a) default);have e2:=hc.dat (M.getD (i) default);have hPk:P (M.getD (i) default) ↔ ¬ K (M.getD (a) default) (M.getD (i) default) < 0:=by rw [hP,hv]
  generalize hKK:K (M.getD (a) default) (M.getD (i) default)=kk at lc hPk;by_cases hlt:kk < 0
  ·have zz:=aI @ii (aI @cQ (aI hc.cells hc.one)); repeat' (first|refine zW ?_|refine zM ?_|apply a_n|apply a_x|refine zO ?_|refine vZ ?_|refine cZ ?_ (hp:=lc) (hs:=by (first | refine af ?_ rfl | apply ag); (repeat' (first | exact ac | apply an | apply ah | exact e1 | exact e2 | exact bd dcap)); first | done | fail)|refine gTZ ?_|(refine zGZ ?_ ?_ <;> (intro _hg; try (exfalso; omega)))|fail)
   exact ⟨i,hpt,fun _=>(by rw [hPk]; first | exact hlt | exact fun h=>h hlt),rfl,rfl,rfl,rfl,rfl,rfl,rfl⟩
  ·have zz:=aI @ii (aI @cQ (aI hc.cells hc.one)); repeat' (first|refine zW ?_|refine zM ?_|apply a_n|refine zO ?_|refine vZ ?_|refine cZ ?_ (hp:=lc) (hs:=by (first | refine af ?_ rfl | apply ag); (repeat' (first | exact ac | apply an | apply ah | exact e1 | exact e2 | exact bd dcap)); first | done | fail)|refine gTZ ?_|(refine zGZ ?_ ?_ <;> (intro _hg; try (exfalso; omega)))|fail)
   exact ⟨i + 1,by omega,⟨hpt.stepUp (by omega) (by rw [hPk]; exact hlt),rfl,rfl⟩,ag0⟩
 clear t0 t1 t4 t11 t12 hpt i;rintro T _ _ ⟨i,hpt,hni,t0,t1,t4,t11,t12,rfl,rfl⟩;refine cr (fun T H'' nx''=>∃ j:Nat,PartR P a e mu i j M∧(i ≤ j→¬ P (M.getD i default))∧(i ≤ j→P (M.getD j default))∧T 0=.msl b n 1 0 n∧T 1=.int .i64 a∧T 4=.func g caps∧T 11=.int .i64 (i:Nat)∧T 12=.int .i64 (j:Nat)∧H''=aq H b ((M).map f)∧nx=nx'') ?_ ?_
 ·have zz:=aI @t0 (aI @t1 (aI @t4 (aI @t11 @t12))); repeat' (first|refine zW ?_|apply a_n|refine zO ?_|fail)
  refine bC (X:=Nat) (fun j=>[(0,.msl b n 1 0 n),(1,.int .i64 a),(4,.func g caps),(11,.int .i64 (i:Nat)),(12,.int .i64 (j:Nat))]) (fun j H' nxx=>PartR P a e mu i j M∧(i ≤ j→¬ P (M.getD i default))∧H'=aq H b (M.map f)∧nx=nxx) (fun j=>j) j ⟨hpt,hni,rfl,rfl⟩ (have zz:=aI @t0 (aI @t1 (aI @t4 (aI @t11 @t12))); agZ) ?_;clear zz;clear t0 t1 t4 t11 t12 hpt hni j;rintro j H' nxx ⟨hpt,hni,rfl,rfl⟩;have hlo:=hpt.lo; have hmid:=hpt.mid; have hhi:=hpt.hi;by_cases hij:j < i
  ·repeat' (first|refine zW ?_|refine zM ?_|apply a_n|apply a_x|refine zO ?_|refine vZ ?_|refine gFZ ?_|(refine zGZ ?_ ?_ <;> (intro _hg; try (exfalso; omega)))|refine cFZ ?_|fail)
   exact ⟨j,hpt,hni,fun h=>absurd h (by omega),rfl,rfl,rfl,rfl,rfl,rfl,rfl⟩
  obtain ⟨k,rfl⟩:∃ k,j=k + 1:=⟨j - 1,by omega⟩
  have tk:((k + 1:Nat):Int) - 1=(k:Int):=by omega
  have lc:=hc.run (M.getD (a) default) (M.getD (k + 1) default) (hGM _ (ba (by omega))) (hGM _ (ba (by omega)));have e1:=hc.dat (M.getD (a) default);have e2:=hc.dat (M.getD (k + 1) default);have hPk:P (M.getD (k + 1) default) ↔ ¬ K (M.getD (a) default) (M.getD (k + 1) default) < 0:=by rw [hP,hv]
  generalize hKK:K (M.getD (a) default) (M.getD (k + 1) default)=kk at lc hPk;by_cases hlt:kk < 0
  ·have zz:=aI @tk (aI @cQ (aI hc.cells hc.one)); repeat' (first|refine zW ?_|refine zM ?_|apply a_n|refine zO ?_|refine vZ ?_|refine cZ ?_ (hp:=lc) (hs:=by (first | refine af ?_ rfl | apply ag); (repeat' (first | exact ac | apply an | apply ah | exact e1 | exact e2 | exact bd dcap)); first | done | fail)|refine gTZ ?_|(refine zGZ ?_ ?_ <;> (intro _hg; try (exfalso; omega)))|fail)
   exact ⟨k,by omega,⟨hpt.stepDn (by omega) (by rw [hPk]; first | exact hlt | exact fun h=>h hlt),fun _=>hni (by omega),rfl,rfl⟩,ag0⟩
  ·have zz:=aI @tk (aI @cQ (aI hc.cells hc.one)); repeat' (first|refine zW ?_|refine zM ?_|apply a_n|apply a_x|refine zO ?_|refine vZ ?_|refine cZ ?_ (hp:=lc) (hs:=by (first | refine af ?_ rfl | apply ag); (repeat' (first | exact ac | apply an | apply ah | exact e1 | exact e2 | exact bd dcap)); first | done | fail)|refine gTZ ?_|(refine zGZ ?_ ?_ <;> (intro _hg; try (exfalso; omega)))|fail)
   exact ⟨k + 1,hpt,hni,fun _=>(by rw [hPk]; exact hlt),rfl,rfl,rfl,rfl,rfl,rfl,rfl⟩
 clear t0 t1 t4 t11 t12 hpt hni j;rintro T _ _ ⟨j,hpt,hni,hnj,t0,t1,t4,t11,t12,rfl,rfl⟩;have hlo:=hpt.lo; have hmid:=hpt.mid; have hhi:=hpt.hi;by_cases hji:j < i
 ·have zz:=aI @t0 (aI @t1 (aI @t4 (aI @t11 @t12))); repeat' (first|refine zW ?_|apply a_n|apply a_x|refine zO ?_|refine vZ ?_|(refine zGZ ?_ ?_ <;> (intro _hg; try (exfalso; omega)))|refine ak rfl ?_|refine r1Z ?_|fail)
  refine ⟨rfl,M,i,rfl,by omega,by omega,rfl,hp,fun p h1 h2=>?_,fun q h1 h2=>by have:=hpt.dn q (by omega) h2; rw [hP] at this; exact tV this⟩;by_cases ep:p=a
  ·rw [ep,hv]; exact hc.ord.irr _
  ·exact (hP _).1 (hpt.up p (by omega) h2)
 obtain ⟨k,rfl⟩:∃ k,j=k + 1:=⟨j - 1,by omega⟩
 have tk:((k + 1:Nat):Int) - 1=(k:Int):=by omega
 have ii:((i:Nat):Int) + 1=((i + 1:Nat):Int):=by omega
 obtain ⟨M1,hl1,lm1,lm2⟩:=dZ (f:=f) (M:=M) (i:=i) (j:=k + 1) (by omega) (by omega);have lm3:=lm2;simp only [bK,bN,fL,cb] at lm1 lm2;have zz:=aI @t0 (aI @t1 (aI @t4 (aI @t11 (aI @t12 (aI @tk (aI @ii (aI @cQ (aI hc.cells (aI hc.one (aI @lm1 @lm2)))))))))); repeat' (first|refine zW ?_|apply a_n|refine zO ?_|refine vZ ?_|refine stZ ?_|(refine zGZ ?_ ?_ <;> (intro _hg; try (exfalso; omega)))|fail)
 obtain ⟨hq1,hq2⟩:=hpt.swap (by omega) (by omega) (hni (by omega)) (hnj (by omega));exact ⟨(i + 1,k,swp M i (k + 1)),hq2,⟨hq1,by dsimp only; rw [a7,a7,lm3],rfl,hp.trans (PermR.swap (by omega) (by omega) (by omega)),by dsimp only; rw [sd (by omega) (by omega) (by omega) (by omega)]; exact hv⟩,(have zz:=aI @t0 (aI @t1 (aI @t4 (aI @t11 @t12))); agZ)⟩
theorem Ho (hc:Cmp Tryz.prog f K G g caps) {L:List α} {H:Hp} {b nx n a e pv:Nat} (hH:H b=some (L.map f)) (hn:L.length=n) (hG:∀ x ∈ L,G x) (hae:a < e) (hen:e ≤ n) (hn2:n ≤ 1000000000) (hpv:a ≤ pv∧pv < e) :
    Abs.Fn Tryz.prog 104 [.msl b n 1 0 n,.int .i64 a,.int .i64 e,.int .i64 pv,.func g caps] H nx fun r H' nx'=>nx'=nx∧∃ (L':List α) (m:Nat) (t:Bool),r=.tup [.int .i64 m,.bool t]∧a ≤ m∧m < e∧H'=aq H b (L'.map f)∧PermR a e L L'∧(∀ p,a ≤ p→p < m→K (L'.getD p default) (L'.getD m default) < 0)∧(∀ q,m < q→q < e→¬ K (L'.getD q default) (L'.getD m default) < 0):=by
 have dcap:=hc.dcaps;obtain ⟨v,hv0⟩:∃ v,L.getD pv default=v:=⟨_,rfl⟩
 obtain ⟨P,hP⟩:∃ P:α→Prop,∀ x,P x ↔ K x v < 0:=⟨_,fun _=>Iff.rfl⟩
 obtain ⟨M,hN⟩:∃ N,swp L a pv=N:=⟨_,rfl⟩
 have hp:PermR a e L M:=hN ▸ PermR.swap (by omega) (by omega) (by omega)
 have hv:M.getD a default=v:=by
  rw [← hN,eO (by omega) (by omega),← hv0];split
  ·rename_i h; rw [h]
  ·rw [if_pos rfl]
 obtain ⟨M1,hl1,lm1,lm2⟩:=dZ (f:=f) (M:=L) (i:=a) (j:=pv) (by omega) (by omega);rw [hN] at lm2;have lm3:=lm2;simp only [bK,bN,fL,cb] at lm1 lm2;obtain ⟨m,hm⟩:∃ m,e=m + 1:=⟨e - 1,by omega⟩
 have te:(e:Int) - 1=(m:Int):=by omega
 have ta:((a:Nat):Int) + 1=((a + 1:Nat):Int):=by omega
 refine Abs.Fn.of_c2 follows Iq (br rfl) ?_;simp only [Jk,aU];refine cr (fun T H'' nx''=>T 0=.msl b n 1 0 n∧T 1=.int .i64 a∧T 2=.int .i64 e∧T 3=.int .i64 pv∧T 4=.func g caps∧H=H''∧nx=nx'') ?_ ?_
 ·repeat' (first|apply a_n|refine zO ?_|refine vZ ?_|fail)
  exact ⟨rfl,rfl,rfl,rfl,rfl,rfl,rfl⟩
 rintro T _ _ ⟨t0,t1,t2,t3,t4,rfl,rfl⟩;refine cr (fun T H'' nx''=>T 0=.msl b n 1 0 n∧T 1=.int .i64 a∧T 2=.int .i64 e∧T 3=.int .i64 pv∧T 4=.func g caps∧H''=aq H b (M.map f)∧nx=nx'') ?_ ?_
 ·have zz:=aI @t0 (aI @t1 (aI @t2 (aI @t3 (aI @t4 (aI @hH (aI @cQ (aI hc.cells (aI hc.one (aI @lm1 @lm2))))))))); repeat' (first|apply a_n|refine zO ?_|refine vZ ?_|refine stZ ?_|fail)
  exact ⟨(have zz:=@t0; evZ),(have zz:=@t1; evZ),(have zz:=@t2; evZ),(have zz:=@t3; evZ),(have zz:=@t4; evZ),by rw [a7,lm3],rfl⟩
 clear t0 t1 t2 t3 t4 lm1 lm2 lm3 hl1 M1 hN;rintro T _ _ ⟨t0,t1,t2,t3,t4,rfl,rfl⟩;refine cr (fun T H'' nx''=>∃ mu i j:Nat,PartR P a e mu i j M∧T 0=.msl b n 1 0 n∧T 1=.int .i64 a∧T 4=.func g caps∧T 12=.int .i64 (i:Nat)∧T 13=.int .i64 (j:Nat)∧H''=aq H b ((M).map f)∧nx=nx'') ?_ ?_
 ·have zz:=aI @t0 (aI @t1 (aI @t2 (aI @t3 (aI @t4 (aI @ta @te))))); repeat' (first|apply a_n|refine zO ?_|refine vZ ?_|fail)
  exact ⟨_,a + 1,m,by rw [hm]; exact .start (by omega),(have zz:=@t0; evZ),(have zz:=@t1; evZ),(have zz:=@t4; evZ),ev0,ev0,rfl,rfl⟩
 clear t0 t1 t2 t3 t4 ta te hm m;rintro T _ _ ⟨mu,i,j,hpt,t0,t1,t4,t12,t13,rfl,rfl⟩;have hl:M.length=n:=by rw [hp.len,hn]
 have hGM:=hp.mem hG;refine cr (fun T H'' nx''=>∃ i:Nat,PartR P a e mu i j M∧(i ≤ j→¬ P (M.getD i default))∧T 0=.msl b n 1 0 n∧T 1=.int .i64 a∧T 4=.func g caps∧T 12=.int .i64 (i:Nat)∧T 13=.int .i64 (j:Nat)∧H''=aq H b ((M).map f)∧nx=nx'') ?_ ?_
 ·have zz:=aI @t0 (aI @t1 (aI @t4 (aI @t12 @t13))); repeat' (first|refine zW ?_|apply a_n|refine zO ?_|fail)
  refine bC (X:=Nat) (fun i=>[(0,.msl b n 1 0 n),(1,.int .i64 a),(4,.func g caps),(12,.int .i64 (i:Nat)),(13,.int .i64 (j:Nat))]) (fun i H' nxx=>PartR P a e mu i j M∧H'=aq H b (M.map f)∧nx=nxx) (fun i=>j + 1 - i) i ⟨hpt,rfl,rfl⟩ (have zz:=aI @t0 (aI @t1 (aI @t4 (aI @t12 @t13))); agZ) ?_;clear zz;clear t0 t1 t4 t12 t13 hpt i;rintro i H' nxx ⟨hpt,rfl,rfl⟩;have hlo:=hpt.lo; have hmid:=hpt.mid; have hhi:=hpt.hi;have ii:((i:Nat):Int) + 1=((i + 1:Nat):Int):=by omega
  by_cases hij:j < i
  ·repeat' (first|refine zW ?_|refine zM ?_|apply a_n|apply a_x|refine zO ?_|refine vZ ?_|refine gFZ ?_|(refine zGZ ?_ ?_ <;> (intro _hg; try (exfalso; omega)))|refine cFZ ?_|fail)
   exact ⟨i,hpt,fun h=>absurd h (by omega),rfl,rfl,rfl,rfl,rfl,rfl,rfl⟩
  have lc:=hc.run (M.getD (i) default) (M.getD (a) default) (hGM _ (ba (by omega))) (hGM _ (ba (by omega)));have e1:=hc.dat (M.getD (i) default);have e2:=hc.dat (M.getD (a) default);have hPk:P (M.getD (i) default) ↔ K (M.getD (i) default) (M.getD (a) default) < 0:=by rw [hP,hv]
  generalize hKK:K (M.getD (i) default) (M.getD (a) default)=kk at lc hPk;by_cases hlt:kk < 0
  ·have zz:=aI @ii (aI @cQ (aI hc.cells hc.one)); repeat' (first|refine zW ?_|refine zM ?_|apply a_n|refine zO ?_|refine vZ ?_|refine cZ ?_ (hp:=lc) (hs:=by (first | refine af ?_ rfl | apply ag); (repeat' (first | exact ac | apply an | apply ah | exact e1 | exact e2 | exact bd dcap)); first | done | fail)|refine gTZ ?_|(refine zGZ ?_ ?_ <;> (intro _hg; try (exfalso; omega)))|fail)
   exact ⟨i + 1,by omega,⟨hpt.stepUp (by omega) (by rw [hPk]; exact hlt),rfl,rfl⟩,ag0⟩
  ·have zz:=aI @ii (aI @cQ (aI hc.cells hc.one)); repeat' (first|refine zW ?_|refine zM ?_|apply a_n|apply a_x|refine zO ?_|refine vZ ?_|refine cZ ?_ (hp:=lc) (hs:=by (first | refine af ?_ rfl | apply ag); (repeat' (first | exact ac | apply an | apply ah | exact e1 | exact e2 | exact bd dcap)); first | done | fail)|refine gTZ ?_|(refine zGZ ?_ ?_ <;> (intro _hg; try (exfalso; omega)))|fail)
   exact ⟨i,hpt,fun _=>(by rw [hPk]; first | exact hlt | exact fun h=>h hlt),rfl,rfl,rfl,rfl,rfl,rfl,rfl⟩
 clear t0 t1 t4 t12 t13 hpt i;rintro T _ _ ⟨i,hpt,hni,t0,t1,t4,t12,t13,rfl,rfl⟩;refine cr (fun T H'' nx''=>∃ j:Nat,PartR P a e mu i j M∧(i ≤ j→¬ P (M.getD i default))∧(i ≤ j→P (M.getD j default))∧T 0=.msl b n 1 0 n∧T 1=.int .i64 a∧T 4=.func g caps∧T 12=.int .i64 (i:Nat)∧T 13=.int .i64 (j:Nat)∧H''=aq H b ((M).map f)∧nx=nx'') ?_ ?_
 ·have zz:=aI @t0 (aI @t1 (aI @t4 (aI @t12 @t13))); repeat' (first|refine zW ?_|apply a_n|refine zO ?_|fail)
  refine bC (X:=Nat) (fun j=>[(0,.msl b n 1 0 n),(1,.int .i64 a),(4,.func g caps),(12,.int .i64 (i:Nat)),(13,.int .i64 (j:Nat))]) (fun j H' nxx=>PartR P a e mu i j M∧(i ≤ j→¬ P (M.getD i default))∧H'=aq H b (M.map f)∧nx=nxx) (fun j=>j) j ⟨hpt,hni,rfl,rfl⟩ (have zz:=aI @t0 (aI @t1 (aI @t4 (aI @t12 @t13))); agZ) ?_;clear zz;clear t0 t1 t4 t12 t13 hpt hni j;rintro j H' nxx ⟨hpt,hni,rfl,rfl⟩;have hlo:=hpt.lo; have hmid:=hpt.mid; have hhi:=hpt.hi;by_cases hij:j < i
  ·repeat' (first|refine zW ?_|refine zM ?_|apply a_n|apply a_x|refine zO ?_|refine vZ ?_|refine gFZ ?_|(refine zGZ ?_ ?_ <;> (intro _hg; try (exfalso; omega)))|refine cFZ ?_|fail)
   exact ⟨j,hpt,hni,fun h=>absurd h (by omega),rfl,rfl,rfl,rfl,rfl,rfl,rfl⟩
  obtain ⟨k,rfl⟩:∃ k,j=k + 1:=⟨j - 1,by omega⟩
  have tk:((k + 1:Nat):Int) - 1=(k:Int):=by omega
  have lc:=hc.run (M.getD (k + 1) default) (M.getD (a) default) (hGM _ (ba (by omega))) (hGM _ (ba (by omega)));have e1:=hc.dat (M.getD (k + 1) default);have e2:=hc.dat (M.getD (a) default);have hPk:P (M.getD (k + 1) default) ↔ K (M.getD (k + 1) default) (M.getD (a) default) < 0:=by rw [hP,hv]
  generalize hKK:K (M.getD (k + 1) default) (M.getD (a) default)=kk at lc hPk;by_cases hlt:kk < 0
  ·have zz:=aI @tk (aI @cQ (aI hc.cells hc.one)); repeat' (first|refine zW ?_|refine zM ?_|apply a_n|apply a_x|refine zO ?_|refine vZ ?_|refine cZ ?_ (hp:=lc) (hs:=by (first | refine af ?_ rfl | apply ag); (repeat' (first | exact ac | apply an | apply ah | exact e1 | exact e2 | exact bd dcap)); first | done | fail)|refine gTZ ?_|(refine zGZ ?_ ?_ <;> (intro _hg; try (exfalso; omega)))|fail)
   exact ⟨k + 1,hpt,hni,fun _=>(by rw [hPk]; exact hlt),rfl,rfl,rfl,rfl,rfl,rfl,rfl⟩
  ·have zz:=aI @tk (aI @cQ (aI hc.cells hc.one)); repeat' (first|refine zW ?_|refine zM ?_|apply a_n|refine zO ?_|refine vZ ?_|refine cZ ?_ (hp:=lc) (hs:=by (first | refine af ?_ rfl | apply ag); (repeat' (first | exact ac | apply an | apply ah | exact e1 | exact e2 | exact bd dcap)); first | done | fail)|refine gTZ ?_|(refine zGZ ?_ ?_ <;> (intro _hg; try (exfalso; omega)))|fail)
   exact ⟨k,by omega,⟨hpt.stepDn (by omega) (by rw [hPk]; first | exact hlt | exact fun h=>h hlt),fun _=>hni (by omega),rfl,rfl⟩,ag0⟩
 clear t0 t1 t4 t12 t13 hpt hni j;rintro T _ _ ⟨j,hpt,hni,hnj,t0,t1,t4,t12,t13,rfl,rfl⟩;have hlo:=hpt.lo; have hmid:=hpt.mid; have hhi:=hpt.hi;by_cases hji:j < i
 ·clear hni hnj;obtain ⟨z1,z2,z3,z4⟩:=hpt.done hc.ord (by omega) hji hv hP;obtain ⟨M1,hl1,lm1,lm2⟩:=dZ (f:=f) (M:=M) (i:=j) (j:=a) (by omega) (by omega);have lm3:=lm2;simp only [bK,bN,fL,cb] at lm1 lm2;have zz:=aI @t0 (aI @t1 (aI @t4 (aI @t12 (aI @t13 (aI @cQ (aI hc.cells (aI hc.one (aI @lm1 @lm2)))))))); repeat' (first|refine zW ?_|apply a_n|apply a_r|refine zO ?_|refine vZ ?_|refine stZ ?_|(refine zGZ ?_ ?_ <;> (intro _hg; try (exfalso; omega)))|refine ak rfl ?_|refine r2Z ?_|fail)
  exact ⟨rfl,swp M j a,j,true,rfl,z1,z2,by rw [a7,a7,lm3],hp.trans (PermR.swap (by omega) (by omega) (by omega)),z3,z4⟩
 obtain ⟨k,rfl⟩:∃ k,j=k + 1:=⟨j - 1,by omega⟩
 have tk:((k + 1:Nat):Int) - 1=(k:Int):=by omega
 have ii:((i:Nat):Int) + 1=((i + 1:Nat):Int):=by omega
 obtain ⟨M1,hl1,lm1,lm2⟩:=dZ (f:=f) (M:=M) (i:=i) (j:=k + 1) (by omega) (by omega);have lm3:=lm2;simp only [bK,bN,fL,cb] at lm1 lm2;have zz:=aI @t0 (aI @t1 (aI @t4 (aI @t12 (aI @t13 (aI @tk (aI @ii (aI @cQ (aI hc.cells (aI hc.one (aI @lm1 @lm2)))))))))); repeat' (first|refine zW ?_|apply a_n|refine zO ?_|refine vZ ?_|refine stZ ?_|(refine zGZ ?_ ?_ <;> (intro _hg; try (exfalso; omega)))|fail)
 obtain ⟨hq1,hq2⟩:=hpt.swap (by omega) (by omega) (hni (by omega)) (hnj (by omega));have hp2:PermR a e L (swp M i (k + 1)):=hp.trans (PermR.swap (by omega) (by omega) (by omega));have hv2:(swp M i (k + 1)).getD a default=v:=by rw [sd (by omega) (by omega) (by omega) (by omega)]; exact hv
 refine bC (X:=Nat × Nat × List α) (fun x=>[(0,.msl b n 1 0 n),(1,.int .i64 a),(4,.func g caps),(12,.int .i64 (x.1:Nat)),(13,.int .i64 (x.2.1:Nat))]) (fun x H' nxx=>PartR P a e (x.2.1 + 1 - x.1) x.1 x.2.1 x.2.2∧H'=aq H b (x.2.2.map f)∧nx=nxx∧PermR a e L x.2.2∧x.2.2.getD a default=v) (fun x=>x.2.1 + 1 - x.1) (i + 1,k,swp M i (k + 1)) ⟨hq1,by dsimp only; rw [a7,a7,lm3],rfl,hp2,hv2⟩ (have zz:=aI @t0 (aI @t1 (aI @t4 (aI @t12 @t13))); agZ) ?_;clear zz;clear t0 t1 t4 t12 t13 lm1 lm2 lm3 hl1 M1 hp2 hv2 hq1 hq2 hpt hni hnj hp hv hGM;rintro ⟨i,j,M⟩ H' nxx ⟨hpt,rfl,rfl,hp,hv⟩;dsimp only at *;have hl:M.length=n:=by rw [hp.len,hn]
 have hGM:=hp.mem hG;generalize hmu:j + 1 - i=mu at hpt ⊢;clear hmu;obtain ⟨T,hT,t0,t1,t4,t12,t13⟩:∃ T,tl [(0,.msl b n 1 0 n),(1,.int .i64 a),(4,.func g caps),(12,.int .i64 (i:Nat)),(13,.int .i64 (j:Nat))]=T∧T 0=.msl b n 1 0 n∧T 1=.int .i64 a∧T 4=.func g caps∧T 12=.int .i64 (i:Nat)∧T 13=.int .i64 (j:Nat):=⟨_,rfl,rfl,rfl,rfl,rfl,rfl⟩
 rw [hT];clear hT;refine iX ?_;refine cr (fun T H'' nx''=>∃ i:Nat,PartR P a e mu i j M∧(i ≤ j→¬ P (M.getD i default))∧T 0=.msl b n 1 0 n∧T 1=.int .i64 a∧T 4=.func g caps∧T 12=.int .i64 (i:Nat)∧T 13=.int .i64 (j:Nat)∧H''=aq H b ((M).map f)∧nx=nx'') ?_ ?_
 ·have zz:=aI @t0 (aI @t1 (aI @t4 (aI @t12 @t13))); repeat' (first|refine zW ?_|apply a_n|refine zO ?_|fail)
  refine bC (X:=Nat) (fun i=>[(0,.msl b n 1 0 n),(1,.int .i64 a),(4,.func g caps),(12,.int .i64 (i:Nat)),(13,.int .i64 (j:Nat))]) (fun i H' nxx=>PartR P a e mu i j M∧H'=aq H b (M.map f)∧nx=nxx) (fun i=>j + 1 - i) i ⟨hpt,rfl,rfl⟩ (have zz:=aI @t0 (aI @t1 (aI @t4 (aI @t12 @t13))); agZ) ?_;clear zz;clear t0 t1 t4 t12 t13 hpt i;rintro i H' nxx ⟨hpt,rfl,rfl⟩;have hlo:=hpt.lo; have hmid:=hpt.mid; have hhi:=hpt.hi;have ii:((i:Nat):Int) + 1=((i + 1:Nat):Int):=by omega
  by_cases hij:j < i
  ·repeat' (first|refine zW ?_|refine zM ?_|apply a_n|apply a_x|refine zO ?_|refine vZ ?_|refine gFZ ?_|(refine zGZ ?_ ?_ <;> (intro _hg; try (exfalso; omega)))|refine cFZ ?_|fail)
   exact ⟨i,hpt,fun h=>absurd h (by omega),rfl,rfl,rfl,rfl,rfl,rfl,rfl⟩
  have lc:=hc.run (M.getD (i) default) (M.getD (a) default) (hGM _ (ba (by omega))) (hGM _ (ba (by omega)));have e1:=hc.dat (M.getD (i) default);have e2:=hc.dat (M.getD (a) default);have hPk:P (M.getD (i) default) ↔ K (M.getD (i) default) (M.getD (a) default) < 0:=by rw [hP,hv]
  generalize hKK:K (M.getD (i) default) (M.getD (a) default)=kk at lc hPk;by_cases hlt:kk < 0
  ·have zz:=aI @ii (aI @cQ (aI hc.cells hc.one)); repeat' (first|refine zW ?_|refine zM ?_|apply a_n|refine zO ?_|refine vZ ?_|refine cZ ?_ (hp:=lc) (hs:=by (first | refine af ?_ rfl | apply ag); (repeat' (first | exact ac | apply an | apply ah | exact e1 | exact e2 | exact bd dcap)); first | done | fail)|refine gTZ ?_|(refine zGZ ?_ ?_ <;> (intro _hg; try (exfalso; omega)))|fail)
   exact ⟨i + 1,by omega,⟨hpt.stepUp (by omega) (by rw [hPk]; exact hlt),rfl,rfl⟩,ag0⟩
  ·have zz:=aI @ii (aI @cQ (aI hc.cells hc.one)); repeat' (first|refine zW ?_|refine zM ?_|apply a_n|apply a_x|refine zO ?_|refine vZ ?_|refine cZ ?_ (hp:=lc) (hs:=by (first | refine af ?_ rfl | apply ag); (repeat' (first | exact ac | apply an | apply ah | exact e1 | exact e2 | exact bd dcap)); first | done | fail)|refine gTZ ?_|(refine zGZ ?_ ?_ <;> (intro _hg; try (exfalso; omega)))|fail)
   exact ⟨i,hpt,fun _=>(by rw [hPk]; first | exact hlt | exact fun h=>h hlt),rfl,rfl,rfl,rfl,rfl,rfl,rfl⟩
 clear t0 t1 t4 t12 t13 hpt i;rintro T _ _ ⟨i,hpt,hni,t0,t1,t4,t12,t13,rfl,rfl⟩;refine cr (fun T H'' nx''=>∃ j:Nat,PartR P a e mu i j M∧(i ≤ j→¬ P (M.getD i default))∧(i ≤ j→P (M.getD j default))∧T 0=.msl b n 1 0 n∧T 1=.int .i64 a∧T 4=.func g caps∧T 12=.int .i64 (i:Nat)∧T 13=.int .i64 (j:Nat)∧H''=aq H b ((M).map f)∧nx=nx'') ?_ ?_
 ·have zz:=aI @t0 (aI @t1 (aI @t4 (aI @t12 @t13))); repeat' (first|refine zW ?_|apply a_n|refine zO ?_|fail)
  refine bC (X:=Nat) (fun j=>[(0,.msl b n 1 0 n),(1,.int .i64 a),(4,.func g caps),(12,.int .i64 (i:Nat)),(13,.int .i64 (j:Nat))]) (fun j H' nxx=>PartR P a e mu i j M∧(i ≤ j→¬ P (M.getD i default))∧H'=aq H b (M.map f)∧nx=nxx) (fun j=>j) j ⟨hpt,hni,rfl,rfl⟩ (have zz:=aI @t0 (aI @t1 (aI @t4 (aI @t12 @t13))); agZ) ?_;clear zz;clear t0 t1 t4 t12 t13 hpt hni j;rintro j H' nxx ⟨hpt,hni,rfl,rfl⟩;have hlo:=hpt.lo; have hmid:=hpt.mid; have hhi:=hpt.hi;by_cases hij:j < i
  ·repeat' (first|refine zW ?_|refine zM ?_|apply a_n|apply a_x|refine zO ?_|refine vZ ?_|refine gFZ ?_|(refine zGZ ?_ ?_ <;> (intro _hg; try (exfalso; omega)))|refine cFZ ?_|fail)
   exact ⟨j,hpt,hni,fun h=>absurd h (by omega),rfl,rfl,rfl,rfl,rfl,rfl,rfl⟩
  obtain ⟨k,rfl⟩:∃ k,j=k + 1:=⟨j - 1,by omega⟩
  have tk:((k + 1:Nat):Int) - 1=(k:Int):=by omega
  have lc:=hc.run (M.getD (k + 1) default) (M.getD (a) default) (hGM _ (ba (by omega))) (hGM _ (ba (by omega)));have e1:=hc.dat (M.getD (k + 1) default);have e2:=hc.dat (M.getD (a) default);have hPk:P (M.getD (k + 1) default) ↔ K (M.getD (k + 1) default) (M.getD (a) default) < 0:=by rw [hP,hv]
  generalize hKK:K (M.getD (k + 1) default) (M.getD (a) default)=kk at lc hPk;by_cases hlt:kk < 0
  ·have zz:=aI @tk (aI @cQ (aI hc.cells hc.one)); repeat' (first|refine zW ?_|refine zM ?_|apply a_n|apply a_x|refine zO ?_|refine vZ ?_|refine cZ ?_ (hp:=lc) (hs:=by (first | refine af ?_ rfl | apply ag); (repeat' (first | exact ac | apply an | apply ah | exact e1 | exact e2 | exact bd dcap)); first | done | fail)|refine gTZ ?_|(refine zGZ ?_ ?_ <;> (intro _hg; try (exfalso; omega)))|fail)
   exact ⟨k + 1,hpt,hni,fun _=>(by rw [hPk]; exact hlt),rfl,rfl,rfl,rfl,rfl,rfl,rfl⟩
  ·have zz:=aI @tk (aI @cQ (aI hc.cells hc.one)); repeat' (first|refine zW ?_|refine zM ?_|apply a_n|refine zO ?_|refine vZ ?_|refine cZ ?_ (hp:=lc) (hs:=by (first | refine af ?_ rfl | apply ag); (repeat' (first | exact ac | apply an | apply ah | exact e1 | exact e2 | exact bd dcap)); first | done | fail)|refine gTZ ?_|(refine zGZ ?_ ?_ <;> (intro _hg; try (exfalso; omega)))|fail)
   exact ⟨k,by omega,⟨hpt.stepDn (by omega) (by rw [hPk]; first | exact hlt | exact fun h=>h hlt),fun _=>hni (by omega),rfl,rfl⟩,ag0⟩
 clear t0 t1 t4 t12 t13 hpt hni j;rintro T _ _ ⟨j,hpt,hni,hnj,t0,t1,t4,t12,t13,rfl,rfl⟩;have hlo:=hpt.lo; have hmid:=hpt.mid; have hhi:=hpt.hi;by_cases hji:j < i
 ·clear hni hnj;obtain ⟨z1,z2,z3,z4⟩:=hpt.done hc.ord (by omega) hji hv hP;obtain ⟨M1,hl1,lm1,lm2⟩:=dZ (f:=f) (M:=M) (i:=j) (j:=a) (by omega) (by omega);have lm3:=lm2;simp only [bK,bN,fL,cb] at lm1 lm2;have zz:=aI @t0 (aI @t1 (aI @t4 (aI @t12 (aI @t13 (aI @cQ (aI hc.cells (aI hc.one (aI @lm1 @lm2)))))))); repeat' (first|refine zW ?_|apply a_n|apply a_x|refine zO ?_|refine vZ ?_|refine stZ ?_|(refine zGZ ?_ ?_ <;> (intro _hg; try (exfalso; omega)))|refine ak rfl ?_|refine r2Z ?_|fail)
  exact ⟨rfl,swp M j a,j,false,rfl,z1,z2,by rw [a7,a7,lm3],hp.trans (PermR.swap (by omega) (by omega) (by omega)),z3,z4⟩
 obtain ⟨k,rfl⟩:∃ k,j=k + 1:=⟨j - 1,by omega⟩
 have tk:((k + 1:Nat):Int) - 1=(k:Int):=by omega
 have ii:((i:Nat):Int) + 1=((i + 1:Nat):Int):=by omega
 obtain ⟨M1,hl1,lm1,lm2⟩:=dZ (f:=f) (M:=M) (i:=i) (j:=k + 1) (by omega) (by omega);have lm3:=lm2;simp only [bK,bN,fL,cb] at lm1 lm2;have zz:=aI @t0 (aI @t1 (aI @t4 (aI @t12 (aI @t13 (aI @tk (aI @ii (aI @cQ (aI hc.cells (aI hc.one (aI @lm1 @lm2)))))))))); repeat' (first|refine zW ?_|apply a_n|refine zO ?_|refine vZ ?_|refine stZ ?_|(refine zGZ ?_ ?_ <;> (intro _hg; try (exfalso; omega)))|fail)
 obtain ⟨hq1,hq2⟩:=hpt.swap (by omega) (by omega) (hni (by omega)) (hnj (by omega));exact ⟨(i + 1,k,swp M i (k + 1)),hq2,⟨hq1,by dsimp only; rw [a7,a7,lm3],rfl,hp.trans (PermR.swap (by omega) (by omega) (by omega)),by dsimp only; rw [sd (by omega) (by omega) (by omega) (by omega)]; exact hv⟩,(have zz:=aI @t0 (aI @t1 (aI @t4 (aI @t12 @t13))); agZ)⟩
end
end Go.Proofs.YtlodfaaceehfmaaGreat
namespace Go.Proofs.YtlodfaaceehfmaaGreat
open Go Go.Abs
def nM (x:Nat):Nat:=if x=0 then 0 else Nat.log2 x + 1
def qX:ByteArray:=ByteArray.mk (Array.mk [0,1,2,2,3,3,3,3,4,4,4,4,4,4,4,4,5,5,5,5,5,5,5,5,5,5,5,5,5,5,5,5,6,6,6,6,6,6,6,6,6,6,6,6,6,6,6,6,6,6,6,6,6,6,6,6,6,6,6,6,6,6,6,6,7,7,7,7,7,7,7,7,7,7,7,7,7,7,7,7,7,7,7,7,7,7,7,7,7,7,7,7,7,7,7,7,7,7,7,7,7,7,7,7,7,7,7,7,7,7,7,7,7,7,7,7,7,7,7,7,7,7,7,7,7,7,7,7,8,8,8,8,8,8,8,8,8,8,8,8,8,8,8,8,8,8,8,8,8,8,8,8,8,8,8,8,8,8,8,8,8,8,8,8,8,8,8,8,8,8,8,8,8,8,8,8,8,8,8,8,8,8,8,8,8,8,8,8,8,8,8,8,8,8,8,8,8,8,8,8,8,8,8,8,8,8,8,8,8,8,8,8,8,8,8,8,8,8,8,8,8,8,8,8,8,8,8,8,8,8,8,8,8,8,8,8,8,8,8,8,8,8,8,8,8,8,8,8,8,8,8,8,8,8,8,8])
theorem F1 (x:Nat):x < 2 ^ nM x:=by
 unfold nM;split
 ·omega
 ·exact Nat.lt_log2_self
theorem A9 {x:Nat} (h:0 < x):2 ^ nM x ≤ 2 * x:=by
 unfold nM;rw [if_neg (by omega),Nat.pow_succ];have:=Nat.log2_self_le (n:=x) (by omega);omega
theorem yf {x:Nat} (hx:x < 256):np (.str (ByteArray.mk (Array.mk [0,1,2,2,3,3,3,3,4,4,4,4,4,4,4,4,5,5,5,5,5,5,5,5,5,5,5,5,5,5,5,5,6,6,6,6,6,6,6,6,6,6,6,6,6,6,6,6,6,6,6,6,6,6,6,6,6,6,6,6,6,6,6,6,7,7,7,7,7,7,7,7,7,7,7,7,7,7,7,7,7,7,7,7,7,7,7,7,7,7,7,7,7,7,7,7,7,7,7,7,7,7,7,7,7,7,7,7,7,7,7,7,7,7,7,7,7,7,7,7,7,7,7,7,7,7,7,7,8,8,8,8,8,8,8,8,8,8,8,8,8,8,8,8,8,8,8,8,8,8,8,8,8,8,8,8,8,8,8,8,8,8,8,8,8,8,8,8,8,8,8,8,8,8,8,8,8,8,8,8,8,8,8,8,8,8,8,8,8,8,8,8,8,8,8,8,8,8,8,8,8,8,8,8,8,8,8,8,8,8,8,8,8,8,8,8,8,8,8,8,8,8,8,8,8,8,8,8,8,8,8,8,8,8,8,8,8,8,8,8,8,8,8,8,8,8,8,8,8,8,8,8,8,8,8,8]))) (.int .u8 (x:Nat))=some (.int .u8 (nM x:Nat)):=by
 have h1:qX.size=256:=by decide +kernel
 have h2:∀ i:Fin 256,(qX[i.val]?.getD 0).toNat=nM i.val:=by decide +kernel
 rw [SV2.2.2.2.2.2.2.2.2];have h3:=h2 ⟨x,hx⟩;change (if 0 ≤ (x:Int)∧(x:Int) < qX.size then some (AV.int .u8 (qX[(x:Int).toNat]?.getD 0).toNat) else none)=_;rw [if_pos ⟨by omega,by rw [h1]; omega⟩,cQ];simp only at h3;rw [h3]
theorem qO {x s k:Nat} (hk:k=nM (x / 2 ^ s)) (h:0 < x / 2 ^ s):x < 2 ^ (k + s)∧2 ^ (k + s) ≤ 2 * x:=by
 subst hk;have h1:=F1 (x / 2 ^ s);have h2:=A9 h;have hp:0 < 2 ^ s:=Nat.pow_pos (by omega);rw [Nat.pow_add];constructor
 ·have:=(Nat.div_lt_iff_lt_mul hp).1 h1;exact this
 ·calc 2 ^ nM (x / 2 ^ s) * 2 ^ s ≤ 2 * (x / 2 ^ s) * 2 ^ s:=jT _ h2
    _=2 * (x / 2 ^ s * 2 ^ s):=by rw [Nat.mul_assoc]
    _ ≤ 2 * x:=Nat.mul_le_mul_left _ (Nat.div_mul_le_self x (2 ^ s))
theorem jR {x:Nat} (hx:x < 256):nM x ≤ 8:=by
 rcases yV x with e | e
 ·subst e; decide
 ·have h:=A9 e;rcases tt 8 (nM x) with h1 | h1
  ·have:=Nat.pow_le_pow_right (n:=2) (by omega) h1;omega
  ·exact h1
theorem gz {x:Int} (h:0 ≤ x) (h2:x < 18446744073709551616):IntKind.wrap .u64 x=x:=by
 simp only [IntKind.bits,IntKind.wrap,IntKind.signed]; simp; omega
theorem sF {x:Int} (h:0 ≤ x) (h2:x < 256):IntKind.wrap .u8 x=x:=by
 simp only [IntKind.bits,IntKind.wrap,IntKind.signed]; simp; omega
def xr (a b:Int):Int:=IntKind.wrap .u64 (BitVec.ofInt 64 a ^^^ BitVec.ofInt 64 b).toNat
def Ih (a:Int):Int:=IntKind.wrap .u64 (a * 2 ^ 13)
def IX (a:Int):Int:=IntKind.wrap .u64 (a * 2 ^ 17)
def sr7 (a:Int):Int:=a.fdiv (2 ^ 7)
theorem SX:(∀ a b:Int,bh .xor false false (.int .u64 a) (.int .u64 b)=some (.int .u64 (xr a b)))∧(∀ a:Int,bh .shl false false (.int .u64 a) (.int .u64 13)=some (.int .u64 (Ih a))) ∧
    (∀ a:Int,bh .shl false false (.int .u64 a) (.int .u64 17)=some (.int .u64 (IX a)))∧(∀ a:Int,bh .shr false false (.int .u64 a) (.int .u64 7)=some (.int .u64 (sr7 a))) :=
 ⟨fun _ _=>rfl,fun _=>rfl,fun _=>rfl,fun _=>rfl⟩
attribute [irreducible] xr Ih IX sr7
attribute [local irreducible] aM am bm be aX a6 aG aZ bf bI Go.Abs.Fn bc Go.Abs.Pure aB aQ Yl
theorem Hc {H:Hp} {c nx:Nat} {s:Int} (hcc:H c=some [.int .u64 s]):Abs.Fn Tryz.prog 120 [.ptr c 1 0] H nx fun r H' nx'=>nx'=nx∧∃ s':Int,r=.int .u64 s'∧H'=aq H c [.int .u64 s']:=by
 refine Abs.Fn.of_c2 follows HM (br rfl) ?_;simp only [Jg,aU];have ls:∀ x y:AV,bK [x] 0 [y]=[y]:=fun _ _=>rfl;simp only [bK,bN,fL,cb] at ls;have zz:=aI @hcc (aI @SV3 (aI @SX @ls)); repeat' (first|refine zW ?_|apply a_n|refine zO ?_|refine vZ ?_|refine stZ ?_|refine ak rfl ?_|refine r1Z ?_|fail)
 exact ⟨rfl,_,rfl,by rw [a7,a7]; rfl⟩
set_option maxRecDepth 100000 in
theorem FZ {H:Hp} {nx x:Nat} (hx:0 < x) (h2:x < 4294967296):Abs.Fn Tryz.prog 106 [.int .u64 x] H nx fun r H' nx'=>nx'=nx∧H'=H∧∃ k:Nat,r=.int .i64 k∧x < 2 ^ k∧2 ^ k ≤ 2 * x:=by
 refine Abs.Fn.of_c2 follows Ek (br rfl) ?_;simp only [FR,aU];generalize hT:AV.str (ByteArray.mk (Array.mk [0,1,2,2,3,3,3,3,4,4,4,4,4,4,4,4,5,5,5,5,5,5,5,5,5,5,5,5,5,5,5,5,6,6,6,6,6,6,6,6,6,6,6,6,6,6,6,6,6,6,6,6,6,6,6,6,6,6,6,6,6,6,6,6,7,7,7,7,7,7,7,7,7,7,7,7,7,7,7,7,7,7,7,7,7,7,7,7,7,7,7,7,7,7,7,7,7,7,7,7,7,7,7,7,7,7,7,7,7,7,7,7,7,7,7,7,7,7,7,7,7,7,7,7,7,7,7,7,8,8,8,8,8,8,8,8,8,8,8,8,8,8,8,8,8,8,8,8,8,8,8,8,8,8,8,8,8,8,8,8,8,8,8,8,8,8,8,8,8,8,8,8,8,8,8,8,8,8,8,8,8,8,8,8,8,8,8,8,8,8,8,8,8,8,8,8,8,8,8,8,8,8,8,8,8,8,8,8,8,8,8,8,8,8,8,8,8,8,8,8,8,8,8,8,8,8,8,8,8,8,8,8,8,8,8,8,8,8,8,8,8,8,8,8,8,8,8,8,8,8,8,8,8,8,8,8]))=tb;have htab:∀ x:Nat,x < 256→np tb (.int .u8 (x:Nat))=some (.int .u8 (nM x:Nat)):=fun x hx=>by rw [← hT]; exact yf hx
 clear hT;have s16:∀ z:Nat,bh .shr false false (.int .u64 (z:Nat)) (.int .u64 16)=some (.int .u64 ((z / 2 ^ 16:Nat):Int)):=fun z=>vt (b:=16) (k:=.u64) (k':=.u64) (by decide);have s8:∀ z:Nat,bh .shr false false (.int .u64 (z:Nat)) (.int .u64 8)=some (.int .u64 ((z / 2 ^ 8:Nat):Int)):=fun z=>vt (b:=8) (k:=.u64) (k':=.u64) (by decide);by_cases h16:65536 ≤ x
 ·obtain ⟨y,hy⟩:∃ y,x / 2 ^ 16=y:=⟨_,rfl⟩
  have hy1:0 < y:=by omega
  have hy2:y < 65536:=by omega
  by_cases h8:256 ≤ y
  ·obtain ⟨z,hz⟩:∃ z,y / 2 ^ 8=z:=⟨_,rfl⟩
   have hz1:0 < z:=by omega
   have hz2:z < 256:=by omega
   have hl:=jR hz2;have w8:IntKind.wrap .u8 (z:Int)=z:=sF (by omega) (by omega);have ht:=htab z hz2;have zz:=aI @s16 (aI @s8 (aI @hy (aI @hz (aI @w8 @ht)))); repeat' (first|refine zW ?_|apply a_n|refine zO ?_|refine vZ ?_|(refine zGZ ?_ ?_ <;> (intro _hg; try (exfalso; omega)))|refine ak rfl ?_|refine r1Z ?_|fail)
   have e:x / 2 ^ 24=z:=by rw [← hz,← hy,Nat.div_div_eq_div_mul]
   exact ⟨rfl,rfl,nM z + 24,by congr 1; omega,qO (by rw [e]) (by omega)⟩
  ·have hl:=jR (x:=y) (by omega);have w8:IntKind.wrap .u8 (y:Int)=y:=sF (by omega) (by omega);have ht:=htab y (by omega);have zz:=aI @s16 (aI @s8 (aI @hy (aI @w8 @ht))); repeat' (first|refine zW ?_|apply a_n|refine zO ?_|refine vZ ?_|(refine zGZ ?_ ?_ <;> (intro _hg; try (exfalso; omega)))|refine ak rfl ?_|refine r1Z ?_|fail)
   exact ⟨rfl,rfl,nM y + 16,by congr 1; omega,qO (by rw [hy]) (by omega)⟩
 ·by_cases h8:256 ≤ x
  ·obtain ⟨z,hz⟩:∃ z,x / 2 ^ 8=z:=⟨_,rfl⟩
   have hz1:0 < z:=by omega
   have hz2:z < 256:=by omega
   have hl:=jR hz2;have w8:IntKind.wrap .u8 (z:Int)=z:=sF (by omega) (by omega);have ht:=htab z hz2;have zz:=aI @s16 (aI @s8 (aI @hz (aI @w8 @ht))); repeat' (first|refine zW ?_|apply a_n|refine zO ?_|refine vZ ?_|(refine zGZ ?_ ?_ <;> (intro _hg; try (exfalso; omega)))|refine ak rfl ?_|refine r1Z ?_|fail)
   exact ⟨rfl,rfl,nM z + 8,by congr 1; omega,qO (by rw [hz]) (by omega)⟩
  ·have hl:=jR (x:=x) (by omega);have w8:IntKind.wrap .u8 (x:Int)=x:=sF (by omega) (by omega);have ht:=htab x (by omega);have zz:=aI @w8 @ht; repeat' (first|refine zW ?_|apply a_n|refine zO ?_|refine vZ ?_|(refine zGZ ?_ ?_ <;> (intro _hg; try (exfalso; omega)))|refine ak rfl ?_|refine r1Z ?_|fail)
   exact ⟨rfl,rfl,nM x + 0,by congr 1; omega,qO (s:=0) (by simp) (by simpa using hx)⟩
theorem Gu {H:Hp} {nx x:Nat} (hx:0 < x) (h2:x < 4294967296):Abs.Fn Tryz.prog 79 [.int .u64 x] H nx fun r H' nx'=>nx'=nx∧H'=H∧∃ k:Nat,r=.int .i64 k∧x < 2 ^ k∧2 ^ k ≤ 2 * x:=by
 refine Abs.Fn.of_c2 follows GW (br rfl) ?_;simp only [b79,aU]
 repeat' (first|refine zW ?_|apply a_n|refine zO ?_|refine vZ ?_|refine cFZ ?_|fail)
 refine bn ev0 ev0 (FZ hx h2) ?_;rintro _ _ _ ⟨rfl,rfl,k,rfl,h3,h4⟩
 repeat' (first|apply a_n|refine zO ?_|refine vZ ?_|refine ak rfl ?_|refine r1Z ?_|fail)
 exact ⟨rfl,rfl,k,rfl,h3,h4⟩
theorem G2 {H:Hp} {nx x:Nat} (hx:0 < x) (h2:x ≤ 1000000000):Abs.Fn Tryz.prog 119 [.int .i64 x] H nx fun r H' nx'=>nx'=nx∧H'=H∧∃ k:Nat,r=.int .u64 ((2 ^ k:Nat):Int)∧x < 2 ^ k∧2 ^ k ≤ 2 * x:=by
 have w:IntKind.wrap .u64 (x:Int)=x:=gz (by omega) (by omega);refine Abs.Fn.of_c2 follows Jb (br rfl) ?_;simp only [Im,aU];have zz:=@w; repeat' (first|refine zW ?_|apply a_n|refine zO ?_|refine vZ ?_|fail)
 refine bn ev0 (have zz:=@w; evZ) (Gu hx (by omega)) ?_;rintro _ _ _ ⟨rfl,rfl,k,rfl,h3,h4⟩
 have hk:k ≤ 62:=by
  rcases tt 62 k with h | h
  ·have:=Nat.pow_le_pow_right (n:=2) (by omega) h;omega
  ·exact h
 have sh:bh .shl false false (.int .u64 1) (.int .i64 (k:Int))=some (.int .u64 ((2 ^ k:Nat):Int)):=by
  have h:=AK (k:=.u64) (k':=.i64) (a:=1) (b:=k) (tb:=false) (tf:=false) (by show k ≤ 64; omega) (by show 1 * 2 ^ k < 2 ^ 63; omega);rw [Nat.one_mul] at h;exact h
 clear zz;have zz:=@sh; repeat' (first|apply a_n|refine zO ?_|refine vZ ?_|refine ak rfl ?_|refine r1Z ?_|fail)
 exact ⟨rfl,rfl,k,rfl,h3,h4⟩
end Go.Proofs.YtlodfaaceehfmaaGreat
namespace Go.Proofs.YtlodfaaceehfmaaGreat
open Go Go.Abs
open Nat (reduceEqDiff reduceAdd reduceLeDiff)
theorem EY {a:Int} {m:Nat} (hm:m < 18446744073709551616):∃ r:Nat,bh .and false false (.int .u64 a) (.int .u64 (m:Nat))=some (.int .u64 (r:Nat))∧r ≤ m:=by
 refine ⟨(BitVec.ofInt 64 a).toNat &&& m,?_,Nat.and_le_right⟩;show (if (IntKind.u64=IntKind.u64) then eF .and .u64 a m else none)=_;rw [if_pos rfl]
 have h:(BitVec.ofInt 64 a &&& BitVec.ofInt 64 (m:Int)).toNat=(BitVec.ofInt 64 a).toNat &&& m:=by
  rw [BitVec.toNat_and]
  congr 1
  simp [BitVec.toNat_ofInt];omega
 have h2:(BitVec.ofInt 64 a).toNat &&& m ≤ m:=Nat.and_le_right;show some (AV.int .u64 (IntKind.wrap .u64 ((BitVec.ofInt 64 a &&& BitVec.ofInt 64 (m:Int)).toNat:Int)))=_;rw [h,gz (by omega) (by omega)]
section
variable {α:Type} [Inhabited α] {f:α→AV} {K:α→α→Int} {G:α→Prop} {g:Nat} {caps:List AV}
attribute [local irreducible] aM am bm be aX a6 aG aZ bf bI Go.Abs.Fn bc Go.Abs.Pure aB aQ Yl
theorem FJ (hc:Cmp Tryz.prog f K G g caps) {L:List α} {H:Hp} {b nx n a e:Nat} (hH:H b=some (L.map f)) (hbx:b < nx) (hn:L.length=n) (hae:a + 8 ≤ e) (hen:e ≤ n) (hn2:n ≤ 1000000000) :
    Abs.Fn Tryz.prog 99 [.msl b n 1 0 n,.int .i64 a,.int .i64 e,.func g caps] H nx fun r H' nx'=>nx'=nx + 1∧∃ L',H' b=some (L'.map f)∧(∀ i,i < nx→i ≠ b→H' i=H i)∧PermR a e L L':=by
 obtain ⟨l,rfl⟩:∃ l,e=a + l:=⟨e - a,by omega⟩
 have te:((a + l:Nat):Int) - (a:Int)=(l:Int):=by omega
 obtain ⟨w,hw⟩:∃ w,a + l / 4 * 2 - 1=w:=⟨_,rfl⟩
 have tq:bh .quo false false (.int .i64 (l:Int)) (.int .i64 4)=some (.int .i64 ((l / 4:Nat):Int)):=by
  rw [oo (by omega) (by omega) (by omega)]
  congr 2
 have w1:(a:Int) + ((l / 4:Nat):Int) * 2 - 1=(w:Int):=by omega
 have w2:(a:Int) + ((l / 4:Nat):Int) * 2 + 1=((w + 2:Nat):Int):=by omega
 have hbn:b ≠ nx:=by omega
 have wl:IntKind.wrap .u64 (l:Int)=l:=gz (by omega) (by omega);refine Abs.Fn.of_c2 follows JT (br rfl) ?_;simp only [b99,aU];have ls:∀ x y:AV,bK [x] 0 [y]=[y]:=fun _ _=>rfl;simp only [bK,bN,fL,cb] at ls;have zz:=aI @te (aI @wl @ls); repeat' (first|refine zW ?_|apply a_n|refine zO ?_|refine vZ ?_|refine alZ ?_|refine stZ ?_|(refine zGZ ?_ ?_ <;> (intro _hg; try (exfalso; omega)))|fail)
 refine bn ev0 ev0 (G2 (x:=l) (by omega) (by omega)) ?_;rintro _ _ _ ⟨rfl,rfl,k,rfl,hk1,hk2⟩;obtain ⟨p,hp⟩:∃ p,2 ^ k=p + 1:=⟨2 ^ k - 1,by omega⟩
 rw [hp] at hk1 hk2 ⊢;clear zz;have zz:=aI @te (aI @tq @w1); repeat' (first|refine zW ?_|apply a_n|refine zO ?_|refine vZ ?_|fail)
 have wm:IntKind.wrap .u64 (((p + 1:Nat):Int) - 1)=(p:Int):=by rw [gz (by omega) (by omega)]; omega
 refine bC (X:=Nat × List α) (fun x=>[(0,.msl b n 1 0 n),(1,.int .i64 a),(8,.int .i64 l),(9,.ptr nx 1 0),(10,.int .u64 ((p + 1:Nat):Int)),(11,.int .i64 (x.1:Nat))]) (fun x H' nxx=>w ≤ x.1∧x.1 ≤ w + 3∧H' b=some (x.2.map f)∧(∃ s,H' nx=some [.int .u64 s])∧(∀ i,i < nx→i ≠ b→H' i=H i)∧nxx=nx + 1∧PermR a (a + l) L x.2) (fun x=>w + 3 - x.1) (w,L) ⟨aP _,by dsimp only; omega,by dsimp only; rw [ae hbn]; first | exact hH | (rw [ae hbn]; exact hH),⟨_,ai⟩,fun i h1 h2=>by rw [ae (by omega)]; first | rfl | exact ae (by omega),rfl,.refl⟩ (by simp (disch:=omega) only [agr,ZG,reduceEqDiff,↓reduceIte,bN,fL,cb,true_and]) ?_;rintro ⟨i,M⟩ H1 nxx ⟨h1,h2,hb1,⟨s,hs⟩,hfr,rfl,hp1⟩;dsimp only at *;have hl:M.length=n:=by rw [hp1.len,hn]
 by_cases hi:i=w + 3
 ·subst hi;clear zz;have zz:=aI @tq @w2; repeat' (first|refine zW ?_|apply a_n|apply a_x|refine zO ?_|refine vZ ?_|(refine zGZ ?_ ?_ <;> (intro _hg; try (exfalso; omega)))|refine ak rfl ?_|fail)
  exact ⟨rfl,M,hb1,hfr,hp1⟩
 have ti:((i:Nat):Int) + 1=((i + 1:Nat):Int):=by omega
 clear zz;have zz:=aI @tq @w2; repeat' (first|refine zW ?_|apply a_n|refine zO ?_|refine vZ ?_|(refine zGZ ?_ ?_ <;> (intro _hg; try (exfalso; omega)))|fail)
 refine bn ev0 ev0 (Hc hs) ?_;rintro _ _ _ ⟨rfl,s1,rfl,rfl⟩;obtain ⟨r,hr1,hr2⟩:=EY (a:=s1) (m:=p) (by omega);obtain ⟨H2,hH2⟩:∃ H2,aq H1 nx [.int .u64 s1]=H2:=⟨_,rfl⟩
 have hb2:H2 b=some (M.map f):=by rw [← hH2,ae hbn]; exact hb1
 have hs2:H2 nx=some [.int .u64 s1]:=by rw [← hH2]; exact ai
 have hfr2:∀ i,i < nx→i ≠ b→H2 i=H i:=fun i k1 k2=>by rw [← hH2,ae (by omega)]; exact hfr i k1 k2
 rw [hH2];clear zz;clear hH2 hb1 hs hfr
 obtain ⟨z,hz,hzl⟩:∃ z:Nat,(if l ≤ r then (r:Int) - l else (r:Int))=(z:Int)∧z < l:=by
  split
  ·exact ⟨r - l,by omega,by omega⟩
  ·exact ⟨r,rfl,by omega⟩
 obtain ⟨M1,hl1,lm1,lm2⟩:=dZ (f:=f) (M:=M) (i:=i) (j:=a + z) (by omega) (by omega);have lm3:=lm2;simp only [bK,bN,fL,cb] at lm1 lm2;by_cases hrl:l ≤ r
 ·rw [if_pos hrl] at hz;have zz:=aI @wm (aI @hr1 (aI @hz (aI @hb2 (aI @ti (aI @gj (aI hc.cells (aI hc.one (aI @lm1 @lm2)))))))); repeat' (first|refine zW ?_|apply a_n|refine zO ?_|refine vZ ?_|refine stZ ?_|(refine zGZ ?_ ?_ <;> (intro _hg; try (exfalso; omega)))|fail)
  exact ⟨(i + 1,swp M i (a + z)),by dsimp only; omega,⟨by dsimp only; omega,by dsimp only; omega,by dsimp only; rw [a7,lm3,ai],⟨s1,by rw [a7,ae (Ne.symm hbn)]; exact hs2⟩,fun i k1 k2=>by rw [a7,ae k2]; exact hfr2 i k1 k2,rfl,hp1.trans (PermR.swap (by omega) (by omega) (by omega))⟩,ag0⟩
 ·rw [if_neg hrl] at hz;have hz':r=z:=by omega
  subst hz';have zz:=aI @wm (aI @hr1 (aI @hb2 (aI @ti (aI @gj (aI hc.cells (aI hc.one (aI @lm1 @lm2))))))); repeat' (first|refine zW ?_|apply a_n|refine zO ?_|refine vZ ?_|refine stZ ?_|(refine zGZ ?_ ?_ <;> (intro _hg; try (exfalso; omega)))|fail)
  exact ⟨(i + 1,swp M i (a + r)),by dsimp only; omega,⟨by dsimp only; omega,by dsimp only; omega,by dsimp only; rw [a7,lm3,ai],⟨s1,by rw [a7,ae (Ne.symm hbn)]; exact hs2⟩,fun i k1 k2=>by rw [a7,ae k2]; exact hfr2 i k1 k2,rfl,hp1.trans (PermR.swap (by omega) (by omega) (by omega))⟩,ag0⟩
end
end Go.Proofs.YtlodfaaceehfmaaGreat
namespace Go.Proofs.YtlodfaaceehfmaaGreat
open Go Go.Abs
structure PS (H H1:Hp) (nx n1 b:Nat) (cs:List AV):Prop where
 at_:H1 b=some cs
 fr:∀ i,i < nx→i ≠ b→H1 i=H i
 le:nx ≤ n1
section
variable {H H1 H2:Hp} {nx n1 n2 b:Nat} {cs cs':List AV}
theorem PS.upd (h:PS H H1 nx n1 b cs):PS H (aq H1 b cs') nx n1 b cs':=⟨ai,fun i k1 k2=>by rw [ae k2]; exact h.fr i k1 k2,h.le⟩
theorem PS.new {v:List AV} (hb:b < nx) (h:PS H H1 nx n1 b cs):PS H (aq H1 n1 v) nx (n1 + 1) b cs :=
 have h1:=h.le
 ⟨by rw [ae (by omega)]; exact h.at_,fun i k1 k2=>by rw [ae (by omega)]; exact h.fr i k1 k2,by omega⟩
theorem PS.rec_ (h:PS H H1 nx n1 b cs) (h1:H2 b=some cs') (h2:∀ i,i < n1→i ≠ b→H2 i=H1 i) (h3:n1 ≤ n2):PS H H2 nx n2 b cs' :=
 have h4:=h.le
 ⟨h1,fun i k1 k2=>by rw [h2 i (by omega) k2]; exact h.fr i k1 k2,by omega⟩
end
section
variable {α:Type} [Inhabited α] {f:α→AV} {K:α→α→Int} {G:α→Prop} {g:Nat} {caps:List AV}
structure PI {α:Type} [Inhabited α] (K:α→α→Int) (a e:Nat) (L:List α) (a1 e1:Nat) (M:List α):Prop where
 lo:a ≤ a1
 mid:a1 ≤ e1
 hi:e1 ≤ e
 len:e ≤ L.length
 perm:PermR a e L M
 low:tQ K a1 e1 M
 close:∀ N,PermR a1 e1 M N→bv K a1 e1 N→bv K a e N
variable {a e a1 e1:Nat} {L M N:List α}
theorem PI.mlen (h:PI K a e L a1 e1 M):e1 ≤ M.length:=by rw [h.perm.len]; exact fM h.hi h.len
theorem PI.start (h1:a ≤ e) (h2:e ≤ L.length) (h3:tQ K a e L):PI K a e L a e L:=⟨aP _,h1,aP _,h2,.refl,h3,fun _ _ h=>h⟩
theorem PI.swap (h:PI K a e L a1 e1 M) (hp:PermR a1 e1 M N):PI K a e L a1 e1 N :=
 ⟨h.lo,h.mid,h.hi,h.len,h.perm.trans (hp.mono h.lo h.hi),h.low.perm hp h.mid h.mlen,fun N' k1 k2=>h.close N' (hp.trans k1) k2⟩
theorem PI.done (h:PI K a e L a1 e1 M) (hp:PermR a1 e1 M N) (hs:bv K a1 e1 N):PermR a e L N∧bv K a e N:=⟨h.perm.trans (hp.mono h.lo h.hi),h.close N hp hs⟩
theorem PI.equal {v:α} {m:Nat} (hK:Ord K) (h:PI K a e L a1 e1 M) (hp:PermR a1 e1 M N) (hv:¬ K (M.getD (a1 - 1) default) v < 0) (ha:0 < a1) (hm:a1 < m∧m ≤ e1) (h1:∀ p,a1 ≤ p→p < m→¬ K v (N.getD p default) < 0) (h2:∀ q,m ≤ q→q < e1→K v (N.getD q default) < 0):PI K a e L m e1 N:=by
 have hN:=h.swap hp;have hlow:=hN.low;have ho:N.getD (a1 - 1) default=M.getD (a1 - 1) default:=hp.out _ (.inl (by omega));refine ⟨by have:=h.lo; omega,hm.2,h.hi,h.len,hN.perm,fun q k0 k1 k2=>hK.negtr _ _ _ (h1 (m - 1) (by omega) (by omega)) (hK.asym _ _ (h2 q k1 k2)),fun N' k1 k2=>hN.close N' (k1.mono (by omega) (aP _)) (fun p q c1 c2 c3=>?_)⟩;by_cases e1':m ≤ p
 ·exact k2 p q e1' c2 c3
 ·rw [k1.out p (.inl (by omega))];refine hK.negtr _ _ _ (h1 p c1 (by omega)) ?_;by_cases e2:m ≤ q
  ·exact hK.asym _ _ (k1.all (p:=fun x=>K v x < 0) hm.2 hN.mlen h2 q e2 c3)
  ·rw [k1.out q (.inl (by omega))];exact hK.negtr _ _ _ hv (by rw [← ho]; exact hlow q ha (by omega) c3)
theorem bv.glue {m:Nat} (hK:Ord K) (h1:bv K a1 m N) (h2:bv K (m + 1) e1 N) (h3:∀ p,a1 ≤ p→p < m→¬ K (N.getD m default) (N.getD p default) < 0) (h4:∀ q,m < q→q < e1→¬ K (N.getD q default) (N.getD m default) < 0):bv K a1 e1 N:=fun p q k1 k2 k3=>by
 by_cases c1:q < m
 ·exact h1 p q k1 k2 c1
 ·by_cases c2:m < p
  ·exact h2 p q c2 k2 k3
  ·by_cases c3:p=m
   ·subst c3; exact h4 q (by omega) k3
   ·by_cases c4:q=m
    ·subst c4; exact h3 p k1 k2
    ·exact hK.negtr _ _ _ (h3 p k1 (by omega)) (h4 q (by omega) k3)
structure TwoS {α:Type} [Inhabited α] (K:α→α→Int) (a1 e1 m:Nat) (N:List α):Prop where
 mid:a1 ≤ m∧m < e1
 lt:∀ p,a1 ≤ p→p < m→¬ K (N.getD m default) (N.getD p default) < 0
 ge:∀ q,m < q→q < e1→¬ K (N.getD q default) (N.getD m default) < 0
theorem TwoS.left {m:Nat} {N':List α} (h:TwoS K a1 e1 m N) (hp:PermR a1 m N N') (hl:e1 ≤ N.length):TwoS K a1 e1 m N' :=
 have hm:=h.mid
 ⟨hm,by
  rw [hp.out m (.inr (aP _))];exact hp.all (p:=fun x=>¬ K (N.getD m default) x < 0) hm.1 (by omega) h.lt,fun q k1 k2=>by rw [hp.out m (.inr (aP _)),hp.out q (.inr (by omega))]; exact h.ge q k1 k2⟩
theorem TwoS.right {m:Nat} {N':List α} (h:TwoS K a1 e1 m N) (hp:PermR (m + 1) e1 N N') (hl:e1 ≤ N.length):TwoS K a1 e1 m N' :=
 have hm:=h.mid
 ⟨hm,fun p k1 k2=>by rw [hp.out m (.inl (by omega)),hp.out p (.inl (by omega))]; exact h.lt p k1 k2,by
  rw [hp.out m (.inl (by omega))];exact fun q k1 k2=>hp.all (p:=fun x=>¬ K x (N.getD m default) < 0) (by omega) hl (fun i c1 c2=>h.ge i (by omega) c2) q (by omega) k2⟩
theorem PI.left {m:Nat} (hK:Ord K) (h:PI K a e L a1 e1 M) (ht:TwoS K a1 e1 m M) (hp:PermR a1 m M N) (hs:bv K a1 m N):PI K a e L (m + 1) e1 N:=by
 have hm:=ht.mid;have hN:=h.swap (hp.mono (aP _) (by omega));have htN:=ht.left hp h.mlen;refine ⟨by have:=h.lo; omega,by omega,h.hi,h.len,hN.perm,fun q k0 k1 k2=>by rw [qF]; exact htN.ge q k1 k2,fun N' k1 k2=>hN.close N' (k1.mono (by omega) (aP _)) ?_⟩;have ht':=htN.right k1 hN.mlen;exact bv.glue hK (fun p q c1 c2 c3=>by rw [k1.out p (.inl (by omega)),k1.out q (.inl (by omega))]; exact hs p q c1 c2 c3) k2 ht'.lt ht'.ge
theorem PI.right {m:Nat} (hK:Ord K) (h:PI K a e L a1 e1 M) (ht:TwoS K a1 e1 m M) (hp:PermR (m + 1) e1 M N) (hs:bv K (m + 1) e1 N):PI K a e L a1 m N:=by
 have hm:=ht.mid;have hN:=h.swap (hp.mono (by omega) (aP _));have htN:=ht.right hp h.mlen;refine ⟨h.lo,hm.1,by have:=h.hi; omega,h.len,hN.perm,fun q k0 k1 k2=>hN.low q k0 k1 (by omega),fun N' k1 k2=>hN.close N' (k1.mono (aP _) (by omega)) ?_⟩;have ht':=htN.left k1 hN.mlen;exact bv.glue hK k2 (fun p q c1 c2 c3=>by rw [k1.out p (.inr (by omega)),k1.out q (.inr (by omega))]; exact hs p q c1 c2 c3) ht'.lt ht'.ge
theorem tQ.sub {a e a' e':Nat} {M:List α} (h:tQ K a e M) (ha:a'=a) (he:e' ≤ e):tQ K a' e' M:=fun q k0 k1 k2=>by subst ha; exact h q k0 k1 (by omega)
end
section
variable {α:Type} [Inhabited α] {f:α→AV} {K:α→α→Int} {G:α→Prop} {g:Nat} {caps:List AV}
attribute [local irreducible] aM am bm be aX a6 aG aZ bf bI Go.Abs.Fn bc Go.Abs.Pure aB aQ Yl
theorem Jc (hc:Cmp Tryz.prog f K G g caps) {b n:Nat} (hn2:n ≤ 1000000000):∀ (sz a e lim:Nat) (L:List α) (H:Hp) (nx:Nat),e - a < sz→H b=some (L.map f)→b < nx→L.length=n→(∀ x ∈ L,G x)→a ≤ e→e ≤ n→lim ≤ 64→tQ K a e L →
    Abs.Fn Tryz.prog 78 [.msl b n 1 0 n,.int .i64 a,.int .i64 e,.int .i64 lim,.func g caps] H nx fun r H' nx'=>∃ L',PS H H' nx nx' b (L'.map f)∧PermR a e L L'∧bv K a e L':=by
 intro sz
 induction sz with
 | zero=>intro a e lim L H nx h; omega
 | succ sz ih =>
 intro a e lim L H nx hsz hH hbx hn hG hae hen hlim hlow;have dcap:=hc.dcaps;refine Abs.Fn.of_c2 follows I9 (br rfl) ?_;simp only [b78,aU]
 repeat' (first|refine zW ?_|apply a_n|refine zO ?_|refine vZ ?_|fail)
 refine bC (X:=Nat × Nat × Nat × Bool × Bool × List α) (fun x=>[(0,.msl b n 1 0 n),(1,.int .i64 (x.1:Nat)),(2,.int .i64 (x.2.1:Nat)),(3,.int .i64 (x.2.2.1:Nat)),(4,.func g caps),(10,.bool x.2.2.2.1),(11,.bool x.2.2.2.2.1)]) (fun x H' nxx=>PI K a e L x.1 x.2.1 x.2.2.2.2.2∧PS H H' nx nxx b (x.2.2.2.2.2.map f)∧x.2.2.1 ≤ 64) (fun x=>x.2.1 - x.1) (a,e,lim,true,true,L) ⟨.start hae (by rw [hn]; exact hen) hlow,⟨hH,fun _ _ _=>rfl,aP _⟩,hlim⟩ ag0 ?_;clear hlim hlow lim;rintro ⟨a1,e1,lim,wb,wp,M⟩ H1 n1 ⟨hpi,hps,hlim⟩;dsimp only at *;have hlo:=hpi.lo; have hmid:=hpi.mid; have hhi:=hpi.hi;obtain ⟨l,hl0⟩:∃ l,e1 - a1=l:=⟨_,rfl⟩
 rw [hl0];have te:(e1:Int) - (a1:Int)=(l:Int):=by omega
 have hlen:∀ M:List α,PI K a e L a1 e1 M→M.length=n:=fun M h=>by rw [h.perm.len,hn]
 have hGA:∀ M:List α,PI K a e L a1 e1 M→∀ x ∈ M,G x:=fun M h=>h.perm.mem hG;have hbn:∀ (M:List α) (H1:Hp) (n1:Nat),PS H H1 nx n1 b (M.map f)→b < n1:=fun M H1 n1 h=>by have:=h.le; omega
 obtain ⟨T,hT,t0,t1,t2,t3,t4,t10,t11⟩:∃ T,tl [(0,.msl b n 1 0 n),(1,.int .i64 (a1:Nat)),(2,.int .i64 (e1:Nat)),(3,.int .i64 (lim:Nat)),(4,.func g caps),(10,.bool wb),(11,.bool wp)]=T∧T 0=.msl b n 1 0 n∧T 1=.int .i64 (a1:Nat)∧T 2=.int .i64 (e1:Nat)∧T 3=.int .i64 (lim:Nat)∧T 4=.func g caps∧T 10=.bool wb∧T 11=.bool wp:=⟨_,rfl,rfl,rfl,rfl,rfl,rfl,rfl,rfl⟩
 rw [hT];clear hT;refine iX ?_;refine cr (fun T H'' nx''=>T 0=.msl b n 1 0 n∧T 1=.int .i64 (a1:Nat)∧T 2=.int .i64 (e1:Nat)∧T 3=.int .i64 (lim:Nat)∧T 4=.func g caps∧T 10=.bool wb∧T 11=.bool wp∧T 12=.int .i64 (l:Nat)∧H1=H''∧n1=nx'') ?_ ?_
 ·have zz:=aI @t0 (aI @t1 (aI @t2 (aI @t3 (aI @t4 (aI @t10 (aI @t11 @te)))))); repeat' (first|apply a_n|refine zO ?_|refine vZ ?_|fail)
  exact ⟨(have zz:=@t0; evZ),(have zz:=@t1; evZ),(have zz:=@t2; evZ),(have zz:=@t3; evZ),(have zz:=@t4; evZ),(have zz:=@t10; evZ),(have zz:=@t11; evZ),ev0,rfl,rfl⟩
 clear t0 t1 t2 t3 t4 t10 t11;rintro T _ _ ⟨t0,t1,t2,t3,t4,t10,t11,t12,rfl,rfl⟩;refine cr (fun T H'' nx''=>T 0=.msl b n 1 0 n∧T 1=.int .i64 (a1:Nat)∧T 2=.int .i64 (e1:Nat)∧T 3=.int .i64 (lim:Nat)∧T 4=.func g caps∧T 10=.bool wb∧T 11=.bool wp∧T 12=.int .i64 (l:Nat)∧13 ≤ l∧H1=H''∧n1=nx'') ?_ ?_
 ·by_cases h12:l ≤ 12
  ·have zz:=aI @t0 (aI @t1 (aI @t2 (aI @t3 (aI @t4 (aI @t10 (aI @t11 @t12)))))); repeat' (first|refine zW ?_|apply a_n|refine zO ?_|refine vZ ?_|(refine zGZ ?_ ?_ <;> (intro _hg; try (exfalso; omega)))|fail)
   refine bn ev0 (have zz:=aI @t0 (aI @t1 (aI @t2 (aI @t3 (aI @t4 (aI @t10 (aI @t11 @t12)))))); evZ) (IR hc (b:=b) hps.at_ (hlen _ hpi) (hGA _ hpi) (a:=a1) (e:=e1) hmid (by omega) hn2) ?_;rintro _ _ _ ⟨rfl,N,rfl,hpN,hsN⟩
   repeat' (first|apply a_n|apply a_r|refine zO ?_|refine ak rfl ?_|fail)
   exact ⟨N,hps.upd,hpi.done hpN hsN⟩
  ·have zz:=aI @t0 (aI @t1 (aI @t2 (aI @t3 (aI @t4 (aI @t10 (aI @t11 @t12)))))); repeat' (first|refine zW ?_|apply a_n|refine zO ?_|refine vZ ?_|(refine zGZ ?_ ?_ <;> (intro _hg; try (exfalso; omega)))|fail)
   exact ⟨(have zz:=@t0; evZ),(have zz:=@t1; evZ),(have zz:=@t2; evZ),(have zz:=@t3; evZ),(have zz:=@t4; evZ),(have zz:=@t10; evZ),(have zz:=@t11; evZ),(have zz:=@t12; evZ),by omega,rfl,rfl⟩
 clear t0 t1 t2 t3 t4 t10 t11 t12;rintro T _ _ ⟨t0,t1,t2,t3,t4,t10,t11,t12,h13,rfl,rfl⟩;refine cr (fun T H'' nx''=>T 0=.msl b n 1 0 n∧T 1=.int .i64 (a1:Nat)∧T 2=.int .i64 (e1:Nat)∧T 3=.int .i64 (lim:Nat)∧T 4=.func g caps∧T 10=.bool wb∧T 11=.bool wp∧T 12=.int .i64 (l:Nat)∧0 < lim∧H1=H''∧n1=nx'') ?_ ?_
 ·by_cases h12:lim=0
  ·subst h12;have tz:decide (((0:Nat):Int)=0)=true:=rfl;have zz:=aI @t0 (aI @t1 (aI @t2 (aI @t3 (aI @t4 (aI @t10 (aI @t11 (aI @t12 @tz))))))); repeat' (first|refine zW ?_|apply a_n|refine zO ?_|refine vZ ?_|refine cTZ ?_|fail)
   refine bn ev0 (have zz:=aI @t0 (aI @t1 (aI @t2 (aI @t3 (aI @t4 (aI @t10 (aI @t11 @t12)))))); evZ) (GX hc (b:=b) hps.at_ (hlen _ hpi) (hGA _ hpi) (a:=a1) (e:=e1) hmid (by omega) hn2) ?_;rintro _ _ _ ⟨rfl,N,rfl,hpN,hsN⟩
   repeat' (first|apply a_n|apply a_r|refine zO ?_|refine ak rfl ?_|fail)
   exact ⟨N,hps.upd,hpi.done hpN hsN⟩
  ·have tz:decide ((lim:Int)=0)=false:=bj (by omega);have zz:=aI @t0 (aI @t1 (aI @t2 (aI @t3 (aI @t4 (aI @t10 (aI @t11 (aI @t12 @tz))))))); repeat' (first|refine zW ?_|apply a_n|refine zO ?_|refine vZ ?_|refine cFZ ?_|fail)
   exact ⟨(have zz:=@t0; evZ),(have zz:=@t1; evZ),(have zz:=@t2; evZ),(have zz:=@t3; evZ),(have zz:=@t4; evZ),(have zz:=@t10; evZ),(have zz:=@t11; evZ),(have zz:=@t12; evZ),by omega,rfl,rfl⟩
 clear t0 t1 t2 t3 t4 t10 t11 t12;rintro T _ _ ⟨t0,t1,t2,t3,t4,t10,t11,t12,hlim1,rfl,rfl⟩;refine cr (fun T H'' nx''=>∃ (lim:Nat) (M:List α),lim ≤ 64∧PI K a e L a1 e1 M∧PS H H'' nx nx'' b (M.map f)∧T 0=.msl b n 1 0 n∧T 1=.int .i64 (a1:Nat)∧T 2=.int .i64 (e1:Nat)∧T 3=.int .i64 (lim:Nat)∧T 4=.func g caps∧T 10=.bool wb∧T 11=.bool wp∧T 12=.int .i64 (l:Nat)) ?_ ?_
 ·cases wb
  ·obtain ⟨k,rfl⟩:∃ k,lim=k + 1:=⟨lim - 1,by omega⟩
   have tk:((k + 1:Nat):Int) - 1=(k:Int):=by omega
   have zz:=aI @t0 (aI @t1 (aI @t2 (aI @t3 (aI @t4 (aI @t10 (aI @t11 @t12)))))); repeat' (first|refine zW ?_|apply a_n|refine zO ?_|refine vZ ?_|refine cTZ ?_|fail)
   refine bn ev0 (have zz:=aI @t0 (aI @t1 (aI @t2 (aI @t3 (aI @t4 (aI @t10 (aI @t11 @t12)))))); evZ) (FJ hc (b:=b) hps.at_ (hbn _ _ _ hps) (hlen _ hpi) (a:=a1) (e:=e1) (by omega) (by omega) hn2) ?_;rintro _ _ _ ⟨rfl,N,hN1,hN2,hpN⟩;clear zz;have zz:=aI @t0 (aI @t1 (aI @t2 (aI @t3 (aI @t4 (aI @t10 (aI @t11 (aI @t12 @tk))))))); repeat' (first|apply a_n|refine zO ?_|refine vZ ?_|fail)
   exact ⟨k,N,by omega,hpi.swap hpN,hps.rec_ hN1 hN2 (Nat.le_succ _),(have zz:=@t0; evZ),(have zz:=@t1; evZ),(have zz:=@t2; evZ),(have zz:=@t3; evZ),(have zz:=@t4; evZ),(have zz:=@t10; evZ),(have zz:=@t11; evZ),(have zz:=@t12; evZ)⟩
  ·have zz:=aI @t0 (aI @t1 (aI @t2 (aI @t3 (aI @t4 (aI @t10 (aI @t11 @t12)))))); repeat' (first|refine zW ?_|apply a_n|refine zO ?_|refine vZ ?_|refine cFZ ?_|fail)
   exact ⟨lim,M,hlim,hpi,hps,(have zz:=@t0; evZ),(have zz:=@t1; evZ),(have zz:=@t2; evZ),(have zz:=@t3; evZ),(have zz:=@t4; evZ),(have zz:=@t10; evZ),(have zz:=@t11; evZ),(have zz:=@t12; evZ)⟩
 clear t0 t1 t2 t3 t4 t10 t11 t12 hpi hps hlim hlim1;rintro T H1 n1 ⟨lim,M,hlim,hpi,hps,t0,t1,t2,t3,t4,t10,t11,t12⟩;refine cr (fun T H'' nx''=>∃ (p:Nat) (hint:Int),a1 ≤ p∧p < e1∧PS H H'' nx nx'' b (M.map f)∧T 0=.msl b n 1 0 n∧T 1=.int .i64 (a1:Nat)∧T 2=.int .i64 (e1:Nat)∧T 3=.int .i64 (lim:Nat)∧T 4=.func g caps∧T 10=.bool wb∧T 11=.bool wp∧T 12=.int .i64 (l:Nat)∧T 13=.int .i64 (p:Nat)∧T 14=.int .i64 hint) ?_ ?_
 ·have zz:=aI @t0 (aI @t1 (aI @t2 (aI @t3 (aI @t4 (aI @t10 (aI @t11 @t12)))))); repeat' (first|apply a_n|refine zO ?_|refine vZ ?_|fail)
  refine bn ev0 (have zz:=aI @t0 (aI @t1 (aI @t2 (aI @t3 (aI @t4 (aI @t10 (aI @t11 @t12)))))); evZ) (DH hc (b:=b) hps.at_ (hbn _ _ _ hps) (hlen _ hpi) (hGA _ hpi) (a:=a1) (e:=e1) (by omega) (by omega) hn2) ?_;rintro _ _ _ ⟨rfl,p,hint,v,rfl,hp1,hp2,rfl⟩;clear zz;have zz:=aI @t0 (aI @t1 (aI @t2 (aI @t3 (aI @t4 (aI @t10 (aI @t11 @t12)))))); repeat' (first|apply a_n|refine zO ?_|refine vZ ?_|fail)
  exact ⟨p,hint,hp1,hp2,hps.new hbx,(have zz:=@t0; evZ),(have zz:=@t1; evZ),(have zz:=@t2; evZ),(have zz:=@t3; evZ),(have zz:=@t4; evZ),(have zz:=@t10; evZ),(have zz:=@t11; evZ),(have zz:=@t12; evZ),ev0,ev0⟩
 clear t0 t1 t2 t3 t4 t10 t11 t12 hps;rintro T H1 n1 ⟨p,hint,hp1,hp2,hps,t0,t1,t2,t3,t4,t10,t11,t12,t13,t14⟩;refine cr (fun T H'' nx''=>∃ (p:Nat) (hint:Int) (M:List α),a1 ≤ p∧p < e1∧PI K a e L a1 e1 M∧PS H H'' nx nx'' b (M.map f)∧T 0=.msl b n 1 0 n∧T 1=.int .i64 (a1:Nat)∧T 2=.int .i64 (e1:Nat)∧T 3=.int .i64 (lim:Nat)∧T 4=.func g caps∧T 10=.bool wb∧T 11=.bool wp∧T 12=.int .i64 (l:Nat)∧T 13=.int .i64 (p:Nat)∧T 14=.int .i64 hint) ?_ ?_
 ·by_cases h2:hint=2
  ·subst h2;obtain ⟨p2,hp3⟩:∃ p2,e1 - 1 - (p - a1)=p2:=⟨_,rfl⟩
   have tp:(e1:Int) - 1 - ((p:Int) - (a1:Int))=(p2:Int):=by omega
   have tz:decide ((2:Int)=2)=true:=rfl;have zz:=aI @t0 (aI @t1 (aI @t2 (aI @t3 (aI @t4 (aI @t10 (aI @t11 (aI @t12 (aI @t13 (aI @t14 @tz))))))))); repeat' (first|refine zW ?_|apply a_n|refine zO ?_|refine vZ ?_|(refine zGZ ?_ ?_ <;> (intro _hg; try (exfalso; omega)))|fail)
   refine bn ev0 (have zz:=aI @t0 (aI @t1 (aI @t2 (aI @t3 (aI @t4 (aI @t10 (aI @t11 @t12)))))); evZ) (Ip hc (b:=b) hps.at_ (hlen _ hpi) (a:=a1) (e:=e1) (by omega) (by omega) hn2) ?_;rintro _ _ _ ⟨rfl,N,rfl,hpN⟩;clear zz;have zz:=aI @t0 (aI @t1 (aI @t2 (aI @t3 (aI @t4 (aI @t10 (aI @t11 (aI @t12 (aI @t13 (aI @t14 @tp))))))))); repeat' (first|refine zW ?_|apply a_n|refine zO ?_|refine vZ ?_|fail)
   exact ⟨p2,1,N,by omega,by omega,hpi.swap hpN,hps.upd,(have zz:=@t0; evZ),(have zz:=@t1; evZ),(have zz:=@t2; evZ),(have zz:=@t3; evZ),(have zz:=@t4; evZ),(have zz:=@t10; evZ),(have zz:=@t11; evZ),(have zz:=@t12; evZ),ev0,ev0⟩
  ·have tz:decide (hint=2)=false:=bj h2;have zz:=aI @t0 (aI @t1 (aI @t2 (aI @t3 (aI @t4 (aI @t10 (aI @t11 (aI @t12 (aI @t13 (aI @t14 @tz))))))))); repeat' (first|refine zW ?_|apply a_n|refine zO ?_|refine vZ ?_|refine cFZ ?_|fail)
   exact ⟨p,hint,M,hp1,hp2,hpi,hps,(have zz:=@t0; evZ),(have zz:=@t1; evZ),(have zz:=@t2; evZ),(have zz:=@t3; evZ),(have zz:=@t4; evZ),(have zz:=@t10; evZ),(have zz:=@t11; evZ),(have zz:=@t12; evZ),(have zz:=@t13; evZ),(have zz:=@t14; evZ)⟩
 clear t0 t1 t2 t3 t4 t10 t11 t12 t13 t14 hps hpi hp1 hp2;rintro T H1 n1 ⟨p,hint,M,hp1,hp2,hpi,hps,t0,t1,t2,t3,t4,t10,t11,t12,t13,t14⟩;refine cr (fun T H'' nx''=>∃ (M:List α),PI K a e L a1 e1 M∧PS H H'' nx nx'' b (M.map f)∧T 0=.msl b n 1 0 n∧T 1=.int .i64 (a1:Nat)∧T 2=.int .i64 (e1:Nat)∧T 3=.int .i64 (lim:Nat)∧T 4=.func g caps∧T 10=.bool wb∧T 11=.bool wp∧T 12=.int .i64 (l:Nat)∧T 13=.int .i64 (p:Nat)) ?_ ?_
 ·cases wb
  ·cases wp
   ·have zz:=aI @t0 (aI @t1 (aI @t2 (aI @t3 (aI @t4 (aI @t10 (aI @t11 (aI @t12 (aI @t13 @t14)))))))); repeat' (first|refine zW ?_|apply a_n|refine zO ?_|refine vZ ?_|refine gFZ ?_|refine cFZ ?_|fail)
    exact ⟨M,hpi,hps,(have zz:=@t0; evZ),(have zz:=@t1; evZ),(have zz:=@t2; evZ),(have zz:=@t3; evZ),(have zz:=@t4; evZ),(have zz:=@t10; evZ),(have zz:=@t11; evZ),(have zz:=@t12; evZ),(have zz:=@t13; evZ)⟩
   ·have zz:=aI @t0 (aI @t1 (aI @t2 (aI @t3 (aI @t4 (aI @t10 (aI @t11 (aI @t12 (aI @t13 @t14)))))))); repeat' (first|refine zW ?_|apply a_n|refine zO ?_|refine vZ ?_|refine gFZ ?_|refine cFZ ?_|fail)
    exact ⟨M,hpi,hps,(have zz:=@t0; evZ),(have zz:=@t1; evZ),(have zz:=@t2; evZ),(have zz:=@t3; evZ),(have zz:=@t4; evZ),(have zz:=@t10; evZ),(have zz:=@t11; evZ),(have zz:=@t12; evZ),(have zz:=@t13; evZ)⟩
  ·cases wp
   ·have zz:=aI @t0 (aI @t1 (aI @t2 (aI @t3 (aI @t4 (aI @t10 (aI @t11 (aI @t12 (aI @t13 @t14)))))))); repeat' (first|refine zW ?_|apply a_n|refine zO ?_|refine vZ ?_|refine gTZ ?_|refine gFZ ?_|refine cFZ ?_|fail)
    exact ⟨M,hpi,hps,(have zz:=@t0; evZ),(have zz:=@t1; evZ),(have zz:=@t2; evZ),(have zz:=@t3; evZ),(have zz:=@t4; evZ),(have zz:=@t10; evZ),(have zz:=@t11; evZ),(have zz:=@t12; evZ),(have zz:=@t13; evZ)⟩
   ·by_cases h1:hint=1
    ·subst h1;have tz:decide ((1:Int)=1)=true:=rfl;have zz:=aI @t0 (aI @t1 (aI @t2 (aI @t3 (aI @t4 (aI @t10 (aI @t11 (aI @t12 (aI @t13 (aI @t14 @tz))))))))); repeat' (first|refine zW ?_|apply a_n|refine zO ?_|refine vZ ?_|refine gTZ ?_|(refine zGZ ?_ ?_ <;> (intro _hg; try (exfalso; omega)))|fail)
     refine bn ev0 (have zz:=aI @t0 (aI @t1 (aI @t2 (aI @t3 (aI @t4 (aI @t10 (aI @t11 @t12)))))); evZ) (CI hc (b:=b) hps.at_ (hlen _ hpi) (hGA _ hpi) (a:=a1) (e:=e1) (by omega) (by omega) hn2 hpi.low) ?_;rintro _ _ _ ⟨rfl,N,t,rfl,rfl,hpN,hsN⟩;cases t
     ·clear zz;have zz:=aI @t0 (aI @t1 (aI @t2 (aI @t3 (aI @t4 (aI @t10 (aI @t11 (aI @t12 (aI @t13 @t14)))))))); repeat' (first|apply a_n|refine zO ?_|refine cFZ ?_|fail)
      exact ⟨N,hpi.swap hpN,hps.upd,(have zz:=@t0; evZ),(have zz:=@t1; evZ),(have zz:=@t2; evZ),(have zz:=@t3; evZ),(have zz:=@t4; evZ),(have zz:=@t10; evZ),(have zz:=@t11; evZ),(have zz:=@t12; evZ),(have zz:=@t13; evZ)⟩
     ·clear zz;have zz:=aI @t0 (aI @t1 (aI @t2 (aI @t3 (aI @t4 (aI @t10 (aI @t11 (aI @t12 (aI @t13 @t14)))))))); repeat' (first|apply a_n|apply a_r|refine zO ?_|refine cTZ ?_|refine ak rfl ?_|fail)
      exact ⟨N,hps.upd,hpi.done hpN (hsN rfl)⟩
    ·have tz:decide (hint=1)=false:=bj h1;have zz:=aI @t0 (aI @t1 (aI @t2 (aI @t3 (aI @t4 (aI @t10 (aI @t11 (aI @t12 (aI @t13 (aI @t14 @tz))))))))); repeat' (first|refine zW ?_|apply a_n|refine zO ?_|refine vZ ?_|refine gTZ ?_|refine cFZ ?_|fail)
     exact ⟨M,hpi,hps,(have zz:=@t0; evZ),(have zz:=@t1; evZ),(have zz:=@t2; evZ),(have zz:=@t3; evZ),(have zz:=@t4; evZ),(have zz:=@t10; evZ),(have zz:=@t11; evZ),(have zz:=@t12; evZ),(have zz:=@t13; evZ)⟩
 clear t0 t1 t2 t3 t4 t10 t11 t12 t13 t14 hps hpi hint;rintro T H1 n1 ⟨M,hpi,hps,t0,t1,t2,t3,t4,t10,t11,t12,t13⟩;have hbb:=hps.at_;have hl:=hlen _ hpi;have hGM:=hGA _ hpi;refine cr (fun T H'' nx''=>T 0=.msl b n 1 0 n∧T 1=.int .i64 (a1:Nat)∧T 2=.int .i64 (e1:Nat)∧T 3=.int .i64 (lim:Nat)∧T 4=.func g caps∧T 10=.bool wb∧T 11=.bool wp∧T 12=.int .i64 (l:Nat)∧T 13=.int .i64 (p:Nat)∧H1=H''∧n1=nx'') ?_ ?_
 ·by_cases ha0:a1=0
  ·have tz:decide ((0:Int) < (a1:Int))=false:=bj (by omega);have zz:=aI @t0 (aI @t1 (aI @t2 (aI @t3 (aI @t4 (aI @t10 (aI @t11 (aI @t12 (aI @t13 @tz)))))))); repeat' (first|refine zW ?_|refine zM ?_|apply a_n|refine zO ?_|refine vZ ?_|refine gFZ ?_|refine cFZ ?_|fail)
   exact ⟨(have zz:=@t0; evZ),(have zz:=@t1; evZ),(have zz:=@t2; evZ),(have zz:=@t3; evZ),(have zz:=@t4; evZ),(have zz:=@t10; evZ),(have zz:=@t11; evZ),(have zz:=@t12; evZ),(have zz:=@t13; evZ),rfl,rfl⟩
  have tz:decide ((0:Int) < (a1:Int))=true:=bt (by omega);obtain ⟨k,hk⟩:∃ k,a1 - 1=k:=⟨_,rfl⟩
  have tk:(a1:Int) - 1=(k:Int):=by omega
  have lc:=hc.run (M.getD k default) (M.getD p default) (hGM _ (ba (by omega))) (hGM _ (ba (by omega)));have d1:=hc.dat (M.getD k default);have d2:=hc.dat (M.getD p default);generalize hKK:K (M.getD k default) (M.getD p default)=kk at lc;by_cases hlt:kk < 0
  ·have zz:=aI @t0 (aI @t1 (aI @t2 (aI @t3 (aI @t4 (aI @t10 (aI @t11 (aI @t12 (aI @t13 (aI @tz (aI @tk (aI @hbb (aI @cQ (aI hc.cells hc.one))))))))))))); repeat' (first|refine zW ?_|refine zM ?_|apply a_n|refine zO ?_|refine vZ ?_|refine cZ ?_ (hp:=lc) (hs:=by (first | refine af ?_ rfl | apply ag); (repeat' (first | exact ac | apply an | apply ah | exact d1 | exact d2 | exact bd dcap)); first | done | fail)|refine gTZ ?_|(refine zGZ ?_ ?_ <;> (intro _hg; try (exfalso; omega)))|fail)
   exact ⟨(have zz:=@t0; evZ),(have zz:=@t1; evZ),(have zz:=@t2; evZ),(have zz:=@t3; evZ),(have zz:=@t4; evZ),(have zz:=@t10; evZ),(have zz:=@t11; evZ),(have zz:=@t12; evZ),(have zz:=@t13; evZ),rfl,rfl⟩
  ·have zz:=aI @t0 (aI @t1 (aI @t2 (aI @t3 (aI @t4 (aI @t10 (aI @t11 (aI @t12 (aI @t13 (aI @tz (aI @tk (aI @hbb (aI @cQ (aI hc.cells hc.one))))))))))))); repeat' (first|refine zW ?_|refine zM ?_|apply a_n|refine zO ?_|refine vZ ?_|refine cZ ?_ (hp:=lc) (hs:=by (first | refine af ?_ rfl | apply ag); (repeat' (first | exact ac | apply an | apply ah | exact d1 | exact d2 | exact bd dcap)); first | done | fail)|refine gTZ ?_|(refine zGZ ?_ ?_ <;> (intro _hg; try (exfalso; omega)))|fail)
   refine bn ev0 (have zz:=aI @t0 (aI @t1 (aI @t2 (aI @t3 (aI @t4 (aI @t10 (aI @t11 (aI @t12 @t13))))))); evZ) (EO hc (b:=b) hps.at_ (hlen _ hpi) (hGA _ hpi) (a:=a1) (e:=e1) (pv:=p) (by omega) (by omega) hn2 ⟨hp1,hp2⟩) ?_;rintro _ _ _ ⟨rfl,N,m,rfl,hm1,hm2,rfl,hpN,q1,q2⟩;clear zz;have zz:=aI @t0 (aI @t1 (aI @t2 (aI @t3 (aI @t4 (aI @t10 (aI @t11 (aI @t12 @t13))))))); repeat' (first|refine zW ?_|apply a_n|apply a_x|refine zO ?_|refine vZ ?_|fail)
   exact ⟨(m,e1,lim,wb,wp,N),by dsimp only; omega,⟨hpi.equal hc.ord hpN (by rw [hk,hKK]; exact hlt) (by omega) ⟨hm1,hm2⟩ q1 q2,hps.upd,hlim⟩,(have zz:=aI @t0 (aI @t1 (aI @t2 (aI @t3 (aI @t4 (aI @t10 (aI @t11 @t12)))))); agZ)⟩
 clear t0 t1 t2 t3 t4 t10 t11 t12 t13;rintro T _ _ ⟨t0,t1,t2,t3,t4,t10,t11,t12,t13,rfl,rfl⟩;refine cr (fun T H'' nx''=>∃ (M:List α) (m:Nat) (t:Bool),PI K a e L a1 e1 M∧TwoS K a1 e1 m M∧PS H H'' nx nx'' b (M.map f)∧T 0=.msl b n 1 0 n∧T 1=.int .i64 (a1:Nat)∧T 2=.int .i64 (e1:Nat)∧T 3=.int .i64 (lim:Nat)∧T 4=.func g caps∧T 10=.bool wb∧T 11=.bool wp∧T 12=.int .i64 (l:Nat)∧T 16=.int .i64 (m:Nat)∧T 17=.bool t) ?_ ?_
 ·have zz:=aI @t0 (aI @t1 (aI @t2 (aI @t3 (aI @t4 (aI @t10 (aI @t11 (aI @t12 @t13))))))); repeat' (first|apply a_n|refine zO ?_|refine vZ ?_|fail)
  refine bn ev0 (have zz:=aI @t0 (aI @t1 (aI @t2 (aI @t3 (aI @t4 (aI @t10 (aI @t11 (aI @t12 @t13))))))); evZ) (Ho hc (b:=b) hps.at_ (hlen _ hpi) (hGA _ hpi) (a:=a1) (e:=e1) (pv:=p) (by omega) (by omega) hn2 ⟨hp1,hp2⟩) ?_;rintro _ _ _ ⟨rfl,N,m,t,rfl,hm1,hm2,rfl,hpN,q1,q2⟩;clear zz;have zz:=aI @t0 (aI @t1 (aI @t2 (aI @t3 (aI @t4 (aI @t10 (aI @t11 (aI @t12 @t13))))))); repeat' (first|apply a_n|refine zO ?_|refine vZ ?_|fail)
  exact ⟨N,m,t,hpi.swap hpN,⟨⟨hm1,hm2⟩,fun p k1 k2=>hc.ord.asym _ _ (q1 p k1 k2),q2⟩,hps.upd,(have zz:=@t0; evZ),(have zz:=@t1; evZ),(have zz:=@t2; evZ),(have zz:=@t3; evZ),(have zz:=@t4; evZ),(have zz:=@t10; evZ),(have zz:=@t11; evZ),(have zz:=@t12; evZ),ev0,ev0⟩
 clear t0 t1 t2 t3 t4 t10 t11 t12 t13 hbb hl hGM hpi hps hp1 hp2 p;rintro T H1 n1 ⟨M,m,t,hpi,hts,hps,t0,t1,t2,t3,t4,t10,t11,t12,t16,t17⟩;have hm:=hts.mid;have hl:=hlen _ hpi
 have tq:bh .quo false false (.int .i64 (l:Int)) (.int .i64 8)=some (.int .i64 ((l / 8:Nat):Int)):=by
  rw [oo (by omega) (by omega) (by omega)]
  congr 2
 have tm:(m:Int) + 1=((m + 1:Nat):Int):=by omega
 by_cases hlr:(m:Int) - (a1:Int) < (e1:Int) - (m:Int)
 ·have tz:decide ((m:Int) - (a1:Int) < (e1:Int) - (m:Int))=true:=bt hlr;have zz:=aI @t0 (aI @t1 (aI @t2 (aI @t3 (aI @t4 (aI @t10 (aI @t11 (aI @t12 (aI @t16 (aI @t17 (aI @tq @tz)))))))))); repeat' (first|refine zW ?_|apply a_n|refine zO ?_|refine vZ ?_|refine cTZ ?_|fail)
  refine bn ev0 (have zz:=aI @t0 (aI @t1 (aI @t2 (aI @t3 (aI @t4 (aI @t10 (aI @t11 (aI @t12 (aI @t16 @t17)))))))); evZ) (ih a1 m lim M H1 n1 (by omega) hps.at_ (hbn _ _ _ hps) hl (hGA _ hpi) (by omega) (by omega) hlim (hpi.low.sub rfl (by omega))) ?_;rintro _ H2 n2 ⟨N,hps2,hpN,hsN⟩;clear zz;have zz:=aI @t0 (aI @t1 (aI @t2 (aI @t3 (aI @t4 (aI @t10 (aI @t11 (aI @t12 (aI @t16 (aI @t17 @tm))))))))); repeat' (first|apply a_n|refine zO ?_|refine vZ ?_|fail)
  exact ⟨(m + 1,e1,lim,decide (((l / 8:Nat):Int) ≤ (m:Int) - (a1:Int)),t,N),by dsimp only; omega,⟨hpi.left hc.ord hts hpN hsN,hps.rec_ hps2.at_ hps2.fr hps2.le,hlim⟩,(have zz:=aI @t0 (aI @t1 (aI @t2 (aI @t3 (aI @t4 (aI @t10 (aI @t11 (aI @t12 (aI @t16 @t17)))))))); agZ)⟩
 ·have tz:decide ((m:Int) - (a1:Int) < (e1:Int) - (m:Int))=false:=bj hlr;have zz:=aI @t0 (aI @t1 (aI @t2 (aI @t3 (aI @t4 (aI @t10 (aI @t11 (aI @t12 (aI @t16 (aI @t17 (aI @tq (aI @tz @tm))))))))))); repeat' (first|refine zW ?_|apply a_n|refine zO ?_|refine vZ ?_|refine cFZ ?_|fail)
  refine bn ev0 (have zz:=aI @t0 (aI @t1 (aI @t2 (aI @t3 (aI @t4 (aI @t10 (aI @t11 (aI @t12 (aI @t16 @t17)))))))); evZ) (ih (m + 1) e1 lim M H1 n1 (by omega) hps.at_ (hbn _ _ _ hps) hl (hGA _ hpi) (by omega) (by omega) hlim (fun q k0 k1 k2=>by rw [qF]; exact hts.ge q k1 k2)) ?_;rintro _ H2 n2 ⟨N,hps2,hpN,hsN⟩;clear zz;have zz:=aI @t0 (aI @t1 (aI @t2 (aI @t3 (aI @t4 (aI @t10 (aI @t11 (aI @t12 (aI @t16 @t17)))))))); repeat' (first|apply a_n|refine zO ?_|refine vZ ?_|fail)
  exact ⟨(a1,m,lim,decide (((l / 8:Nat):Int) ≤ (e1:Int) - (m:Int)),t,N),by dsimp only; omega,⟨hpi.right hc.ord hts hpN hsN,hps.rec_ hps2.at_ hps2.fr hps2.le,hlim⟩,(have zz:=aI @t0 (aI @t1 (aI @t2 (aI @t3 (aI @t4 (aI @t10 (aI @t11 (aI @t12 (aI @t16 @t17)))))))); agZ)⟩
end
end Go.Proofs.YtlodfaaceehfmaaGreat
namespace Go.Proofs.YtlodfaaceehfmaaGreat
open Go Go.Abs
open Nat (reduceEqDiff reduceAdd reduceLeDiff)
section
variable {α:Type} [Inhabited α] {f:α→AV} {K:α→α→Int} {G:α→Prop} {g:Nat} {caps:List AV}
attribute [local irreducible] aM am bm be aX a6 aG aZ bf bI Go.Abs.Fn bc Go.Abs.Pure aB aQ Yl
set_option maxRecDepth 100000 in
theorem Fm {H:Hp} {nx:Nat}:Abs.Fn Tryz.prog 106 [.int .u64 0] H nx fun r H' nx'=>nx'=nx∧H'=H∧r=.int .i64 0:=by
 refine Abs.Fn.of_c2 follows Ek (br rfl) ?_;simp only [FR,aU];generalize hT:AV.str (ByteArray.mk (Array.mk [0,1,2,2,3,3,3,3,4,4,4,4,4,4,4,4,5,5,5,5,5,5,5,5,5,5,5,5,5,5,5,5,6,6,6,6,6,6,6,6,6,6,6,6,6,6,6,6,6,6,6,6,6,6,6,6,6,6,6,6,6,6,6,6,7,7,7,7,7,7,7,7,7,7,7,7,7,7,7,7,7,7,7,7,7,7,7,7,7,7,7,7,7,7,7,7,7,7,7,7,7,7,7,7,7,7,7,7,7,7,7,7,7,7,7,7,7,7,7,7,7,7,7,7,7,7,7,7,8,8,8,8,8,8,8,8,8,8,8,8,8,8,8,8,8,8,8,8,8,8,8,8,8,8,8,8,8,8,8,8,8,8,8,8,8,8,8,8,8,8,8,8,8,8,8,8,8,8,8,8,8,8,8,8,8,8,8,8,8,8,8,8,8,8,8,8,8,8,8,8,8,8,8,8,8,8,8,8,8,8,8,8,8,8,8,8,8,8,8,8,8,8,8,8,8,8,8,8,8,8,8,8,8,8,8,8,8,8,8,8,8,8,8,8,8,8,8,8,8,8,8,8,8,8,8,8]))=tb;have ht:np tb (.int .u8 0)=some (.int .u8 0):=by rw [← hT]; exact yf (x:=0) (by decide)
 clear hT;have w8:IntKind.wrap .u8 0=0:=by decide
 have zz:=aI @w8 @ht; repeat' (first|refine zW ?_|apply a_n|refine zO ?_|refine vZ ?_|(refine zGZ ?_ ?_ <;> (intro _hg; try (exfalso; omega)))|refine ak rfl ?_|refine r1Z ?_|fail)
 exact ⟨rfl,rfl,by congr 1⟩
theorem HU {H:Hp} {nx:Nat}:Abs.Fn Tryz.prog 79 [.int .u64 0] H nx fun r H' nx'=>nx'=nx∧H'=H∧r=.int .i64 0:=by
 refine Abs.Fn.of_c2 follows GW (br rfl) ?_;simp only [b79,aU]
 repeat' (first|refine zW ?_|apply a_n|refine zO ?_|refine vZ ?_|refine cFZ ?_|fail)
 refine bn ev0 ev0 Fm ?_;rintro _ _ _ ⟨rfl,rfl,rfl⟩
 repeat' (first|apply a_n|refine zO ?_|refine vZ ?_|refine ak rfl ?_|refine r1Z ?_|fail)
 exact ⟨rfl,rfl,rfl⟩
theorem AC (hc:Cmp Tryz.prog f K G g caps) {L:List α} {H:Hp} {b nx n:Nat} (hH:H b=some (L.map f)) (hbx:b < nx) (hn:L.length=n) (hn0:0 < n) (hG:∀ x ∈ L,G x) (hn2:n ≤ 1000000000) :
    Abs.Fn Tryz.prog 50 [.msl b n 1 0 n,.func g caps] H nx fun r H' nx'=>∃ L',PS H H' nx nx' b (L'.map f)∧L'.Perm L∧bv K 0 n L':=by
 refine Abs.Fn.of_c2 follows IL (br rfl) ?_;simp only [b50,aU];have w:IntKind.wrap .u64 (n:Int)=n:=gz (by omega) (by omega);have zz:=@w; repeat' (first|refine zW ?_|apply a_n|refine zO ?_|refine vZ ?_|fail)
 refine bn ev0 (have zz:=@w; evZ) (Gu hn0 (by omega)) ?_;rintro _ _ _ ⟨rfl,rfl,k,rfl,h3,h4⟩
 have hk:k ≤ 62:=by
  rcases tt 62 k with h | h
  ·have:=Nat.pow_le_pow_right (n:=2) (by omega) h;omega
  ·exact h
 repeat' (first|apply a_n|refine zO ?_|refine vZ ?_|fail)
 refine bn ev0 (have zz:=@Int.natCast_zero; evZ) (Jc hc hn2 (n + 1) 0 n k L _ _ (by omega) hH hbx hn hG (by omega) (aP _) (by omega) (fun q h=>by omega)) ?_;rintro _ _ _ ⟨N,hps,hp,hs⟩
 repeat' (first|apply a_n|refine zO ?_|refine ak rfl ?_|fail)
 exact ⟨N,hps,hp.perm,hs⟩
end
end Go.Proofs.YtlodfaaceehfmaaGreat
namespace Go.Proofs.YtlodfaaceehfmaaGreat
open Go Go.Abs
def _root_.List.c2 {α:Type} (l:List α) (f:α→AV):List AV:=l.flatMap fun x=>(f x).cells
structure Cmp2 {α:Type} (P:Program) (f:α→AV) (K:α→α→Int) (G:α→Prop) (g:Nat) (caps:List AV):Prop where
 len:∀ x,(f x).cells.length=2
 agg:∀ x,AV.agg (f x).cells=f x
 ones:∀ x,AV.ones (f x).cells=true
 dat:∀ x,Dat (f x)
 dcaps:∀ x ∈ caps,Dat x
 run:∀ x y,G x→G y→Go.Abs.Pure P g (f x :: f y :: caps) (.int .i64 (K x y))
 ord:Ord K
section
variable {α:Type} {f:α→AV} (h:∀ x,(f x).cells.length=2)
include h
end
section
variable {α:Type} [Inhabited α] {f:α→AV} {K:α→α→Int} {G:α→Prop} {g:Nat} {caps:List AV}
attribute [local irreducible] aM am bm be aX a6 aG aZ bf bI Go.Abs.Fn bc Go.Abs.Pure aB aQ Yl
end
end Go.Proofs.YtlodfaaceehfmaaGreat
namespace Go.Proofs.YtlodfaaceehfmaaGreat
open Go Go.Abs
section
variable {α:Type} [Inhabited α] {f:α→AV} {K:α→α→Int} {G:α→Prop} {g:Nat} {caps:List AV}
attribute [local irreducible] aM am bm be aX a6 aG aZ bf bI Go.Abs.Fn bc Go.Abs.Pure aB aQ Yl
end
end Go.Proofs.YtlodfaaceehfmaaGreat
namespace Go.Proofs.YtlodfaaceehfmaaGreat
open Go Go.Abs
section
variable {α:Type} [Inhabited α] {f:α→AV} {K:α→α→Int} {G:α→Prop} {g:Nat} {caps:List AV}
attribute [local irreducible] aM am bm be aX a6 aG aZ bf bI Go.Abs.Fn bc Go.Abs.Pure aB aQ Yl
end
end Go.Proofs.YtlodfaaceehfmaaGreat
namespace Go.Proofs.YtlodfaaceehfmaaGreat
open Go Go.Abs
section
variable {α:Type} [Inhabited α] {f:α→AV} {K:α→α→Int} {G:α→Prop} {g:Nat} {caps:List AV}
attribute [local irreducible] aM am bm be aX a6 aG aZ bf bI Go.Abs.Fn bc Go.Abs.Pure aB aQ Yl
end
end Go.Proofs.YtlodfaaceehfmaaGreat
namespace Go.Proofs.YtlodfaaceehfmaaGreat
open Go Go.Abs
section
variable {α:Type} [Inhabited α] {f:α→AV} {K:α→α→Int} {G:α→Prop} {g:Nat} {caps:List AV}
attribute [local irreducible] aM am bm be aX a6 aG aZ bf bI Go.Abs.Fn bc Go.Abs.Pure aB aQ Yl
end
end Go.Proofs.YtlodfaaceehfmaaGreat
namespace Go.Proofs.YtlodfaaceehfmaaGreat
open Go Go.Abs
section
variable {α:Type} [Inhabited α] {f:α→AV} {K:α→α→Int} {G:α→Prop} {g:Nat} {caps:List AV}
attribute [local irreducible] aM am bm be aX a6 aG aZ bf bI Go.Abs.Fn bc Go.Abs.Pure aB aQ Yl
end
end Go.Proofs.YtlodfaaceehfmaaGreat
namespace Go.Proofs.YtlodfaaceehfmaaGreat
open Go Go.Abs
section
variable {α:Type} [Inhabited α] {f:α→AV} {K:α→α→Int} {G:α→Prop} {g:Nat} {caps:List AV}
attribute [local irreducible] aM am bm be aX a6 aG aZ bf bI Go.Abs.Fn bc Go.Abs.Pure aB aQ Yl
end
end Go.Proofs.YtlodfaaceehfmaaGreat
namespace Go.Proofs.YtlodfaaceehfmaaGreat
open Go Go.Abs
section
variable {α:Type} [Inhabited α] {f:α→AV} {K:α→α→Int} {G:α→Prop} {g:Nat} {caps:List AV}
attribute [local irreducible] aM am bm be aX a6 aG aZ bf bI Go.Abs.Fn bc Go.Abs.Pure aB aQ Yl
end
end Go.Proofs.YtlodfaaceehfmaaGreat
namespace Go.Proofs.YtlodfaaceehfmaaGreat
open Go Go.Abs
section
variable {α:Type} [Inhabited α] {f:α→AV} {K:α→α→Int} {G:α→Prop} {g:Nat} {caps:List AV}
attribute [local irreducible] aM am bm be aX a6 aG aZ bf bI Go.Abs.Fn bc Go.Abs.Pure aB aQ Yl
end
end Go.Proofs.YtlodfaaceehfmaaGreat
namespace Go.Proofs.YtlodfaaceehfmaaGreat
open Go Go.Abs
section
variable {α:Type} [Inhabited α] {f:α→AV} {K:α→α→Int} {G:α→Prop} {g:Nat} {caps:List AV}
attribute [local irreducible] aM am bm be aX a6 aG aZ bf bI Go.Abs.Fn bc Go.Abs.Pure aB aQ Yl
end
end Go.Proofs.YtlodfaaceehfmaaGreat
namespace Go.Proofs.YtlodfaaceehfmaaGreat
open Go Go.Abs
theorem zd {B n len k:Nat} (h:k ≤ len) (hn:n ≠ 0):kN 2 (.msl B n 2 0 len) none (some (.int .i64 k)) none=some (.msl B n 2 0 k):=by
 simp only [kN,bH,Int.natCast_nonneg,if_true,cQ];rw [if_pos ⟨trivial,by omega,h,hn⟩,if_pos (.inl trivial),vV,Nat.sub_zero]
theorem Bq {H:Hp} {B:Nat} {cs:List AV} (hH:H B=some cs):H=aq H B cs:=by
 funext b
 by_cases e:b=B
 ·subst e; rw [ai]; exact hH
 ·rw [ae e]
attribute [local irreducible] aM am bm be aX a6 aG aZ bf bI Go.Abs.Fn bc Go.Abs.Pure aB aQ Yl
end Go.Proofs.YtlodfaaceehfmaaGreat
namespace Go.Proofs.YtlodfaaceehfmaaGreat
open Go Go.Abs
theorem GJ (a b:Vtx):oK (.st [.int,.int]) (dA a) (dA b)=some (decide (a=b)):=by
 show dx [.int,.int] [.int .i64 a.color,.int .i64 a.label] [.int .i64 b.color,.int .i64 b.label]=_;rw [Ae,wz]
theorem C6 (v:Vtx) (ks:List Vtx):cJ (.st [.int,.int]) (dA v) (ks.map dA)=some (if v ∈ ks then some (ks.idxOf v) else none):=mq _ dA GJ v ks
theorem DD (v:Vtx):gO (.st [.int,.int]) (dA v)=true:=rfl
def mH (l:List Spx) (i:Nat) (v:Vtx):List Nat:=(List.range i).filter fun k=>decide (v ∈ l.getD k default)
def ot (l:List Spx) (i j:Nat) (v:Vtx):List Nat:=mH l i v ++ if v ∈ (l.getD i default).take j then [i] else []
theorem Bo {l:List Spx} {i:Nat} {v:Vtx}:mH l (i + 1) v=ot l i (l.getD i default).length v:=by
 unfold mH ot;rw [List.range_succ,Cc,List.take_length]
 congr 1
 by_cases h:v ∈ l.getD i default
 ·rw [if_pos h]; simp only [List.filter,h,decide_true]
 ·rw [if_neg h]; simp only [List.filter,h,decide_false]
theorem BX {l:List Spx} {i:Nat} {v:Vtx}:ot l i 0 v=mH l i v:=by unfold ot; simp
theorem CK {l:List Spx} {i j:Nat} {v:Vtx} (hj:j < (l.getD i default).length) (ha:bQ ce (l.getD i default)):ot l i (j + 1) v=if v=(l.getD i default).getD j default then ot l i j v ++ [i] else ot l i j v:=by
 unfold ot;generalize l.getD i default=s at *;rw [dE hj];by_cases h:v=s.getD j default
 ·have hn:v ∉ s.take j:=fun hm=>by
    obtain ⟨k,hk,e⟩:=jW hm;rw [iO] at hk;rw [List.getElem_take] at e;have:=dJ ha (i:=k) (j:=j) (by omega) hj;rw [← h,← e] at this;have e2:s.getD k default=s[k]:=by simp [List.getD,show k < s.length by omega]
    rw [e2] at this;exact Af.ord.irr _ this
  rw [if_pos h,if_neg hn,if_pos (by rw [fp,h]; simp)];simp
 ·rw [if_neg h]
  congr 1
  have e:v ∈ s.take j ++ [s.getD j default] ↔ v ∈ s.take j:=by rw [fp,dL]; exact ⟨fun h'=>h'.resolve_right h,.inl⟩
  by_cases h2:v ∈ s.take j
  ·rw [if_pos (e.2 h2),if_pos h2]
  ·rw [if_neg (fun h=>h2 (e.1 h)),if_neg h2]
def y7 (i:Nat):AV:=.int .i64 (i:Int)
structure IncOk (H:Hp) (b lo hi:Nat) (F:Vtx→List Nat) (ks:List Vtx) (vs:List AV):Prop where
 box:H b=some [.omap (ks.map dA) vs]
 len:vs.length=ks.length
 nodup:ks.Nodup
 dom:∀ v,v ∈ ks ↔ F v ≠ []
 row:∀ j,j < ks.length→Row H 1 (vs.getD j .undef) ((F (ks.getD j default)).map y7)
 bnd:∀ j B,j < ks.length→dF (vs.getD j .undef)=some B→lo ≤ B∧B < hi∧B ≠ b
 apart:∀ i j B,i < ks.length→j < ks.length→i ≠ j→dF (vs.getD i .undef)=some B→dF (vs.getD j .undef) ≠ some B
 lt:b < hi
theorem pT {l:List AV} {i j:Nat} {x:AV} (h:i < l.length):(l.set i x).getD j .undef=if i=j then x else l.getD j .undef:=by
 simp only [List.getD,List.getElem?_set];split
 ·rename_i e; subst e; simp [h]
 ·rfl
theorem w5 {α:Type} {l m:List α} {j:Nat} {d:α} (h:j < l.length):(l ++ m).getD j d=l.getD j d:=by
 simp [List.getD,fW h]
theorem ux {α:Type} {l:List α} {x d:α}:(l ++ [x]).getD l.length d=x:=by simp [List.getD]
theorem v7 {l:List Vtx} {v:Vtx} (h:v ∈ l):l.idxOf v < l.length∧l.getD (l.idxOf v) default=v:=by
 have h1:=pN.2 h;exact ⟨h1,by simp [List.getD,h1]⟩
theorem Ce {l:List Vtx} (h:l.Nodup) {i j:Nat} (hi:i < l.length) (hj:j < l.length) (e:l.getD i default=l.getD j default):i=j:=by
 have hp:=mQ.1 (List.nodup_iff_pairwise_ne.1 h);rw [show l.getD i default=l[i] by simp [List.getD,hi],show l.getD j default=l[j] by simp [List.getD,hj]] at e;rcases sg i j with c | c | c
 ·exact absurd e (hp i j hi hj c)
 ·exact c
 ·exact absurd e.symm (hp j i hj hi c)
theorem IncOk.same {H H':Hp} {b lo hi hi':Nat} {F:Vtx→List Nat} {ks:List Vtx} {vs:List AV} (h:IncOk H b lo hi F ks vs) (hb:H' b=H b) (hs:∀ x,lo ≤ x→x < hi→x ≠ b→H' x=H x) (hh:hi ≤ hi'):IncOk H' b lo hi' F ks vs :=
 ⟨hb.trans h.box,h.len,h.nodup,h.dom,fun j hj=>(h.row j hj).same fun B hB=>by have:=h.bnd j B hj hB; exact hs B this.1 this.2.1 this.2.2,fun j B hj hB=>by have:=h.bnd j B hj hB; exact ⟨this.1,by omega,this.2.2⟩,h.apart,by have:=h.lt; omega⟩
theorem IncOk.put {H H':Hp} {b lo hi hi' i:Nat} {F G:Vtx→List Nat} {ks:List Vtx} {vs:List AV} {w:Vtx} {sv:AV} (h:IncOk H b lo hi F ks vs) (hw:w ∈ ks) (hG:∀ v,G v=if v=w then F v ++ [i] else F v) (hrow:Row H' 1 sv ((F w ++ [i]).map y7)) (hB:∀ B,dF sv=some B→dF (vs.getD (ks.idxOf w) .undef)=some B ∨ hi ≤ B∧B < hi'∧B ≠ b) (hb:H' b=some [.omap (ks.map dA) (vs.set (ks.idxOf w) sv)])
    (hs:∀ x,lo ≤ x→x < hi→x ≠ b→dF (vs.getD (ks.idxOf w) .undef) ≠ some x→H' x=H x) (hh:hi ≤ hi') (hlo:lo ≤ hi):IncOk H' b lo hi' G ks (vs.set (ks.idxOf w) sv):=by
 obtain ⟨k1,k2⟩:=v7 hw;have hl:=h.len;have hg:∀ j,(vs.set (ks.idxOf w) sv).getD j .undef=if ks.idxOf w=j then sv else vs.getD j .undef:=fun j=>pT (by omega)
 have hne:∀ j,j < ks.length→ks.idxOf w ≠ j→ks.getD j default ≠ w:=fun j hj hn e=>hn (Ce h.nodup k1 hj (by rw [k2,e]));refine ⟨hb,by simp [hl],h.nodup,fun v=>?_,fun j hj=>?_,fun j B hj=>?_,fun p q B hp hq hpq=>?_,by have:=h.lt; omega⟩
 ·rw [hG,h.dom];by_cases e:v=w
  ·subst e;rw [if_pos rfl];exact ⟨fun _=>by simp,fun _=>(h.dom v).1 hw⟩
  ·rw [if_neg e]
 ·rw [hg,hG];by_cases e:ks.idxOf w=j
  ·rw [if_pos e,if_pos (by rw [← e]; exact k2),← e,k2]; exact hrow
  ·rw [if_neg e,if_neg (hne j hj e)]
   exact (h.row j hj).same fun B hB'=>by
    have:=h.bnd j B hj hB';exact hs B this.1 this.2.1 this.2.2 fun h'=>h.apart (ks.idxOf w) j B k1 hj e h' hB'
 ·rw [hg];by_cases e:ks.idxOf w=j
  ·rw [if_pos e];intro hB';rcases hB B hB' with h' | h'
   ·have:=h.bnd _ B k1 h'; exact ⟨this.1,by omega,this.2.2⟩
   ·exact ⟨by omega,h'.2⟩
  ·rw [if_neg e];intro hB';have:=h.bnd j B hj hB';exact ⟨this.1,by omega,this.2.2⟩
 ·rw [hg,hg];by_cases e1:ks.idxOf w=p
  ·rw [if_pos e1,if_neg (by omega)];intro h1 h2;rcases hB B h1 with h' | h'
   ·exact h.apart (ks.idxOf w) q B k1 hq (by omega) h' h2
   ·have:=h.bnd q B hq h2; omega
  ·rw [if_neg e1];by_cases e2:ks.idxOf w=q
   ·rw [if_pos e2];intro h1 h2;rcases hB B h2 with h' | h'
    ·exact h.apart p (ks.idxOf w) B hp k1 (by omega) h1 h'
    ·have:=h.bnd p B hp h1; omega
   ·rw [if_neg e2]; exact h.apart p q B hp hq hpq
theorem IncOk.new {H H':Hp} {b lo hi hi' i:Nat} {F G:Vtx→List Nat} {ks:List Vtx} {vs:List AV} {w:Vtx} {sv:AV} (h:IncOk H b lo hi F ks vs) (hw:w ∉ ks) (hG:∀ v,G v=if v=w then F v ++ [i] else F v) (hrow:Row H' 1 sv ([i].map y7)) (hB:∀ B,dF sv=some B→hi ≤ B∧B < hi'∧B ≠ b) (hb:H' b=some [.omap ((ks ++ [w]).map dA) (vs ++ [sv])])
    (hs:∀ x,lo ≤ x→x < hi→x ≠ b→H' x=H x) (hh:hi ≤ hi') (hlo:lo ≤ hi):IncOk H' b lo hi' G (ks ++ [w]) (vs ++ [sv]):=by
 have hl:=h.len
 have hF:F w=[]:=by
  cases hf:F w with
  | nil=>rfl
  | cons a r=>exact absurd ((h.dom w).2 (by rw [hf]; simp)) hw
 have g1:∀ j,j < ks.length→(ks ++ [w]).getD j default=ks.getD j default∧(vs ++ [sv]).getD j .undef=vs.getD j .undef:=fun j hj=>⟨w5 hj,w5 (by omega)⟩
 have g2:(ks ++ [w]).getD ks.length default=w∧(vs ++ [sv]).getD ks.length .undef=sv:=⟨ux,by rw [← hl]; exact ux⟩
 refine ⟨hb,by simp [hl],?_,fun v=>?_,fun j hj=>?_,fun j B hj=>?_,fun p q B hp hq hpq=>?_,by have:=h.lt; omega⟩
 ·rw [xa];exact ⟨h.nodup,by simp,fun a ha c hc e=>by rw [dL] at hc; exact hw (by rw [← hc,← e]; exact ha)⟩
 ·rw [hG,fp,dL];by_cases e:v=w
  ·subst e; rw [if_pos rfl]; simp
  ·rw [if_neg e,← h.dom]; simp [e]
 ·rw [dr,List.length_singleton] at hj;by_cases e:j=ks.length
  ·subst e;rw [g2.1,g2.2,hG,if_pos rfl,hF]; exact hrow
  ·obtain ⟨e1,e2⟩:=g1 j (by omega);have hne:ks.getD j default ≠ w:=fun e'=>hw (e' ▸ aE (by omega));rw [e1,e2,hG,if_neg hne];exact (h.row j (by omega)).same fun B hB'=>by have:=h.bnd j B (by omega) hB'; exact hs B this.1 this.2.1 this.2.2
 ·rw [dr,List.length_singleton] at hj;by_cases e:j=ks.length
  ·subst e;rw [g2.2]; intro hB';have:=hB B hB'; exact ⟨by omega,this.2⟩
  ·rw [(g1 j (by omega)).2]; intro hB';have:=h.bnd j B (by omega) hB'; exact ⟨this.1,by omega,this.2.2⟩
 ·rw [dr,List.length_singleton] at hp hq;by_cases e1:p=ks.length
  ·subst e1;rw [g2.2,(g1 q (by omega)).2];intro h1 h2;have:=hB B h1;have:=h.bnd q B (by omega) h2;omega
  ·rw [(g1 p (by omega)).2];by_cases e2:q=ks.length
   ·subst e2;rw [g2.2];intro h1 h2;have:=hB B h2;have:=h.bnd p B (by omega) h1;omega
   ·rw [(g1 q (by omega)).2]; exact h.apart p q B (by omega) (by omega) hpq
theorem dp {H:Hp} {d:Nat} {x:AV}:ef 1 (aq H d [x]) (.msl d 1 1 0 1)=some (1,[x]):=jC (n:=1) (len:=1) (off:=0) (cs:=[x]) ai rfl (by simp)
theorem wA {l:List Spx} {i:Nat} {v:Vtx}:(mH l i v).length ≤ i:=by
 unfold mH;have:=List.length_filter_le (fun k=>decide (v ∈ l.getD k default)) (List.range i)
 rwa [List.length_range] at this
theorem EE {l:List Spx} {i j:Nat} {v:Vtx}:(ot l i j v).length ≤ i + 1:=by
 unfold ot;have:=wA (l:=l) (i:=i) (v:=v);rw [dr];split <;> simp <;> omega
attribute [local irreducible] aM am bm be aX a6 aG aZ bf bI Go.Abs.Fn bc Go.Abs.Pure aB aQ Yl
set_option maxHeartbeats 2000000 in
theorem yw (l:List Spx) (hl:l.length ≤ 100000) (hs:∀ s ∈ l,bQ ce s∧s.length ≤ 1000000) (H:Hp) (nx:Nat):Abs.Fn Tryz.prog 46 [aC l] H nx fun r H' nx'=>∃ ks vs,r=.mp nx∧IncOk H' nx nx nx' (mH l l.length) ks vs∧(∀ x,x < nx→H' x=H x)∧nx < nx':=by
 refine Abs.Fn.of_c2 follows HX (br rfl) ?_;simp only [b46,aU];refine dt ?_
 repeat' (first|apply a_n|refine zO ?_|refine vZ ?_|fail)
 refine dt ?_
 repeat' (first|apply a_n|refine zO ?_|fail)
 refine Aw ?_;have zz:=@aj; repeat' (first|refine zW ?_|apply a_n|refine zO ?_|refine vY ?_|fail)
 refine bC (X:=Nat × List Vtx × List AV) (fun x=>[(3,.mp nx),(9,aC l),(10,.int .i64 l.length),(11,.int .i64 x.1)]) (fun x H' nx'=>x.1 ≤ l.length∧IncOk H' nx nx nx' (mH l x.1) x.2.1 x.2.2∧(∀ y,y < nx→H' y=H y)∧nx < nx') (fun x=>l.length - x.1) (0,[],[]) ⟨cf _,⟨ai,rfl,List.nodup_nil,fun v=>by simp [mH],fun j h=>absurd h (by simp),fun j B h=>absurd h (by simp),fun i j B h=>absurd h (by simp),by omega⟩,fun y hy=>ae (by omega),by omega⟩ ag0 ?_;rintro ⟨i,ks,vs⟩ H1 nx1 ⟨h1,h2,h3,h4⟩;dsimp only at h1 h2 ⊢;by_cases hi:i < l.length
 rotate_left
 ·obtain rfl:i=l.length:=by omega
  repeat' (first|refine zW ?_|apply a_n|apply a_x|refine zO ?_|refine vY ?_|(refine zGY ?_ ?_ <;> (intro _hg; try (exfalso; omega)))|refine ak rfl ?_|refine r1Y ?_|fail)
  exact ⟨ks,vs,rfl,h2,h3,h4⟩
 have ix:=fq hi;obtain ⟨hsa,hsl⟩:=hs _ (aE hi);have hstep:=fun j v hj=>CK (l:=l) (i:=i) (j:=j) (v:=v) hj hsa;have hend:=fun v=>Bo (l:=l) (i:=i) (v:=v);have hlen:=fun j v=>EE (l:=l) (i:=i) (j:=j) (v:=v);have h20:IncOk H1 nx nx nx1 (ot l i 0) ks vs:=by rw [show ot l i 0=mH l i from funext fun v=>BX]; exact h2
 have hend':mH l (i + 1)=ot l i (l.getD i default).length:=funext hend;clear zz;clear h2;generalize l.getD i default=s at *;have zz:=aI @ix @az; repeat' (first|refine zW ?_|apply a_n|refine zO ?_|refine vY ?_|(refine zGY ?_ ?_ <;> (intro _hg; try (exfalso; omega)))|fail)
 refine bC (X:=Nat × List Vtx × List AV) (fun x=>[(3,.mp nx),(9,aC l),(10,.int .i64 l.length),(11,.int .i64 i),(4,.int .i64 i),(5,aF s),(16,aF s),(17,.int .i64 s.length),(18,.int .i64 x.1)]) (fun x H' nx'=>x.1 ≤ s.length∧IncOk H' nx nx nx' (ot l i x.1) x.2.1 x.2.2∧(∀ y,y < nx→H' y=H y)∧nx < nx') (fun x=>s.length - x.1) (0,ks,vs) ⟨cf _,h20,h3,h4⟩ ag0 ?_;clear zz;clear h20 h3 h4;rintro ⟨j,ks,vs⟩ H2 nx2 ⟨k1,k2,k3,k4⟩;dsimp only at k1 k2 ⊢;by_cases hj:j < s.length
 rotate_left
 ·obtain rfl:j=s.length:=by omega
  repeat' (first|refine zW ?_|apply a_n|apply a_x|refine zO ?_|refine vY ?_|(refine zGY ?_ ?_ <;> (intro _hg; try (exfalso; omega)))|fail)
  exact ⟨(i + 1,ks,vs),by dsimp only; omega,⟨by dsimp only; omega,by dsimp only; rw [hend']; exact k2,k3,k4⟩,ag0⟩
 have iy:=ix2 hj;have hG:=fun v=>hstep j v hj;have hcl:=hlen j (s.getD j default);generalize s.getD j default=w at *;have zz:=@iy; repeat' (first|refine zW ?_|apply a_n|refine zO ?_|refine vY ?_|refine alY ?_|refine stY ?_|refine blY ?_|(refine zGY ?_ ?_ <;> (intro _hg; try (exfalso; omega)))|fail)
 have g3:∀ x,x < nx2→aq (aq (aq H2 nx2 [.int .i64 0,.int .i64 0]) nx2 (bK [.int .i64 0,.int .i64 0] 0 [.int .i64 w.color,.int .i64 w.label])) (nx2 + 1) [.int .i64 i] x=H2 x:=fun x hx=>by rw [ae (by omega),ae (by omega),ae (by omega)]
 have g4:aq (aq (aq H2 nx2 [.int .i64 0,.int .i64 0]) nx2 (bK [.int .i64 0,.int .i64 0] 0 [.int .i64 w.color,.int .i64 w.label])) (nx2 + 1) [.int .i64 i] (nx2 + 1)=some [.int .i64 i]:=ai;generalize aq (aq (aq H2 nx2 [.int .i64 0,.int .i64 0]) nx2 (bK [.int .i64 0,.int .i64 0] 0 [.int .i64 w.color,.int .i64 w.label])) (nx2 + 1) [.int .i64 i]=H3 at *;have hmf:=C6 w ks;have hkl:(ks.map dA).length=ks.length:=bO ..;by_cases hw:w ∈ ks
 ·rw [if_pos hw] at hmf;obtain ⟨m1,m2⟩:=v7 hw;have hr:=k2.row (ks.idxOf w) m1;rw [m2] at hr;refine Eu ev0 ((g3 nx (by omega)).trans k2.box) ev0 (DD w) hmf ?_;have g5:∀ x,x < nx2→x ≠ nx→aq H3 nx [.omap (cw (dA w) (some (ks.idxOf w)) (ks.map dA)) (kX .esl (some (ks.idxOf w)) vs)] x=H2 x:=fun x hx hn=>by rw [ae hn,g3 x hx]
  have g6:aq H3 nx [.omap (cw (dA w) (some (ks.idxOf w)) (ks.map dA)) (kX .esl (some (ks.idxOf w)) vs)] nx=some [.omap (ks.map dA) vs]:=ai;have g7:aq H3 nx [.omap (cw (dA w) (some (ks.idxOf w)) (ks.map dA)) (kX .esl (some (ks.idxOf w)) vs)] (nx2 + 1)=some [.int .i64 i]:=by rw [ae (by omega)]; exact g4
  generalize aq H3 nx [.omap (cw (dA w) (some (ks.idxOf w)) (ks.map dA)) (kX .esl (some (ks.idxOf w)) vs)]=H4 at *;rw [show yW .esl (some (ks.idxOf w)) vs=vs.getD (ks.idxOf w) .undef from rfl,show xi (some (ks.idxOf w)) (ks.map dA)=ks.idxOf w from rfl]
  repeat' (first|apply a_n|refine zO ?_|refine vY ?_|fail)
  refine iq (k:=1) (new:=[.int .i64 i]) rfl ev0 (hr.same fun B hB=>?_) ev0 (jC (n:=1) (len:=1) (off:=0) g7 rfl (by omega)) rfl rfl jt (by rw [bO]; omega) (by rw [bO]; omega) ?_
  ·have:=k2.bnd _ B m1 hB;exact g5 B this.2.1 this.2.2
  rintro s2 H5 nx5 hr5 i1 i2 i3 i4
  repeat' (first|apply a_n|refine zO ?_|refine vY ?_|fail)
  refine Dj ev0 ((i3 nx (by omega) (fun h=>(k2.bnd _ nx m1 h).2.2 rfl)).trans g6) ev0 (by rw [hkl]; exact m1) ev0 ?_
  repeat' (first|apply a_n|refine zO ?_|refine vY ?_|fail)
  refine ⟨(j + 1,ks,vs.set (ks.idxOf w) s2),by dsimp only; omega,⟨by dsimp only; omega,IncOk.put k2 hw hG ?_ (fun B hB=>?_) ai (fun x hx hx2 hxn hxr=>?_) (by omega) (by omega),fun y hy=>?_,by omega⟩,ag0⟩
  ·rw [ed]
   exact hr5.same fun B hB=>ae fun e=>by
    rcases i4 B hB with h | h
    ·exact (k2.bnd _ B m1 h).2.2 e
    ·omega
  ·rcases i4 B hB with h | h
   ·exact .inl h
   ·exact .inr (by omega)
  ·rw [ae hxn,i3 x (by omega) hxr,g5 x hx2 hxn]
  ·rw [ae (by omega),i3 y (by omega) (fun h=>by have:=k2.bnd _ y m1 h; omega),g5 y (by omega) (by omega)]; exact k3 y hy
 ·rw [if_neg hw] at hmf;refine Eu ev0 ((g3 nx (by omega)).trans k2.box) ev0 (DD w) hmf ?_;have g5:∀ x,x < nx2→x ≠ nx→aq H3 nx [.omap (cw (dA w) none (ks.map dA)) (kX .esl none vs)] x=H2 x:=fun x hx hn=>by rw [ae hn,g3 x hx]
  have g6:aq H3 nx [.omap (cw (dA w) none (ks.map dA)) (kX .esl none vs)] nx=some [.omap (ks.map dA ++ [dA w]) (vs ++ [.esl])]:=ai;have g7:aq H3 nx [.omap (cw (dA w) none (ks.map dA)) (kX .esl none vs)] (nx2 + 1)=some [.int .i64 i]:=by rw [ae (by omega)]; exact g4
  generalize aq H3 nx [.omap (cw (dA w) none (ks.map dA)) (kX .esl none vs)]=H4 at *;rw [show yW .esl none vs=.esl from rfl,show xi none (ks.map dA)=ks.length from hkl]
  repeat' (first|apply a_n|refine zO ?_|refine vY ?_|fail)
  refine iq (k:=1) (new:=[.int .i64 i]) (cs:=[]) rfl ev0 Row.nil ev0 (jC (n:=1) (len:=1) (off:=0) g7 rfl (by omega)) rfl rfl jt (by simp) (by simp) ?_;rintro s2 H5 nx5 hr5 i1 i2 i3 i4;have i4':∀ B,dF s2=some B→B=nx2 + 1 + 1∧nx5=nx2 + 1 + 1 + 1:=fun B hB=>(i4 B hB).elim (fun h=>by cases h) id
  repeat' (first|apply a_n|refine zO ?_|refine vY ?_|fail)
  refine Dj (i:=ks.length) ev0 ((i3 nx (by omega) (fun h=>by cases h)).trans g6) ev0 (by rw [dr,hkl]; simp) ev0 ?_;have hset:(vs ++ [AV.esl]).set ks.length s2=vs ++ [s2]:=by rw [← k2.len]; simp
  rw [hset]
  repeat' (first|apply a_n|refine zO ?_|refine vY ?_|fail)
  refine ⟨(j + 1,ks ++ [w],vs ++ [s2]),by dsimp only; omega,⟨by dsimp only; omega,IncOk.new k2 hw hG ?_ (fun B hB=>?_) (by rw [ed]; exact ai) (fun x hx hx2 hxn=>?_) (by omega) (by omega),fun y hy=>?_,by omega⟩,ag0⟩
  ·exact hr5.same fun B hB=>ae (by have:=i4' B hB; omega)
  ·have:=i4' B hB; omega
  ·rw [ae hxn,i3 x (by omega) (fun h=>by cases h),g5 x hx2 hxn]
  ·rw [ae (by omega),i3 y (by omega) (fun h=>by cases h),g5 y (by omega) (by omega)]; exact k3 y hy
end Go.Proofs.YtlodfaaceehfmaaGreat
namespace Go.Proofs.YtlodfaaceehfmaaGreat
open Go Go.Abs
def du (l:List Spx) (s:Spx):Bool:=l.any fun t=>decide (s.length < t.length) && eN s t
def pm (c:List Spx) (k:Nat):Int:=if bR (c.getD k default) ≠ 0 then bR (c.getD k default) else if 0 < k∧0 ≤ bG (c.getD (k - 1) default) (c.getD k default) then 14 else 0
def aO (c:List Spx):Int:=if 4096 < c.length then 5 else if db (pm c) c.length ≠ 0 then db (pm c) c.length else if c.any (du c)=true then 7 else 0
theorem fG {a b:Spx}:eN a b=true ↔ ∀ v ∈ a,v ∈ b:=by
 unfold eN; rw [eH];exact ⟨fun h v hv=>wr (h v hv),fun h v hv=>bt (h v hv)⟩
theorem oh {l:List Spx} {s:Spx}:du l s=true ↔ ∃ t ∈ l,s.length < t.length∧∀ v ∈ s,v ∈ t:=by
 unfold du; rw [pQ];constructor
 ·rintro ⟨t,ht,h⟩;rw [dS,CR,fG] at h;exact ⟨t,ht,h⟩
 ·rintro ⟨t,ht,h⟩;exact ⟨t,ht,by rw [dS,CR,fG]; exact h⟩
theorem GH {a b:Spx} (ha:bQ ce a) (hb:bQ ce b) (h:∀ v ∈ a,v ∈ b) (hne:a ≠ b):a.length < b.length:=by
 have h1:a.length ≤ b.length:=xy (ha.nodup Af) h;rcases tt a.length b.length with h2 | h2
 ·exact h2
 ·exfalso;refine hne (mD Af ha hb fun x=>⟨h x,fun hx=>Decidable.byContradiction fun hn=>?_⟩)
  have h3:(x :: a).length ≤ b.length:=xy (List.nodup_cons.2 ⟨hn,ha.nodup Af⟩) fun y hy=>by
   rcases dw.1 hy with rfl | hy
   ·exact hx
   ·exact h y hy
  rw [bN] at h3;omega
theorem Ac {c:List Spx} (h:db (pm c) c.length=0):(∀ s ∈ c,bR s=0)∧bQ bG c:=by
 have hz:=fY h
 have h3:∀ k,k < c.length→bR (c.getD k default)=0∧(0 < k→bG (c.getD (k - 1) default) (c.getD k default) < 0):=fun k hk=>by
  have:=hz k hk;unfold pm at this;split at this
  ·exact absurd this ‹_›
  rename_i g1;split at this
  ·exact absurd this (by decide)
  rename_i g2;exact ⟨tV g1,fun h0=>by omega⟩
 constructor
 ·intro s hs;obtain ⟨i,hi,rfl⟩:=jW hs;have:=(h3 i hi).1
  rwa [show c.getD i default=c[i] by simp [List.getD,hi]] at this
 ·have step:∀ j i,i < j→j < c.length→bG (c.getD i default) (c.getD j default) < 0:=by
    intro j
    induction j with
    | zero=>intro i h; omega
    | succ j ih =>
     intro i hi hj;have hs:=(h3 (j + 1) hj).2 (by omega);rw [qF] at hs;by_cases e:i=j
     ·subst e; exact hs
     ·exact iM.trans (ih i (by omega) (by omega)) hs
  unfold bQ;rw [mQ];intro i j hi hj hij;have:=step j i hij hj;simpa [List.getD,hi,hj] using this
theorem dq {c:List Spx} (h:aO c=0):c.length ≤ 4096∧(∀ s ∈ c,bR s=0)∧bQ bG c∧∀ s ∈ c,du c s=false:=by
 unfold aO at h;split at h
 ·exact absurd h (by decide)
 split at h
 ·exact absurd h ‹_›
 split at h
 ·exact absurd h (by decide)
 rename_i h1 h2 h3;have:=Ac (tV h2);refine ⟨by omega,this.1,this.2,fun s hs=>?_⟩;cases hc:du c s
 ·rfl
 ·exact absurd (pQ.2 ⟨s,hs,hc⟩) h3
theorem FO {l:List Spx} {s:Spx} {p:Spx→Bool} (h0:0 < s.length) (hp:∀ t,p t=true→s.getD 0 default ∈ t):((mH l l.length (s.getD 0 default)).map fun (n:Nat)=>(n:Int)).any (fun i=>p (l.getD i.toNat default))=l.any p:=by
 rw [Bool.eq_iff_iff,pQ,pQ];constructor
 ·rintro ⟨x,hx,h⟩;obtain ⟨n,hn,rfl⟩:=bP.1 hx;unfold mH at hn;obtain ⟨h1,_⟩:=gW.1 hn;rw [cQ] at h;exact ⟨_,aE (ew.1 h1),h⟩
 ·rintro ⟨t,ht,h⟩;obtain ⟨i,hi,rfl⟩:=jW ht;have e:l.getD i default=l[i]:=by simp [List.getD,hi]
  refine ⟨(i:Int),bP.2 ⟨i,gW.2 ⟨ew.2 hi,bt ?_⟩,rfl⟩,?_⟩
  ·rw [e]; exact hp _ h
  ·rw [cQ,e]; exact h
attribute [local irreducible] aM am bm be aX a6 aG aZ bf bI Go.Abs.Fn bc Go.Abs.Pure aB aQ Yl
theorem Cd (l:List Int) (p:Int→Bool) (g:Nat) (caps:List AV) (hd:∀ x ∈ caps,Dat x) (hg:∀ x ∈ l,Pure Tryz.prog g (.int .i64 x :: caps) (.bool (p x))) (hl:Shn l):Pure Tryz.prog 93 [aL l,.func g caps] (.int .i64 (if l.any p then (l.findIdx p:Nat) else -1)):=by
 refine Pure.of_c2 follows I8 (br rfl) ?_;simp only [b93,aU];have hl':l.length ≤ 17592186044416:=hl
 repeat' (first|refine zW ?_|apply a_n|refine zO ?_|refine vZ ?_|fail)
 refine bC (X:=Nat) (fun k=>[(0,aL l),(1,.func g caps),(6,aL l),(7,.int .i64 l.length),(8,.int .i64 k)]) (fun k H nx=>k ≤ l.length∧∀ i,i < k→p (l.getD i default)=false) (fun k=>l.length - k) 0 ⟨cf _,fun i h=>absurd h (by omega)⟩ ag0 ?_;rintro k H nx ⟨hk,hz⟩;by_cases hk2:k < l.length
 rotate_left
 ·rw [pU fun i hi=>hz i (by omega),if_neg (by decide)]
  repeat' (first|refine zW ?_|apply a_n|apply a_x|refine zO ?_|refine vY ?_|(refine zGY ?_ ?_ <;> (intro _hg; try (exfalso; omega)))|refine ak rfl ?_|refine r1Y ?_|fail)
  exact d8 rfl
 have hc:=hg _ (ba hk2);cases hp:p (l.getD k default)
 ·rw [hp] at hc
  repeat' (first|refine zW ?_|apply a_n|refine zO ?_|refine vY ?_|(refine zGY ?_ ?_ <;> (intro _hg; try (exfalso; omega)))|fail)
  refine ie ev0 ev0 hc (ag (ar (.int _ _) (bd hd))) ?_
  repeat' (first|apply a_n|refine zO ?_|refine vY ?_|refine cFY ?_|fail)
  exact ⟨k + 1,by omega,⟨by omega,fun i hi=>by
   rcases jl.1 hi with h | rfl
   ·exact hz i h
   ·exact hp⟩,ag0⟩
 ·rw [hp] at hc;obtain ⟨e1,e2⟩:=wQ hk2 hz hp;rw [e1,e2,if_pos rfl]
  repeat' (first|refine zW ?_|apply a_n|refine zO ?_|refine vY ?_|(refine zGY ?_ ?_ <;> (intro _hg; try (exfalso; omega)))|fail)
  refine ie ev0 ev0 hc (ag (ar (.int _ _) (bd hd))) ?_
  repeat' (first|refine zW ?_|apply a_n|apply a_r|refine zO ?_|refine vY ?_|refine cTY ?_|refine ak rfl ?_|refine r1Y ?_|fail)
  exact .int _ _
theorem wu (l:List Int) (p:Int→Bool) (g:Nat) (caps:List AV) (hd:∀ x ∈ caps,Dat x) (hg:∀ x ∈ l,Pure Tryz.prog g (.int .i64 x :: caps) (.bool (p x))) (hl:Shn l):Pure Tryz.prog 73 [aL l,.func g caps] (.bool (l.any p)):=by
 refine Pure.of_c2 follows IB (br rfl) ?_;simp only [b73,aU];have h:=Cd l p g caps hd hg hl
 repeat' (first|refine zW ?_|apply a_n|refine zO ?_|refine vZ ?_|refine cZ ?_ (hp:=h) (hs:=by (first | refine af ?_ rfl | apply ag); (repeat' (first | exact ac | apply an | apply ah | exact bE _ | exact Dat.func hd)); first | done | fail)|refine ak rfl ?_|refine r1Z ?_|fail)
 cases hA:l.any p
 ·exact cu (by simp)
 ·exact cu (by simp)
def OkS (l:List Spx):Prop:=l.length ≤ 100000∧∀ s ∈ l,bQ ce s∧s.length ≤ 1000
theorem zN (l:List Spx) (s:Spx) (i:Nat) (hl:OkS l) (hs:bQ ce s∧s.length ≤ 1000) (hi:i < l.length):Pure Tryz.prog 74 [.int .i64 i,.iptr [aC l] 0,.iptr [aF s] 0] (.bool (decide (s.length < (l.getD i default).length) && eN s (l.getD i default))):=by
 refine Pure.of_c2 follows H7 (br rfl) ?_;simp only [b74,aU];have ix:=fq hi;obtain ⟨t1,t2⟩:=hl.2 _ (aE hi);have hf:=Hu s (l.getD i default) hs.1 t1 (by omega) (by omega);generalize l.getD i default=t at *;by_cases h:s.length < t.length
 ·have z:decide ((s.length:Int) < t.length)=true:=bt (by omega);rw [bt h,Bool.true_and];have zz:=aI @az (aI @ix @z); repeat' (first|refine zW ?_|refine zM ?_|apply a_n|refine zO ?_|refine vZ ?_|refine cZ ?_ (hp:=hf) (hs:=by (first | refine af ?_ rfl | apply ag); (repeat' (first | exact ac | apply an | apply ah | exact aH _)); first | done | fail)|refine gTZ ?_|refine ak rfl ?_|refine r1Z ?_|fail)
  exact .bool _
 ·have z:decide ((s.length:Int) < t.length)=false:=bj (by omega);rw [bj h,Bool.false_and];have zz:=aI @az (aI @ix @z); repeat' (first|refine zW ?_|refine zM ?_|apply a_n|refine zO ?_|refine vZ ?_|refine gFZ ?_|refine ak rfl ?_|refine r1Z ?_|fail)
  exact .bool _
theorem B7 (l:List Spx) (s:Spx) (hl:OkS l) (hs:bQ ce s∧s.length ≤ 1000) (h0:0 < s.length):Pure Tryz.prog 47 [aC l,aL ((mH l l.length (s.getD 0 default)).map fun (n:Nat)=>(n:Int)),aF s] (.bool (du l s)):=by
 refine Pure.of_c2 follows Jo (br rfl) ?_;simp only [b47,aU];have hll:=hl.1
 have h:=wu ((mH l l.length (s.getD 0 default)).map fun (n:Nat)=>(n:Int)) (fun i=>decide (s.length < (l.getD i.toNat default).length) && eN s (l.getD i.toNat default)) 74 [.iptr [aC l] 0,.iptr [aF s] 0] (DatL.cons (Dat.iptr (DatL.cons (aW _) DatL.nil)) (DatL.cons (Dat.iptr (DatL.cons (aH _) DatL.nil)) DatL.nil)) (fun x hx=>by
  obtain ⟨n,hn,rfl⟩:=bP.1 hx;have hn2:n < l.length:=ew.1 (gW.1 hn).1;rw [cQ];exact zN l s n hl hs hn2) (by rw [Shn,bO]; have:=wA (l:=l) (i:=l.length) (v:=s.getD 0 default); omega)
 rw [FO (p:=fun t=>decide (s.length < t.length) && eN s t) h0 (fun t ht=>by
  rw [dS,fG] at ht;exact ht.2 _ (aE h0))] at h
 have zz:=aI @au (aI @ao (aI @b0 @bD)); repeat' (first|refine zW ?_|apply a_n|refine zO ?_|refine vZ ?_|refine bxZ ?_|fail)
 refine ie (have zz:=aI @au (aI @ao (aI @b0 @bD)); evZ) (have zz:=aI @au (aI @ao (aI @b0 @bD)); evZ) h (af (ar (bE _ _) (ar (Ca (ar (xp rfl rfl (ar (aW _ _) ac)) (ar (xp rfl rfl (ar (aH _ _) ac)) ac))) ac)) rfl) ?_
 repeat' (first|apply a_n|refine zO ?_|refine vZ ?_|refine ak rfl ?_|refine r1Z ?_|fail)
 exact .bool _
end Go.Proofs.YtlodfaaceehfmaaGreat
namespace Go.Proofs.YtlodfaaceehfmaaGreat
open Go Go.Abs
theorem DX {H:Hp} {sv:AV} {F:List Nat} (h:Row H 1 sv (F.map y7)):Snap H sv (aL (F.map fun (n:Nat)=>(n:Int))):=by
 refine Row.snapI ?_;rw [List.map_map]; exact h
theorem sS {c:List Spx} {k:Nat}:pm c k=if bR (c.getD k default) ≠ 0 then bR (c.getD k default) else if 0 < k∧0 ≤ bG (c.getD (k - 1) default) (c.getD k default) then 14 else 0:=rfl
theorem Ef {c:List Spx} (h1:c.length ≤ 4096) (h:∀ s ∈ c,bR s=0):OkS c:=⟨by omega,fun s hs=>by
 obtain ⟨a1,a2,a3,a4⟩:=cV (h s hs);exact ⟨a3,by omega⟩⟩
theorem wB {H:Hp} {b:Nat} {cs:List AV} (h:H b=some cs):Sub (only b cs) H:=fun x c hx=>by
 unfold only at hx;split at hx
 ·rename_i e; rw [e,h]; exact hx
 ·cases hx
def on2 (b1:Nat) (c1:List AV) (b2:Nat) (c2:List AV):Hp:=fun x=>if x=b1 then some c1 else if x=b2 then some c2 else none
theorem Ik {b1 b2:Nat} {c1 c2:List AV}:on2 b1 c1 b2 c2 b1=some c1:=if_pos rfl
theorem Iv {b1 b2:Nat} {c1 c2:List AV} (h:b2 ≠ b1):on2 b1 c1 b2 c2 b2=some c2:=by unfold on2; rw [if_neg h,if_pos rfl]
theorem Av {b1 b2:Nat} {c1 c2:List AV} {H:Hp} (h1:H b1=some c1) (h2:H b2=some c2):Sub (on2 b1 c1 b2 c2) H:=fun x cs h=>by
 unfold on2 at h;split at h
 ·rename_i e; rw [e,h1]; exact h
 ·split at h
  ·rename_i e; rw [e,h2]; exact h
  ·cases h
theorem rp {P:Program} {T:Tm} {H:Hp} {nx:Nat} (b1 b2:Nat) {c1 c2:List AV} {K:CP} {m:Nat} {l:List Op2} {C:List (Nat × Nat)} (h1:H b1=some c1) (h2:H b2=some c2) (hne:b2 ≠ b1) (k:∀ S:Hp,S b1=some c1→S b2=some c2→(∀ H':Hp,H' b1=some c1→H' b2=some c2→Sub S H')→a9 P S (C.map fun k=>(l.getD k.1 ⟨none,none,.dead⟩,k.2)) T H nx fun T H nx=>K .normal T H nx):aM P (.mixS m l C) T H nx K :=
 zt (on2 b1 c1 b2 c2) rfl (Av h1 h2) (k _ Ik (Iv hne) fun _ a b=>Av a b)
theorem rS {P:Program} {T:Tm} {H:Hp} {nx:Nat} (b:Nat) {c:List AV} {K:CP} {m:Nat} {l:List Op2} {C:List (Nat × Nat)} (h:H b=some c) (k:∀ S:Hp,S b=some c→(∀ H':Hp,H' b=some c→Sub S H')→a9 P S (C.map fun k=>(l.getD k.1 ⟨none,none,.dead⟩,k.2)) T H nx fun T H nx=>K .normal T H nx):aM P (.mixS m l C) T H nx K :=
 zt (only b c) rfl (wB h) (k _ oS fun _ h=>wB h)
attribute [local irreducible] aM am bm be aX a6 aG aZ bf bI Go.Abs.Fn bc Go.Abs.Pure aB aQ Yl
set_option maxHeartbeats 2000000 in
theorem jD (c:List Spx) (hc:Shn c) (hs:∀ s ∈ c,Shn s):Pure Tryz.prog 21 [dl c] (.int .i64 (aO c)):=by
 refine Pure.of_c2 follows HQ (br rfl) ?_;simp only [b21,aU];have hc':c.length ≤ 17592186044416:=hc;by_cases h0:4096 < c.length
 ·rw [show aO c=5 by unfold aO; rw [if_pos h0]];have zz:=aI @aj (aI @au @ao); repeat' (first|refine zW ?_|apply a_n|apply a_r|refine zO ?_|refine vZ ?_|refine bxZ ?_|(refine zGZ ?_ ?_ <;> (intro _hg; try (exfalso; omega)))|refine ak rfl ?_|refine r1Z ?_|fail)
  all_goals exact d8 rfl
 rw [show aO c=if db (pm c) c.length ≠ 0 then db (pm c) c.length else if c.any (du c)=true then 7 else 0 by unfold aO; rw [if_neg h0]];refine dt ?_;have zz:=aI @aj (aI @au @ao); repeat' (first|apply a_n|refine zO ?_|refine vZ ?_|refine bxZ ?_|fail)
 refine dt (dt ?_);clear zz;have zz:=aI @aj (aI @au @ao); repeat' (first|apply a_n|refine zO ?_|refine vZ ?_|(refine zGZ ?_ ?_ <;> (intro _hg; try (exfalso; omega)))|fail)
 by_cases hz:db (pm c) c.length ≠ 0
 ·rw [if_pos hz];clear zz;have zz:=aI @aj (aI @au @ao); repeat' (first|refine zW ?_|apply a_n|refine zO ?_|refine vZ ?_|fail)
  refine bC (X:=Nat) (fun k=>[(1,.ptr 0 1 0),(14,aC c),(15,.int .i64 c.length),(16,.int .i64 k)]) (fun k H nx=>k ≤ c.length∧H 0=some [aC c]∧∀ i,i < k→pm c i=0) (fun k=>c.length - k) 0 ⟨cf _,rfl,fun i h=>absurd h (by omega)⟩ (by (iterate 4 refine And.intro rfl ?_); trivial) ?_;rintro k H nx ⟨h1,g0,h2⟩;by_cases hk:k < c.length
  rotate_left
  ·exact absurd (cT fun i hi=>h2 i (by omega)) hz
  have ix:=fq hk;have hs1:=hs _ (aE hk);have hp:=oU (c.getD k default) hs1;have hsp:=sS (c:=c) (k:=k);by_cases he:bR (c.getD k default) ≠ 0
  ·rw [if_pos he] at hsp;rw [cL hk h2 (by rw [hsp]; exact he),hsp];have z:decide (bR (c.getD k default) ≠ 0)=true:=bt he;clear zz;have zz:=aI @aj (aI @ix @z); repeat' (first|refine zW ?_|apply a_n|apply a_r|refine zO ?_|refine vY ?_|refine cY ?_ (hp:=hp) (hs:=by (first | refine af ?_ rfl | apply ag); (repeat' (first | exact ac | apply an | apply ah | exact aH _)); first | done | fail)|refine cTY ?_|(refine zGY ?_ ?_ <;> (intro _hg; try (exfalso; omega)))|refine ak rfl ?_|refine r1Y ?_|fail)
   exact .int _ _
  rw [if_neg he] at hsp;have he:=tV he;rw [he] at hp;have z:decide ((0:Int) ≠ 0)=false:=rfl;by_cases hk0:0 < k
  rotate_left
  ·rw [if_neg (fun h=>hk0 h.1)] at hsp;have zk:decide (0 < (k:Int))=false:=bj (by omega);clear zz;have zz:=aI @aj (aI @ix (aI @z @zk)); repeat' (first|refine zW ?_|apply a_n|refine zO ?_|refine vY ?_|refine cY ?_ (hp:=hp) (hs:=by (first | refine af ?_ rfl | apply ag); (repeat' (first | exact ac | apply an | apply ah | exact aH _)); first | done | fail)|refine gFY ?_|refine cFY ?_|(refine zGY ?_ ?_ <;> (intro _hg; try (exfalso; omega)))|fail)
   exact ⟨k + 1,by omega,⟨by omega,g0,fun i hi=>by
    rcases jl.1 hi with h' | rfl
    ·exact h2 i h'
    ·exact hsp⟩,ag0⟩
  have zk:decide (0 < (k:Int))=true:=bt (by omega)
  have iy:eG 1 (aC c) (.int .i64 ((k:Int) - 1))=some (.iptr [aF (c.getD (k - 1) default)] 0):=by
   have:=fq (l:=c) (k:=k - 1) (by omega)
   rwa [show ((k - 1:Nat):Int)=(k:Int) - 1 by omega] at this
  have hcm:=gd (c.getD (k - 1) default) (c.getD k default) (hs _ (aE (by omega))) hs1;by_cases hv:0 ≤ bG (c.getD (k - 1) default) (c.getD k default)
  ·have z2:decide (0 ≤ bG (c.getD (k - 1) default) (c.getD k default))=true:=bt hv;rw [if_pos ⟨hk0,hv⟩] at hsp;rw [cL hk h2 (by rw [hsp]; decide),hsp];clear zz;have zz:=aI @aj (aI @ix (aI @iy (aI @z (aI @zk (aI @z2 @g0))))); repeat' (first|refine zW ?_|apply a_n|apply a_r|refine zO ?_|refine vY ?_|refine cY ?_ (hp:=by first | exact hp | exact hcm) (hs:=by (first | refine af ?_ rfl | apply ag); (repeat' (first | exact ac | apply an | apply ah | exact aH _)); first | done | fail)|refine gTY ?_|refine cTY ?_|refine cFY ?_|(refine zGY ?_ ?_ <;> (intro _hg; try (exfalso; omega)))|refine ak rfl ?_|refine r1Y ?_|fail)
   exact .int _ _
  ·have z2:decide (0 ≤ bG (c.getD (k - 1) default) (c.getD k default))=false:=bj hv;rw [if_neg (fun h=>hv h.2)] at hsp;clear zz;have zz:=aI @aj (aI @ix (aI @iy (aI @z (aI @zk (aI @z2 @g0))))); repeat' (first|refine zW ?_|apply a_n|refine zO ?_|refine vY ?_|refine cY ?_ (hp:=by first | exact hp | exact hcm) (hs:=by (first | refine af ?_ rfl | apply ag); (repeat' (first | exact ac | apply an | apply ah | exact aH _)); first | done | fail)|refine gTY ?_|refine cFY ?_|(refine zGY ?_ ?_ <;> (intro _hg; try (exfalso; omega)))|fail)
   exact ⟨k + 1,by omega,⟨by omega,g0,fun i hi=>by
    rcases jl.1 hi with h' | rfl
    ·exact h2 i h'
    ·exact hsp⟩,ag0⟩
 have hz:=tV hz;rw [if_neg (fun h=>h hz)];obtain ⟨a1,a2⟩:=Ac hz;have hall:=fY hz;have hok:=Ef (by omega) a1;refine cr (fun T H nx=>T 1=.ptr 0 1 0∧H 0=some [aC c]∧1 ≤ nx) ?_ ?_
 ·clear zz;have zz:=aI @aj (aI @au @ao); repeat' (first|refine zW ?_|apply a_n|refine zO ?_|refine vZ ?_|fail)
  refine bC (X:=Nat) (fun k=>[(1,.ptr 0 1 0),(14,aC c),(15,.int .i64 c.length),(16,.int .i64 k)]) (fun k H nx=>k ≤ c.length∧H 0=some [aC c]∧1 ≤ nx) (fun k=>c.length - k) 0 ⟨cf _,rfl,by omega⟩ (by (iterate 4 refine And.intro rfl ?_); trivial) ?_;rintro k H nx ⟨h1,g0,hnx⟩;by_cases hk:k < c.length
  rotate_left
  ·repeat' (first|refine zW ?_|apply a_n|apply a_x|refine zO ?_|refine vY ?_|(refine zGY ?_ ?_ <;> (intro _hg; try (exfalso; omega)))|fail)
   exact ⟨rfl,g0,hnx⟩
  have ix:=fq hk;have hs1:=hs _ (aE hk);have hp:=oU (c.getD k default) hs1;rw [a1 _ (aE hk)] at hp;have z:decide ((0:Int) ≠ 0)=false:=rfl;by_cases hk0:0 < k
  rotate_left
  ·have zk:decide (0 < (k:Int))=false:=bj (by omega);clear zz;have zz:=aI @aj (aI @ix (aI @z @zk)); repeat' (first|refine zW ?_|apply a_n|refine zO ?_|refine vY ?_|refine cY ?_ (hp:=hp) (hs:=by (first | refine af ?_ rfl | apply ag); (repeat' (first | exact ac | apply an | apply ah | exact aH _)); first | done | fail)|refine gFY ?_|refine cFY ?_|(refine zGY ?_ ?_ <;> (intro _hg; try (exfalso; omega)))|fail)
   exact ⟨k + 1,by omega,⟨by omega,g0,hnx⟩,ag0⟩
  have zk:decide (0 < (k:Int))=true:=bt (by omega)
  have iy:eG 1 (aC c) (.int .i64 ((k:Int) - 1))=some (.iptr [aF (c.getD (k - 1) default)] 0):=by
   have:=fq (l:=c) (k:=k - 1) (by omega)
   rwa [show ((k - 1:Nat):Int)=(k:Int) - 1 by omega] at this
  have hcm:=gd (c.getD (k - 1) default) (c.getD k default) (hs _ (aE (by omega))) hs1;have z2:decide (0 ≤ bG (c.getD (k - 1) default) (c.getD k default))=false:=bj (by have:=dJ a2 (i:=k - 1) (j:=k) (by omega) hk; omega);clear zz;have zz:=aI @aj (aI @ix (aI @iy (aI @z (aI @zk (aI @z2 @g0))))); repeat' (first|refine zW ?_|apply a_n|refine zO ?_|refine vY ?_|refine cY ?_ (hp:=by first | exact hp | exact hcm) (hs:=by (first | refine af ?_ rfl | apply ag); (repeat' (first | exact ac | apply an | apply ah | exact aH _)); first | done | fail)|refine gTY ?_|refine cFY ?_|(refine zGY ?_ ?_ <;> (intro _hg; try (exfalso; omega)))|fail)
  exact ⟨k + 1,by omega,⟨by omega,g0,hnx⟩,ag0⟩
 rintro T H nx ⟨t1,g0,hnx⟩;clear zz;have zz:=aI @t1 @g0; repeat' (first|refine zW ?_|apply a_n|refine zO ?_|refine vY ?_|fail)
 refine bn ev0 (have zz:=@t1; evZ) (yw c hok.1 (fun s hs=>⟨(hok.2 s hs).1,by have:=(hok.2 s hs).2; omega⟩) _ _) ?_;rintro _ H1 nx1 ⟨ks,vs,rfl,hinc,hsame,hlt⟩;have g0':H1 0=some [aC c]:=(hsame 0 (by omega)).trans g0;clear zz;have zz:=aI @t1 (aI @g0' @aj); repeat' (first|refine zW ?_|apply a_n|refine zO ?_|refine vY ?_|fail)
 refine bC (X:=Nat) (fun k=>[(1,.ptr 0 1 0),(6,.mp nx),(44,aC c),(45,.int .i64 c.length),(46,.int .i64 k)]) (fun k H' nx'=>k ≤ c.length∧H'=H1∧nx'=nx1∧∀ i,i < k→du c (c.getD i default)=false) (fun k=>c.length - k) 0 ⟨cf _,rfl,rfl,fun i h=>absurd h (by omega)⟩ (have zz:=@t1; agZ) ?_;rintro k H' nx' ⟨h1,rfl,rfl,h2⟩;by_cases hk:k < c.length
 rotate_left
 ·rw [pU fun i hi=>h2 i (by omega),if_neg (by decide)]
  repeat' (first|refine zW ?_|apply a_n|apply a_x|refine zO ?_|refine vY ?_|(refine zGY ?_ ?_ <;> (intro _hg; try (exfalso; omega)))|refine ak rfl ?_|refine r1Y ?_|fail)
  exact .int _ _
 have ix:=fq hk;obtain ⟨p1,p2,p3,p4⟩:=cV (a1 _ (aE hk));have hcv:=B7 c (c.getD k default) hok (hok.2 _ (aE hk)) (by omega);have iy:=ix2 (l:=c.getD k default) (k:=0) (by omega);rw [show ((0:Nat):Int)=0 from rfl] at iy
 have hks:(c.getD k default).getD 0 default ∈ ks:=(hinc.dom _).2 fun e=>by
  have:k ∈ mH c c.length ((c.getD k default).getD 0 default):=gW.2 ⟨ew.2 hk,bt (aE (by omega))⟩;rw [e] at this; cases this
 have hmf:=C6 ((c.getD k default).getD 0 default) ks;rw [if_pos hks] at hmf;obtain ⟨m1,m2⟩:=v7 hks;have hr:=hinc.row _ m1;rw [m2] at hr;have hcb:du c (c.getD k default)=true→c.any (du c)=true:=fun h=>pQ.2 ⟨_,aE hk,h⟩;generalize hsk:c.getD k default=s at *;clear zz;have zz:=@ix; repeat' (first|refine zW ?_|apply a_n|refine zO ?_|refine vY ?_|(refine zGY ?_ ?_ <;> (intro _hg; try (exfalso; omega)))|fail)
 refine rS 0 g0' fun S hS0 hsub'=>?_;have hsub:=hsub' H' g0';clear zz;have zz:=aI @hS0 @iy; repeat' (first|apply a_n|refine zO ?_|refine nvY ?_|fail)
 refine iu ?_;refine nt ev0 hinc.box ev0 (DD _) hmf ?_;refine uv ⟨hsub,?_⟩;rw [show mget .esl false (some (ks.idxOf (s.getD 0 default))) vs=vs.getD (ks.idxOf (s.getD 0 default)) .undef from rfl];refine kq ?_;cases hb:du c s
 ·rw [hb] at hcv;refine ie ev0 ev0 hcv (af (ar (aW _ _) (ar (DX hr) (ar (aH _ _) ac))) rfl) ?_
  repeat' (first|apply a_n|refine zO ?_|refine vY ?_|refine cFY ?_|fail)
  exact ⟨k + 1,by omega,⟨by omega,rfl,rfl,fun i hi=>by
   rcases jl.1 hi with h' | rfl
   ·exact h2 i h'
   ·rw [hsk]; exact hb⟩,ag0⟩
 ·rw [hb] at hcv;rw [hcb hb,if_pos rfl];refine ie ev0 ev0 hcv (af (ar (aW _ _) (ar (DX hr) (ar (aH _ _) ac))) rfl) ?_
  repeat' (first|refine zW ?_|apply a_n|apply a_r|refine zO ?_|refine vY ?_|refine cTY ?_|refine ak rfl ?_|refine r1Y ?_|fail)
  exact .int _ _
end Go.Proofs.YtlodfaaceehfmaaGreat
namespace Go.Proofs.YtlodfaaceehfmaaGreat
open Go Go.Abs
theorem CH {c:List Spx} (h1:∀ s ∈ c,bQ ce s) (h2:bQ bG c) {i k:Nat} (hi:i < c.length) (hk:k < c.length) (hik:i ≠ k) (h:eN (c.getD i default) (c.getD k default)=true):du c (c.getD i default)=true:=by
 refine oh.2 ⟨_,aE hk,GH (h1 _ (aE hi)) (h1 _ (aE hk)) (fG.1 h) fun e=>?_,fG.1 h⟩;rcases sg i k with q | q | q
 ·have:=dJ h2 q hk; rw [e] at this; exact iM.ord.irr _ this
 ·exact hik q
 ·have:=dJ h2 q hi; rw [e] at this; exact iM.ord.irr _ this
theorem En {c:List Spx} {i:Nat} (h:du c (c.getD i default)=true):∃ k,k < c.length∧i ≠ k∧eN (c.getD i default) (c.getD k default)=true:=by
 obtain ⟨t,ht,h1,h2⟩:=oh.1 h;obtain ⟨k,hk,rfl⟩:=jW ht;have e:c.getD k default=c[k]:=by simp [List.getD,hk]
 refine ⟨k,hk,fun hik=>?_,by rw [e]; exact fG.2 h2⟩;subst hik;rw [e] at h1; omega
attribute [local irreducible] aM am bm be aX a6 aG aZ bf bI Go.Abs.Fn bc Go.Abs.Pure aB aQ Yl
set_option maxHeartbeats 2000000 in
theorem Ft (c:List Spx) (hc:Shn c) (hs:∀ s ∈ c,Shn s):Pure Tryz.prog 18 [dl c] (.int .i64 (aO c)):=by
 refine Pure.of_c2 follows Kw (br rfl) ?_;simp only [b18,aU];have hc':c.length ≤ 17592186044416:=hc;by_cases h0:4096 < c.length
 ·rw [show aO c=5 by unfold aO; rw [if_pos h0]];have zz:=aI @aj (aI @au @ao); repeat' (first|refine zW ?_|apply a_n|apply a_r|refine zO ?_|refine vZ ?_|refine bxZ ?_|(refine zGZ ?_ ?_ <;> (intro _hg; try (exfalso; omega)))|refine ak rfl ?_|refine r1Z ?_|fail)
  all_goals exact d8 rfl
 rw [show aO c=if db (pm c) c.length ≠ 0 then db (pm c) c.length else if c.any (du c)=true then 7 else 0 by unfold aO; rw [if_neg h0]];refine dt ?_;have zz:=aI @aj (aI @au @ao); repeat' (first|apply a_n|refine zO ?_|refine vZ ?_|refine bxZ ?_|fail)
 refine dt ?_;clear zz;have zz:=aI @aj (aI @au @ao); repeat' (first|apply a_n|refine zO ?_|refine vZ ?_|fail)
 refine dt (dt ?_);clear zz;have zz:=aI @aj (aI @au @ao); repeat' (first|apply a_n|refine zO ?_|refine vZ ?_|(refine zGZ ?_ ?_ <;> (intro _hg; try (exfalso; omega)))|fail)
 by_cases hz:db (pm c) c.length ≠ 0
 ·rw [if_pos hz];clear zz;have zz:=aI @aj (aI @au @ao); repeat' (first|refine zW ?_|apply a_n|refine zO ?_|refine vZ ?_|fail)
  refine bC (X:=Nat) (fun k=>[(3,aC c),(4,.int .i64 k)]) (fun k H nx=>k ≤ c.length∧∀ i,i < k→pm c i=0) (fun k=>c.length - k) 0 ⟨cf _,fun i h=>absurd h (by omega)⟩ ag0 ?_;rintro k H nx ⟨h1,h2⟩;by_cases hk:k < c.length
  rotate_left
  ·exact absurd (cT fun i hi=>h2 i (by omega)) hz
  have ix:=fq hk;have hs1:=hs _ (aE hk);have hp:=Am (c.getD k default) hs1;have hsp:=sS (c:=c) (k:=k);by_cases he:bR (c.getD k default) ≠ 0
  ·rw [if_pos he] at hsp;rw [cL hk h2 (by rw [hsp]; exact he),hsp];have z:decide (bR (c.getD k default) ≠ 0)=true:=bt he;clear zz;have zz:=aI @aj (aI @ix @z); repeat' (first|refine zW ?_|apply a_n|apply a_r|refine zO ?_|refine vY ?_|refine cY ?_ (hp:=hp) (hs:=by (first | refine af ?_ rfl | apply ag); (repeat' (first | exact ac | apply an | apply ah | exact aH _)); first | done | fail)|refine cTY ?_|(refine zGY ?_ ?_ <;> (intro _hg; try (exfalso; omega)))|refine ak rfl ?_|refine r1Y ?_|fail)
   exact .int _ _
  rw [if_neg he] at hsp;have he:=tV he;rw [he] at hp;have z:decide ((0:Int) ≠ 0)=false:=rfl;by_cases hk0:0 < k
  rotate_left
  ·rw [if_neg (fun h=>hk0 h.1)] at hsp;have zk:decide (0 < (k:Int))=false:=bj (by omega);clear zz;have zz:=aI @aj (aI @ix (aI @z @zk)); repeat' (first|refine zW ?_|refine zM ?_|apply a_n|refine zO ?_|refine vY ?_|refine cY ?_ (hp:=hp) (hs:=by (first | refine af ?_ rfl | apply ag); (repeat' (first | exact ac | apply an | apply ah | exact aH _)); first | done | fail)|refine gFY ?_|refine cFY ?_|(refine zGY ?_ ?_ <;> (intro _hg; try (exfalso; omega)))|fail)
   exact ⟨k + 1,by omega,⟨by omega,fun i hi=>by
    rcases jl.1 hi with h' | rfl
    ·exact h2 i h'
    ·exact hsp⟩,ag0⟩
  have zk:decide (0 < (k:Int))=true:=bt (by omega)
  have iy:eG 1 (aC c) (.int .i64 ((k:Int) - 1))=some (.iptr [aF (c.getD (k - 1) default)] 0):=by
   have:=fq (l:=c) (k:=k - 1) (by omega)
   rwa [show ((k - 1:Nat):Int)=(k:Int) - 1 by omega] at this
  have hcm:=sR (c.getD (k - 1) default) (c.getD k default) (hs _ (aE (by omega))) hs1;by_cases hv:0 ≤ bG (c.getD (k - 1) default) (c.getD k default)
  ·have z2:decide (0 ≤ bG (c.getD (k - 1) default) (c.getD k default))=true:=bt hv;rw [if_pos ⟨hk0,hv⟩] at hsp;rw [cL hk h2 (by rw [hsp]; decide),hsp];clear zz;have zz:=aI @aj (aI @ix (aI @iy (aI @z (aI @zk @z2)))); repeat' (first|refine zW ?_|refine zM ?_|apply a_n|apply a_r|refine zO ?_|refine vY ?_|refine cY ?_ (hp:=by first | exact hp | exact hcm) (hs:=by (first | refine af ?_ rfl | apply ag); (repeat' (first | exact ac | apply an | apply ah | exact aH _)); first | done | fail)|refine gTY ?_|refine cTY ?_|refine cFY ?_|(refine zGY ?_ ?_ <;> (intro _hg; try (exfalso; omega)))|refine ak rfl ?_|refine r1Y ?_|fail)
   exact .int _ _
  ·have z2:decide (0 ≤ bG (c.getD (k - 1) default) (c.getD k default))=false:=bj hv;rw [if_neg (fun h=>hv h.2)] at hsp;clear zz;have zz:=aI @aj (aI @ix (aI @iy (aI @z (aI @zk @z2)))); repeat' (first|refine zW ?_|refine zM ?_|apply a_n|refine zO ?_|refine vY ?_|refine cY ?_ (hp:=by first | exact hp | exact hcm) (hs:=by (first | refine af ?_ rfl | apply ag); (repeat' (first | exact ac | apply an | apply ah | exact aH _)); first | done | fail)|refine gTY ?_|refine cFY ?_|(refine zGY ?_ ?_ <;> (intro _hg; try (exfalso; omega)))|fail)
   exact ⟨k + 1,by omega,⟨by omega,fun i hi=>by
    rcases jl.1 hi with h' | rfl
    ·exact h2 i h'
    ·exact hsp⟩,ag0⟩
 have hz:=tV hz;rw [if_neg (fun h=>h hz)];obtain ⟨a1,a2⟩:=Ac hz;have hok:=Ef (by omega) a1;refine cr (fun T H nx=>T 3=aC c) ?_ ?_
 ·clear zz;have zz:=aI @aj (aI @au @ao); repeat' (first|refine zW ?_|apply a_n|refine zO ?_|refine vZ ?_|fail)
  refine bC (X:=Nat) (fun k=>[(3,aC c),(4,.int .i64 k)]) (fun k H nx=>k ≤ c.length) (fun k=>c.length - k) 0 (cf _) ag0 ?_;rintro k H nx h1;by_cases hk:k < c.length
  rotate_left
  ·clear zz;have zz:=@aj; repeat' (first|refine zW ?_|apply a_n|apply a_x|refine zO ?_|refine vY ?_|(refine zGY ?_ ?_ <;> (intro _hg; try (exfalso; omega)))|fail)
   exact rfl
  have ix:=fq hk;have hs1:=hs _ (aE hk);have hp:=Am (c.getD k default) hs1;rw [a1 _ (aE hk)] at hp;have z:decide ((0:Int) ≠ 0)=false:=rfl;by_cases hk0:0 < k
  rotate_left
  ·have zk:decide (0 < (k:Int))=false:=bj (by omega);clear zz;have zz:=aI @aj (aI @ix (aI @z @zk)); repeat' (first|refine zW ?_|refine zM ?_|apply a_n|refine zO ?_|refine vY ?_|refine cY ?_ (hp:=hp) (hs:=by (first | refine af ?_ rfl | apply ag); (repeat' (first | exact ac | apply an | apply ah | exact aH _)); first | done | fail)|refine gFY ?_|refine cFY ?_|(refine zGY ?_ ?_ <;> (intro _hg; try (exfalso; omega)))|fail)
   exact ⟨k + 1,by omega,by omega,ag0⟩
  have zk:decide (0 < (k:Int))=true:=bt (by omega)
  have iy:eG 1 (aC c) (.int .i64 ((k:Int) - 1))=some (.iptr [aF (c.getD (k - 1) default)] 0):=by
   have:=fq (l:=c) (k:=k - 1) (by omega)
   rwa [show ((k - 1:Nat):Int)=(k:Int) - 1 by omega] at this
  have hcm:=sR (c.getD (k - 1) default) (c.getD k default) (hs _ (aE (by omega))) hs1;have z2:decide (0 ≤ bG (c.getD (k - 1) default) (c.getD k default))=false:=bj (by have:=dJ a2 (i:=k - 1) (j:=k) (by omega) hk; omega);clear zz;have zz:=aI @aj (aI @ix (aI @iy (aI @z (aI @zk @z2)))); repeat' (first|refine zW ?_|refine zM ?_|apply a_n|refine zO ?_|refine vY ?_|refine cY ?_ (hp:=by first | exact hp | exact hcm) (hs:=by (first | refine af ?_ rfl | apply ag); (repeat' (first | exact ac | apply an | apply ah | exact aH _)); first | done | fail)|refine gTY ?_|refine cFY ?_|(refine zGY ?_ ?_ <;> (intro _hg; try (exfalso; omega)))|fail)
  exact ⟨k + 1,by omega,by omega,ag0⟩
 rintro T H nx t3;clear zz;have zz:=@t3; repeat' (first|refine zW ?_|apply a_n|refine zO ?_|refine vY ?_|fail)
 refine bC (X:=Nat) (fun k=>[(3,aC c),(6,.int .i64 k)]) (fun k H' nx'=>k ≤ c.length∧∀ i,i < k→du c (c.getD i default)=false) (fun k=>c.length - k) 0 ⟨cf _,fun i h=>absurd h (by omega)⟩ (have zz:=@t3; agZ) ?_;clear zz;clear t3;rintro i H1 nx1 ⟨h1,h2⟩;by_cases hi:i < c.length
 rotate_left
 ·rw [pU fun i hi=>h2 i (by omega),if_neg (by decide)];have zz:=@aj; repeat' (first|refine zW ?_|apply a_n|apply a_x|refine zO ?_|refine vY ?_|(refine zGY ?_ ?_ <;> (intro _hg; try (exfalso; omega)))|refine ak rfl ?_|refine r1Y ?_|fail)
  exact .int _ _
 have zz:=@aj; repeat' (first|refine zW ?_|apply a_n|refine zO ?_|refine vY ?_|(refine zGY ?_ ?_ <;> (intro _hg; try (exfalso; omega)))|fail)
 refine bC (X:=Nat) (fun k=>[(3,aC c),(6,.int .i64 i),(7,.int .i64 k)]) (fun k H' nx'=>k ≤ c.length∧∀ j,j < k→i ≠ j→eN (c.getD i default) (c.getD j default)=false) (fun k=>c.length - k) 0 ⟨cf _,fun i h=>absurd h (by omega)⟩ ag0 ?_;rintro k H2 nx2 ⟨k1,k2⟩;by_cases hk:k < c.length
 rotate_left
 ·clear zz;have zz:=@aj; repeat' (first|refine zW ?_|apply a_n|apply a_x|refine zO ?_|refine vY ?_|(refine zGY ?_ ?_ <;> (intro _hg; try (exfalso; omega)))|fail)
  refine ⟨i + 1,by omega,⟨by omega,fun j hj=>?_⟩,ag0⟩;rcases jl.1 hj with h' | rfl
  ·exact h2 j h'
  ·cases hb:du c (c.getD j default)
   ·rfl
   ·obtain ⟨q,q1,q2,q3⟩:=En hb;rw [k2 q (by omega) q2] at q3; cases q3
 have ix:=fq hi;have iy:=fq hk;by_cases hik:i=k
 ·have z:decide ((i:Int) ≠ (k:Int))=false:=bj (by omega);clear zz;have zz:=aI @aj @z; repeat' (first|refine zW ?_|refine zM ?_|apply a_n|refine zO ?_|refine vY ?_|refine gFY ?_|refine cFY ?_|(refine zGY ?_ ?_ <;> (intro _hg; try (exfalso; omega)))|fail)
  exact ⟨k + 1,by omega,⟨by omega,fun j hj hij=>k2 j (by omega) hij⟩,ag0⟩
 have z:decide ((i:Int) ≠ (k:Int))=true:=bt (by omega);have hin:=CW (c.getD i default) (c.getD k default) (hs _ (aE hi)) (hs _ (aE hk));have ht:=CH (fun s hs=>(hok.2 s hs).1) a2 hi hk hik;cases hb:eN (c.getD i default) (c.getD k default)
 ·rw [hb] at hin;clear zz;have zz:=aI @aj (aI @ix (aI @iy @z)); repeat' (first|refine zW ?_|refine zM ?_|apply a_n|refine zO ?_|refine vY ?_|refine cY ?_ (hp:=hin) (hs:=by (first | refine af ?_ rfl | apply ag); (repeat' (first | exact ac | apply an | apply ah | exact aH _)); first | done | fail)|refine gTY ?_|refine cFY ?_|(refine zGY ?_ ?_ <;> (intro _hg; try (exfalso; omega)))|fail)
  exact ⟨k + 1,by omega,⟨by omega,fun j hj hij=>by
   rcases jl.1 hj with h' | rfl
   ·exact k2 j h' hij
   ·exact hb⟩,ag0⟩
 ·rw [hb] at hin;rw [if_pos (pQ.2 ⟨_,aE hi,ht hb⟩)];clear zz;have zz:=aI @aj (aI @ix (aI @iy @z)); repeat' (first|refine zW ?_|refine zM ?_|apply a_n|apply a_r|refine zO ?_|refine vY ?_|refine cY ?_ (hp:=hin) (hs:=by (first | refine af ?_ rfl | apply ag); (repeat' (first | exact ac | apply an | apply ah | exact aH _)); first | done | fail)|refine gTY ?_|refine cTY ?_|(refine zGY ?_ ?_ <;> (intro _hg; try (exfalso; omega)))|refine ak rfl ?_|refine r1Y ?_|fail)
  exact .int _ _
end Go.Proofs.YtlodfaaceehfmaaGreat
namespace Go.Proofs.YtlodfaaceehfmaaGreat
open Go Go.Abs
structure MapV where
 fr:Spx
 to:Spx
 deriving Inhabited,DecidableEq
abbrev I7 (m:MapV):AV:=.agg [aF m.fr,aF m.to]
theorem DW (m:MapV):Dat (I7 m):=Dat.agg (DatL.cons (aH _) (DatL.cons (aH _) DatL.nil))
instance datI_encM {m:MapV}:DatI (I7 m):=⟨DW m⟩
attribute [local irreducible] aM am bm be aX a6 aG aZ bf bI Go.Abs.Fn bc Go.Abs.Pure aB aQ Yl
theorem DZ {H:Hp} {a b:Bool} {e f:Int} (h1:a=b) (h2:e=f):Snap H (.tup [.bool a,.int .i64 e]) (.tup [.bool b,.int .i64 f]):=by
 subst h1 h2; exact cm (ar (.bool _) (ar (.int _ _) ac))
end Go.Proofs.YtlodfaaceehfmaaGreat
namespace Go.Proofs.YtlodfaaceehfmaaGreat
open Go Go.Abs
def cC:Spx→Nat→List Spx
 | _,0=>[[]]
 | [],_ + 1=>[]
 | x :: l,k + 1=>(cC l k).map (x :: ·) ++ cC l (k + 1)
theorem nA {l:Spx}:cC l 0=[[]]:=by cases l <;> rfl
theorem sj {k:Nat}:cC [] (k + 1)=[]:=rfl
theorem go {x:Vtx} {l:Spx} {k:Nat}:cC (x :: l) (k + 1)=(cC l k).map (x :: ·) ++ cC l (k + 1):=rfl
theorem eb:∀ {l:Spx} {k:Nat} {s:Spx},s ∈ cC l k ↔ s.Sublist l∧s.length=k
 | l,0,s=>by
  rw [nA,dL];exact ⟨fun h=>by subst h; exact ⟨List.nil_sublist _,rfl⟩,fun h=>fo.1 h.2⟩
 | [],k + 1,s=>by
  rw [sj];refine ⟨fun h=>(by cases h),fun ⟨h1,h2⟩=>?_⟩;rw [List.sublist_nil] at h1;subst h1; simp at h2
 | x :: l,k + 1,s=>by
  rw [go,fp,bP,eb];constructor
  ·rintro (⟨t,ht,rfl⟩ | ⟨h1,h2⟩)
   ·have:=eb.1 ht;exact ⟨this.1.cons_cons x,by simp [this.2]⟩
   ·exact ⟨h1.cons x,h2⟩
  ·rintro ⟨h1,h2⟩;cases h1 with
   | cons _ h=>exact .inr ⟨h,h2⟩
   | cons_cons _ h=>exact .inl ⟨_,eb.2 ⟨h,by simpa using h2⟩,rfl⟩
theorem sB {l:Spx} {k:Nat} (h:l.length < k):cC l k=[]:=by
 cases e:cC l k with
 | nil=>rfl
 | cons a r =>
  have:=eb.1 (show a ∈ cC l k by rw [e]; exact di);have:=this.1.length_le;omega
def chK:Nat→Nat→Nat
 | _,0=>1
 | 0,_ + 1=>0
 | n + 1,k + 1=>chK n k + chK n (k + 1)
theorem Ij {n:Nat}:chK n 0=1:=by cases n <;> rfl
theorem tc:∀ {l:Spx} {k:Nat},(cC l k).length=chK l.length k
 | l,0=>by rw [nA,Ij]; rfl
 | [],k + 1=>rfl
 | x :: l,k + 1=>by
  rw [go,dr,bO,tc,tc]; rfl
theorem GY {n k:Nat} (hn:n ≤ 8):chK n k ≤ 70:=by
 by_cases hk:k ≤ 8
 ·have:∀ n,n < 9→∀ k,k < 9→chK n k ≤ 70:=by decide
  exact this n (by omega) k (by omega)
 ·have:∀ n k,n < k→chK n k=0:=by
    intro n
    induction n with
    | zero=>intro k h; match k,h with | k + 1,_=>rfl
    | succ n ih=>intro k h; match k,h with | k + 1,h=>show chK n k + chK n (k + 1)=0; rw [ih k (by omega),ih (k + 1) (by omega)]
  rw [this n k (by omega)]; omega
theorem vu {l:Spx} {k:Nat} (h:l.length ≤ 8):(cC l k).length ≤ 70:=by rw [tc]; exact GY h
theorem Bm {l:Spx} {i k:Nat} (hi:i < l.length):cC (l.drop i) (k + 1)=(cC (l.drop (i + 1)) k).map (l.getD i default :: ·) ++ cC (l.drop (i + 1)) (k + 1):=by
 rw [List.drop_eq_getElem_cons hi,go];simp [List.getD,hi]
theorem t8 {v w:Vtx} {l m:Spx}:bG (v :: l) (w :: m)=if ce v w ≠ 0 then ce v w else bG l m:=rfl
theorem Bt {v:Vtx} {l m:Spx}:bG (v :: l) (v :: m)=bG l m:=by
 rw [t8,if_neg (fun h=>h (ip.2 rfl))]
theorem lA:∀ {l:Spx} {k:Nat},bQ ce l→bQ bG (cC l k)
 | l,0,_=>by rw [nA]; exact List.pairwise_singleton _ _
 | [],k + 1,_=>qJ
 | x :: l,k + 1,h=>by
  have h':=gS.1 h;rw [go];unfold bQ;rw [List.pairwise_append];refine ⟨?_,lA h'.2,?_⟩
  ·rw [List.pairwise_map];exact tH (fun {a b} hab=>by rw [Bt]; exact hab) (lA (k:=k) h'.2)
  ·intro a ha b hb;obtain ⟨t,_,rfl⟩:=bP.1 ha;have hb':=eb.1 hb;cases b with
   | nil=>simp at hb'
   | cons y r =>
    have hy:y ∈ l:=hb'.1.subset di;have:=h'.1 y hy;rw [t8,if_pos (by omega)];exact this
end Go.Proofs.YtlodfaaceehfmaaGreat
namespace Go.Proofs.YtlodfaaceehfmaaGreat
open Go Go.Abs
open Nat (reduceEqDiff reduceAdd reduceLeDiff)
attribute [local irreducible] aM am bm be aX a6 aG aZ bf bI Go.Abs.Fn bc Go.Abs.Pure aB aQ Yl
theorem Di (s:AV) (l:Spx) (hl:l.length ≤ 1000000) (h0:l ≠ []) (H:Hp) (nx:Nat) (hn:fD s=some l.length) (hs:∀ H',(∀ x,x < nx→H' x=H x)→ef 2 H' s=some (l.length,cX l)):Abs.Fn Tryz.prog 57 [s] H nx fun r H' nx'=>r=.msl nx (l.length * 2) 2 0 l.length∧H'=aq H nx (cX l)∧nx'=nx + 1:=by
 have hpos:=nB.2 h0;refine Abs.Fn.of_c2 follows Ht (br rfl) ?_;simp only [b57,aU]
 repeat' (first|refine zW ?_|apply a_n|refine zO ?_|refine vY ?_|fail)
 refine yZ (k:=l.length) (by ((try simp only [da,ZA,reduceEqDiff,↓reduceIte,reduceAdd,reduceLeDiff]); (try with_reducible rfl)); exact hn) (fun h=>?_) (fun h=>by omega) (fun h=>by omega)
 repeat' (first|refine zW ?_|apply a_n|refine zO ?_|refine vY ?_|refine b0Y ?_|refine cFY ?_|fail)
 refine rY rfl ev0 ev0 (hs _ fun x _=>rfl) (ma _) (by omega) (by omega) ?_
 repeat' (first|apply a_n|refine zO ?_|refine vY ?_|refine ak rfl ?_|refine r1Y ?_|fail)
 exact ⟨rfl,rfl,rfl⟩
theorem HE {y lo kb sb k N:Nat} {s:Spx} (hs:s.length ≤ 1000) (hk:k ≤ 1000) (I:List Spx→Hp→Nat→Prop)
    (hp:∀ S H nx,I S H nx→H kb=some [.int .i64 k]∧H sb=some [aF s]∧lo + 3 ≤ nx∧kb < lo∧sb < lo)
    (stab:∀ S H H' nx nx',I S H nx→nx ≤ nx'→(∀ i,i < nx→¬ (lo ≤ i∧i < lo + 3)→H' i=H i)→I S H' nx')
    (rnd:∀ S f H nx,I S H nx→f.length=k→f ≠ []→S.length < N→Yl Tryz.prog y [.msl nx (k * 2) 2 0 k] (aq H nx (cX f)) (nx + 1) fun r H' nx'=>r=.bool true∧I (S ++ [f]) H' nx'∧nx ≤ nx'∧∀ i,lo ≤ i→i < lo + 3→H' i=H i) :
    ∀ (j:Nat) (ch:Spx) (at_:Nat) (S:List Spx) (H:Hp) (nx:Nat),0 < k→ch.length + j=k→S.length + (cC (s.drop at_) j).length ≤ N→at_ ≤ s.length→I S H nx→H lo=some [.yld y]→H (lo + 1)=some [.func 96 [.ptr kb 1 0,.ptr lo 1 0,.ptr sb 1 0,.ptr (lo + 1) 1 0]]→(∃ C,H (lo + 2)=some C∧C.length=k * 2∧C.take (ch.length * 2)=cX ch) →
     Abs.Fn Tryz.prog 96 [.int .i64 at_,.msl (lo + 2) (k * 2) 2 0 ch.length,.ptr kb 1 0,.ptr lo 1 0,.ptr sb 1 0,.ptr (lo + 1) 1 0] H nx fun r H' nx'=>r=.bool true∧I (S ++ (cC (s.drop at_) j).map (ch ++ ·)) H' nx'∧nx ≤ nx'∧H' lo=H lo∧H' (lo + 1)=H (lo + 1)∧∃ C,H' (lo + 2)=some C∧C.length=k * 2∧C.take (ch.length * 2)=cX ch:=by
 intro j
 induction j with
 | zero =>
  intro ch at_ S H nx hk0 hj hN hat hI h1 h2 ⟨C,h3,hc1,hc2⟩;obtain ⟨g1,g2,g3,g4,g5⟩:=hp _ _ _ hI;have hlen:ch.length=k:=by omega
  have hne:ch ≠ []:=fun e=>by rw [e] at hlen; simp at hlen; omega
  obtain rfl:C=cX ch:=by rw [← hc2,iv (by omega)]
  refine Abs.Fn.of_c2 follows Hn (br rfl) ?_;simp only [b96,aU];have hcl:=Di (.msl (lo + 2) (k * 2) 2 0 k) ch (by omega) hne H nx (by rw [hlen]; rfl) (fun H' hH'=>by rw [hlen]; exact (jC (n:=k * 2) (off:=0) (len:=k) ((hH' (lo + 2) (by omega)).trans h3) hc1 (by omega)).trans (by rw [List.drop_zero,iv (by omega)]));rw [hlen] at hcl;rw [hlen];have z:decide ((k:Int)=k)=true:=bt rfl;have zz:=aI @g1 (aI @g2 (aI @h1 (aI @h2 @z))); repeat' (first|refine zW ?_|apply a_n|refine zO ?_|refine vY ?_|(refine zGY ?_ ?_ <;> (intro _hg; try (exfalso; omega)))|fail)
  refine rS lo h1 fun S0 hS hsub=>?_;clear zz;have zz:=@hS; repeat' (first|apply a_n|refine zO ?_|refine nvY ?_|fail)
  refine iu ?_;refine bn ev0 ev0 hcl ?_;rintro _ H2 nx2 ⟨rfl,rfl,rfl⟩;refine uv ⟨hsub _ (by rw [ae (by omega)]; exact h1),?_⟩;refine kq ?_;refine AZ ev0 ev0 (Yl.mono (rnd S ch H nx hI hlen hne (by rw [nA] at hN; exact hN)) ?_);rintro r H3 nx3 ⟨rfl,e1,e2,e3⟩
  repeat' (first|apply a_n|apply a_r|refine zO ?_|refine nvY ?_|refine ak rfl ?_|refine r1Y ?_|fail)
  refine ⟨rfl,?_,e2,e3 _ (by omega) (by omega),e3 _ (by omega) (by omega),cX ch,(e3 _ (by omega) (by omega)).trans h3,hc1,by rw [← hlen]; exact hc2⟩;rw [nA,dR,List.map_nil,jH];exact e1
 | succ j ih =>
  intro ch at_ S H nx hk0 hj hN hat hI h1 h2 ⟨C,h3,hc1,hc2⟩;obtain ⟨g1,g2,g3,g4,g5⟩:=hp _ _ _ hI;refine Abs.Fn.of_c2 follows Hn (br rfl) ?_;simp only [b96,aU];have z:decide ((ch.length:Int)=k)=false:=bj (by omega);have zz:=aI @g1 (aI @g2 (aI @h1 (aI @h2 @z))); repeat' (first|refine zW ?_|apply a_n|refine zO ?_|refine vY ?_|refine cFY ?_|fail)
  refine bC (X:=Nat × List Spx) (fun x=>[(1,.msl (lo + 2) (k * 2) 2 0 ch.length),(4,.ptr sb 1 0),(5,.ptr (lo + 1) 1 0),(9,.int .i64 x.1)]) (fun x H' nx'=>x.1 ≤ s.length∧I x.2 H' nx'∧nx ≤ nx'∧H' lo=H lo∧H' (lo + 1)=H (lo + 1)∧(∃ C,H' (lo + 2)=some C∧C.length=k * 2∧C.take (ch.length * 2)=cX ch)∧x.2 ++ (cC (s.drop x.1) (j + 1)).map (ch ++ ·)=S ++ (cC (s.drop at_) (j + 1)).map (ch ++ ·)) (fun x=>s.length - x.1) (at_,S) ⟨hat,hI,aP _,rfl,rfl,⟨C,h3,hc1,hc2⟩,rfl⟩ ag0 ?_;rintro ⟨i,S1⟩ H1 nx1 ⟨i1,hI1,i2,i3,i4,⟨C1,k3,d1,d2⟩,htot⟩;dsimp only at i1 hI1 htot ⊢;obtain ⟨q1,q2,q3,q4,q5⟩:=hp _ _ _ hI1;have w1:=i3.trans h1;have w2:=i4.trans h2;by_cases hi:i < s.length
  rotate_left
  ·clear zz;have zz:=aI @q1 (aI @q2 @az); repeat' (first|refine zW ?_|apply a_n|apply a_x|refine zO ?_|refine vY ?_|(refine zGY ?_ ?_ <;> (intro _hg; try (exfalso; omega)))|refine ak rfl ?_|refine r1Y ?_|fail)
   rw [show s.drop i=[] from Er (by omega),sj,List.map_nil,jH] at htot;exact ⟨rfl,by rw [← htot]; exact hI1,i2,i3,i4,C1,k3,d1,d2⟩
  have ix:=ix2 hi;rw [Bm hi,ed,List.map_map,← v4] at htot;have hmm:(cC (s.drop (i + 1)) j).map ((fun x=>ch ++ x) ∘ fun x=>s.getD i default :: x)=(cC (s.drop (i + 1)) j).map ((ch ++ [s.getD i default]) ++ ·):=pW fun x _=>by simp
  rw [hmm] at htot;generalize s.getD i default=v at *;clear zz;have zz:=aI @q1 (aI @q2 @az); repeat' (first|refine zW ?_|apply a_n|refine zO ?_|refine vY ?_|(refine zGY ?_ ?_ <;> (intro _hg; try (exfalso; omega)))|fail)
  refine rp sb (lo + 1) q2 w2 (by omega) fun S0 hS1 hS2 hsub=>?_;clear zz;have zz:=aI @hS1 (aI @hS2 @ix); repeat' (first|apply a_n|refine zO ?_|refine nvY ?_|fail)
  refine iu ?_
  repeat' (first|apply a_n|refine zO ?_|refine blY ?_|fail)
  refine ⟨hsub _ (by rw [ae (by omega)]; exact q2) (by rw [ae (by omega)]; exact w2),?_⟩;refine iu ?_;refine zG (b:=lo + 2) (m:=k * 2) (off:=0) (len:=ch.length) (n:=1) rfl ev0 (by rw [ae (by omega)]; exact k3) ev0 uy rfl d1 (fun _=>by omega) (by omega) (by omega) ?_;refine uv ⟨hsub _ (by rw [ae (by omega),ae (by omega)]; exact q2) (by rw [ae (by omega),ae (by omega)]; exact w2),?_⟩;refine kq ?_;have hl1:(ch ++ [v]).length=ch.length + 1:=by simp
  have hcc:=jY ch
  have hput:(bK C1 (0 + ch.length * 2) [.int .i64 v.color,.int .i64 v.label]).length=k * 2∧(bK C1 (0 + ch.length * 2) [.int .i64 v.color,.int .i64 v.label]).take ((ch.length + 1) * 2)=cX (ch ++ [v]):=by
   rw [cb];simp only [bK];refine ⟨by simp [d1]; omega,?_⟩;rw [d2,o7,GO,Fj (by simp [hcc]; omega),iv (by simp [hcc]; omega)]
  have hN1:S1.length + (cC (s.drop (i + 1)) j).length ≤ N:=by
   have:=congrArg List.length htot;simp only [dr,bO] at this;omega
  have hih:=ih (ch ++ [v]) (i + 1) S1 (aq (aq H1 nx1 [.int .i64 v.color,.int .i64 v.label]) (lo + 2) (bK C1 (0 + ch.length * 2) [.int .i64 v.color,.int .i64 v.label])) (nx1 + 1) hk0 (by omega) hN1 (by omega) (stab _ _ _ _ _ hI1 (by omega) (fun x hx hn=>by rw [ae (by omega),ae (by omega)])) (by rw [ae (by omega),ae (by omega)]; exact w1) (by rw [ae (by omega),ae (by omega)]; exact w2) ⟨_,ai,hput.1,by rw [hl1]; exact hput.2⟩;rw [hl1,show ((i + 1:Nat):Int)=(i:Int) + 1 by omega] at hih;refine bn ev0 ev0 hih ?_;rintro r H4 nx4 ⟨rfl,f1,f2,f3,f4,C4,f5,f6,f7⟩
  repeat' (first|apply a_n|refine zO ?_|refine vY ?_|refine nvY ?_|refine cFY ?_|fail)
  refine ⟨(i + 1,S1 ++ (cC (s.drop (i + 1)) j).map ((ch ++ [v]) ++ ·)),by dsimp only; omega,⟨by dsimp only; omega,f1,by omega,f3.trans ?_,f4.trans ?_,⟨C4,f5,f6,?_⟩,htot⟩,ag0⟩
  ·rw [ae (by omega),ae (by omega)]; exact i3
  ·rw [ae (by omega),ae (by omega)]; exact i4
  ·have:=congrArg (List.take (ch.length * 2)) f7;rw [List.take_take,Nat.min_eq_left (by omega),o7,Fj (by omega)] at this;rw [this];exact iv (by omega)
end Go.Proofs.YtlodfaaceehfmaaGreat
namespace Go.Proofs.YtlodfaaceehfmaaGreat
open Go Go.Abs
open Nat (reduceEqDiff reduceAdd reduceLeDiff)
attribute [local irreducible] aM am bm be aX a6 aG aZ bf bI Go.Abs.Fn bc Go.Abs.Pure aB aQ Yl
theorem DI {y kb sb k:Nat} {s:Spx} {H:Hp} {nx:Nat} (hs:s.length ≤ 1000) (hk0:0 < k) (hk:k ≤ 1000) (I:List Spx→Hp→Nat→Prop)
    (hp:∀ S H nx',I S H nx'→H kb=some [.int .i64 k]∧H sb=some [aF s]∧nx + 3 ≤ nx'∧kb < nx∧sb < nx)
    (stab:∀ S H H' nx1 nx',I S H nx1→nx1 ≤ nx'→(∀ i,i < nx1→¬ (nx ≤ i∧i < nx + 3)→H' i=H i)→I S H' nx')
    (rnd:∀ S f H nx1,I S H nx1→f.length=k→f ≠ []→S.length < (cC s k).length→Yl Tryz.prog y [.msl nx1 (k * 2) 2 0 k] (aq H nx1 (cX f)) (nx1 + 1) fun r H' nx'=>r=.bool true∧I (S ++ [f]) H' nx'∧nx1 ≤ nx'∧∀ i,nx ≤ i→i < nx + 3→H' i=H i)
    (gk:H kb=some [.int .i64 k]) (lk:kb < nx) (h0:∀ H',(∀ i,i < nx→H' i=H i)→I [] H' (nx + 3)) :
    Abs.Fn Tryz.prog 95 [.yld y,.ptr kb 1 0,.ptr sb 1 0] H nx fun _ H' nx'=>I (cC s k) H' nx':=by
 refine Abs.Fn.of_c2 follows Jh (br rfl) ?_;simp only [b95,aU];have zz:=@gk; repeat' (first|refine zW ?_|apply a_n|refine zO ?_|refine vY ?_|refine alY ?_|refine bxY ?_|refine stY ?_|fail)
 generalize hH:aq (aq (aq H nx [.yld y]) (nx + 1) [.nilf]) (nx + 1) (bK [.nilf] 0 [.func 96 [.ptr kb 1 0,.ptr nx 1 0,.ptr sb 1 0,.ptr (nx + 1) 1 0]])=H1;have hfn:H1 (nx + 1)=some [.func 96 [.ptr kb 1 0,.ptr nx 1 0,.ptr sb 1 0,.ptr (nx + 1) 1 0]]:=by rw [← hH,ai]; rfl
 have hfk:H1 kb=some [.int .i64 k]:=by rw [← hH,ae (by omega),ae (by omega),ae (by omega)]; exact gk
 have hfy:H1 nx=some [.yld y]:=by rw [← hH,ae (by omega),ae (by omega),ai]
 have hfo:∀ i,i < nx→H1 i=H i:=fun i hi=>by rw [← hH,ae (by omega),ae (by omega),ae (by omega)]
 clear zz;clear hH;refine rp kb (nx + 1) hfk hfn (by omega) fun S0 hS1 hS2 hsub=>?_;have zz:=aI @hS1 @hS2; repeat' (first|apply a_n|refine zO ?_|refine nvY ?_|fail)
 refine iu ?_;refine Aj (k1:=.i64) (k2:=.i64) (n:=0) (m:=k) rfl ev0 ev0 (Int.le_refl _) (by omega) (by omega) (by omega) ?_;refine uv ⟨hsub _ (by rw [ae (by omega)]; exact hfk) (by rw [ae (by omega)]; exact hfn),?_⟩;refine kq ?_;have hz:(bl (AV.agg [AV.int .i64 0,AV.int .i64 0]) k).length=k * 2:=by simp [bl,AV.cells]
 have hih:=HE (y:=y) (N:=(cC s k).length) (lo:=nx) (kb:=kb) (sb:=sb) (k:=k) (s:=s) hs hk I hp stab rnd k [] 0 [] (aq H1 (nx + 2) (bl (AV.agg [AV.int .i64 0,AV.int .i64 0]) k)) (nx + 3) hk0 (by simp) (by simp) (cf _) (h0 _ (fun i hi=>by rw [ae (by omega)]; exact hfo i hi)) (by rw [ae (by omega)]; exact hfy) (by rw [ae (by omega)]; exact hfn) ⟨_,ai,hz,rfl⟩;refine bn ev0 (by ((try simp only [da,ZA,reduceEqDiff,↓reduceIte,reduceAdd,reduceLeDiff]); (try with_reducible rfl)); rfl) hih ?_;rintro r H4 nx4 ⟨rfl,f1,-⟩
 repeat' (first|apply a_n|refine zO ?_|apply Gg|refine ak rfl ?_|fail)
 rw [List.drop_zero,List.nil_append,show (fun x:Spx=>([]:Spx) ++ x)=id from rfl,List.map_id] at f1;exact f1
theorem yj {kb sb k:Nat} {s:Spx} {H:Hp} {nx:Nat} (hs:s.length ≤ 8) (hk0:0 < k) (hk:k ≤ 1000) (gk:H kb=some [.int .i64 k]) (gs:H sb=some [aF s]) (lk:kb < nx) (ls:sb < nx) :
    Abs.Fn Tryz.prog 94 [.esl,.func 95 [.ptr kb 1 0,.ptr sb 1 0]] H nx fun r H' nx'=>Row H' 1 r ((cC s k).map aF)∧nx ≤ nx'∧∀ b',dF r=some b'→nx ≤ b'∧b' < nx':=by
 refine Abs.Fn.of_c2 follows Ic (br rfl) ?_;simp only [b94,aU]
 repeat' (first|refine zW ?_|apply a_n|refine zO ?_|refine vY ?_|refine bxY ?_|fail)
 refine pB (nx + 1) (nx + 2) rfl rfl ev0 (fun c0 cj hy=>?_);refine Abs.Fn.mono (DI (nx:=nx + 2) (kb:=kb) (sb:=sb) (k:=k) (s:=s) (by omega) hk0 hk (fun S H' nx'=>nx + 5 ≤ nx'∧H' kb=some [.int .i64 k]∧H' sb=some [aF s]∧H' (nx + 1)=some [c0]∧∃ sv,H' nx=some [sv]∧Row H' 1 sv (S.map aF)∧∀ b',dF sv=some b'→nx + 5 ≤ b'∧b' < nx') ?_ ?_ ?_ ?_ ?_ ?_) ?_
 ·rintro S H' nx' ⟨h1,h2,h3,h4,h5⟩;exact ⟨h2,h3,by omega,by omega,by omega⟩
 ·rintro S H1 H2 a c ⟨h1,h2,h3,h4,sv,h5,h6,h7⟩ hac hs';refine ⟨by omega,(hs' _ (by omega) (by omega)).trans h2,(hs' _ (by omega) (by omega)).trans h3,(hs' _ (by omega) (by omega)).trans h4,sv,(hs' _ (by omega) (by omega)).trans h5,h6.same (fun b' hb'=>hs' _ (h7 b' hb').2 (by have:=h7 b' hb'; omega)),fun b' hb'=>⟨(h7 b' hb').1,by have:=h7 b' hb'; omega⟩⟩
 ·rintro S f H' nx' ⟨h1,h2,h3,h4,sv,h5,h6,h7⟩ hfl hf0 hSN;have h4':aq H' nx' (cX f) (nx + 1)=some [c0]:=by rw [ae (by omega)]; exact h4
  refine hy _ _ _ _ h4' rfl ?_;clear hy
  repeat' (first|apply a_n|refine zO ?_|refine vZ ?_|fail)
  refine ⟨h4',?_⟩;have hS70:=yU hSN (vu (k:=k) hs);have hd:cK (aq H' nx' (cX f)) (nx + 1) nx'=some (cX f):=by rw [dj (by omega),ai]
  have hdo:∀ x,x < nx'→x ≠ nx + 1→cK (aq H' nx' (cX f)) (nx + 1) x=H' x:=fun x a b=>by rw [dj b,ae (by omega)]
  generalize cK (aq H' nx' (cX f)) (nx + 1)=H1 at *;refine iX ?_;refine qY (only nx' (cX f)) (cK H1 nx') [(2,.ptr nx 1 0),(5,aF f)] (Fz.one hd) ⟨.inl rfl,.inr (HI (s:=.msl nx' (k * 2) 2 0 k) (by rw [← hfl]; exact Row.box nx' f.length (cX f) oS (jY f))),trivial⟩ ?_;have he:∀ x,x < nx'→x ≠ nx + 1→cK H1 nx' x=H' x:=fun x a b=>by rw [dj (by omega)]; exact hdo x a b
  have g5:cK H1 nx' nx=some [sv]:=(he nx (by omega) (by omega)).trans h5;clear hd hdo;generalize cK H1 nx'=H2 at *;have zz:=aI @g5 (aI @b0 @bD); repeat' (first|apply a_n|refine zO ?_|refine vY ?_|refine blY ?_|fail)
  refine iq rfl ev0 (h6.same fun b' hb'=>?_) ev0 dp rfl rfl jt (by rw [bO]; omega) (by rw [bO]; omega) ?_
  ·have:=h7 b' hb';rw [ae (by omega)]; exact he _ (by omega) (by omega)
  rintro sv' H3 nx3 r1 r2 r3 r4 r5;have zs:∀ x,x < nx + 5→dF sv ≠ some x:=fun x hx e=>by have:=h7 x e; omega
  have z:∀ x,x < nx'→x ≠ nx + 1→dF sv ≠ some x→H3 x=H' x:=fun x a1 a2 a3=>(r4 x (by omega) a3).trans (by rw [ae (by omega)]; exact he x a1 a2);have g6:H3 nx=some [sv]:=(z nx (by omega) (by omega) (zs _ (by omega))).trans h5;obtain ⟨q1,q2⟩:=r1.one;clear zz;have zz:=aI @g6 (aI @q1 @q2); repeat' (first|apply a_n|refine zO ?_|refine stY ?_|fail)
  have w:∀ x,x ≠ nx→x ≠ nx + 1→aq (aq H3 nx (bK [sv] 0 [sv'])) (nx + 1) [c0] x=H3 x:=fun x a1 a2=>by rw [ae a2,ae a1]
  have u7:∀ b',dF sv'=some b'→nx + 5 ≤ b'∧b' < nx3:=fun b' hb'=>by
   rcases r5 b' hb' with e | ⟨e1,e2⟩
   ·have:=h7 b' e; omega
   ·omega
  refine ⟨rfl,⟨by omega,?_,?_,ai,sv',?_,?_,u7⟩,by omega,fun x x1 x2=>?_⟩
  ·rw [w _ (by omega) (by omega),z _ (by omega) (by omega) (zs _ (by omega)),h2]
  ·rw [w _ (by omega) (by omega),z _ (by omega) (by omega) (zs _ (by omega)),h3]
  ·rw [ae (by omega),ai]; rfl
  ·rw [ed];exact r1.same (fun b' hb'=>w b' (by have:=u7 b' hb'; omega) (by have:=u7 b' hb'; omega))
  ·rw [w _ (by omega) (by omega),z _ (by omega) (by omega) (zs _ (by omega))]
 ·rw [ae (by omega),ae (by omega)]; exact gk
 ·omega
 ·intro H' hH';refine ⟨by omega,?_,?_,?_,.esl,?_,.nil,fun b' hb'=>(by cases hb')⟩
  ·rw [hH' _ (by omega),ae (by omega),ae (by omega),gk]
  ·rw [hH' _ (by omega),ae (by omega),ae (by omega),gs]
  ·rw [hH' _ (by omega),ai]
  ·rw [hH' _ (by omega),ae (by omega),ai]
 ·rintro r H' nx' ⟨h1,h2,h3,h4,sv,h5,h6,h7⟩;refine .inl ⟨h4,?_⟩;have zz:=@h5; repeat' (first|refine zW ?_|apply a_n|refine zO ?_|refine vY ?_|refine ak rfl ?_|refine r1Y ?_|fail)
  exact ⟨h6.same (fun b' hb'=>dj (by have:=h7 b' hb'; omega)),by omega,fun b' hb'=>by have:=h7 b' hb'; omega⟩
end Go.Proofs.YtlodfaaceehfmaaGreat
namespace Go.Proofs.YtlodfaaceehfmaaGreat
open Go Go.Abs
attribute [local irreducible] aM am bm be aX a6 aG aZ bf bI Go.Abs.Fn bc Go.Abs.Pure aB aQ Yl
end Go.Proofs.YtlodfaaceehfmaaGreat
namespace Go.Proofs.YtlodfaaceehfmaaGreat
open Go Go.Abs
def ro (s:Spx) (k:Int):List Spx × Int:=if bR s ≠ 0 then ([],bR s) else if k < 1 ∨ (s.length:Int) < k then ([],2) else (cC s k.toNat,0)
theorem ee {H:Hp} {s:AV} {l:List Spx} {e f:Int} (h:Snap H s (aC l)) (he:e=f):Snap H (.tup [s,.int .i64 e]) (.tup [aC l,.int .i64 f]):=by
 subst he; exact cm (ar h (ar (.int _ _) ac))
attribute [local irreducible] aM am bm be aX a6 aG aZ bf bI Go.Abs.Fn bc Go.Abs.Pure aB aQ Yl
theorem DV (s:Spx) (k:Nat) (H:Hp) (nx:Nat):Abs.Fn Tryz.prog 77 [aF s,.int .i64 k] H nx fun r H' nx'=>r=.func 95 [.ptr (nx + 1) 1 0,.ptr nx 1 0]∧H'=aq (aq H nx [aF s]) (nx + 1) [.int .i64 k]∧nx'=nx + 2:=by
 refine Abs.Fn.of_c2 follows IZ (br rfl) ?_;simp only [b77,aU];have zz:=aI @b0 @bD; repeat' (first|refine zW ?_|apply a_n|refine zO ?_|refine vY ?_|refine bxY ?_|refine ak rfl ?_|refine r1Y ?_|fail)
 exact ⟨rfl,rfl,rfl⟩
theorem Cx {kb sb k:Nat} {s:Spx} {H:Hp} {nx:Nat} (hs:s.length ≤ 8) (hk0:0 < k) (hk:k ≤ 1000) (gk:H kb=some [.int .i64 k]) (gs:H sb=some [aF s]) (lk:kb < nx) (ls:sb < nx) :
    Abs.Fn Tryz.prog 76 [.func 95 [.ptr kb 1 0,.ptr sb 1 0]] H nx fun r H' nx'=>Row H' 1 r ((cC s k).map aF)∧nx ≤ nx':=by
 refine Abs.Fn.of_c2 follows IS (br rfl) ?_;simp only [b76,aU]
 repeat' (first|refine zW ?_|apply a_n|refine zO ?_|refine vY ?_|fail)
 refine bn ev0 ev0 (yj hs hk0 hk gk gs lk ls) ?_;rintro r H1 nx1 ⟨r1,r2,r3⟩;obtain ⟨q1,q2⟩:=r1.one;have zz:=aI @q1 @q2; repeat' (first|apply a_n|refine zO ?_|refine vY ?_|refine ak rfl ?_|refine r1Y ?_|fail)
 exact ⟨r1,r2⟩
theorem Dm (s:Spx) (k:Int) (hs:Shn s):Pure Tryz.prog 48 [aF s,.int .i64 k] (.tup [aC (ro s k).1,.int .i64 (ro s k).2]):=by
 refine Pure.of_c2 follows Jw (br rfl) ?_;simp only [b48,aU];have hc:=oU s hs;unfold ro;by_cases he:bR s=0
 rotate_left
 ·rw [if_pos he];have z:decide (bR s ≠ 0)=true:=bt he;have zz:=@z; repeat' (first|refine zW ?_|apply a_n|apply a_r|refine zO ?_|refine vY ?_|refine cY ?_ (hp:=hc) (hs:=by (first | refine af ?_ rfl | apply ag); (repeat' (first | exact ac | apply an | apply ah | exact aH _)); first | done | fail)|refine cTY ?_|refine ak rfl ?_|refine r2Y ?_|fail)
  exact ee (.eslsl _) rfl
 rw [if_neg (fun h=>h he)];rw [he] at hc;obtain ⟨p1,p2,p3,p4⟩:=cV he;have z0:decide ((0:Int) ≠ 0)=false:=rfl;by_cases hk:k < 1 ∨ (s.length:Int) < k
 ·rw [if_pos hk];have zz:=aI @z0 @az; repeat' (first|refine zW ?_|apply a_n|apply a_r|refine zO ?_|refine vY ?_|refine cY ?_ (hp:=hc) (hs:=by (first | refine af ?_ rfl | apply ag); (repeat' (first | exact ac | apply an | apply ah | exact aH _)); first | done | fail)|refine gTY ?_|refine gFY ?_|refine cTY ?_|refine cFY ?_|(refine zGY ?_ ?_ <;> (intro _hg; try (exfalso; omega)))|refine ak rfl ?_|refine r2Y ?_|fail)
  all_goals first | exact ee (.eslsl _) rfl | (exfalso; omega)
 rw [if_neg hk];obtain ⟨n,rfl⟩:∃ n:Nat,k=n:=⟨k.toNat,by omega⟩
 rw [cQ];have zz:=aI @z0 @az; repeat' (first|refine zW ?_|apply a_n|refine zO ?_|refine vY ?_|refine cY ?_ (hp:=hc) (hs:=by (first | refine af ?_ rfl | apply ag); (repeat' (first | exact ac | apply an | apply ah | exact aH _)); first | done | fail)|refine gTY ?_|refine cFY ?_|(refine zGY ?_ ?_ <;> (intro _hg; try (exfalso; omega)))|fail)
 refine bn ev0 ev0 (DV s n _ _) ?_;rintro _ H1 nx1 ⟨rfl,rfl,rfl⟩;refine bn ev0 ev0 (Cx (kb:=0 + 1) (sb:=0) (k:=n) (s:=s) p2 (by omega) (by omega) ai (by rw [ae (by omega),ai]) (by omega) (by omega)) ?_;rintro r H2 nx2 ⟨r1,r2⟩;obtain ⟨q1,q2⟩:=r1.one;clear zz;have zz:=aI @q1 @q2; repeat' (first|apply a_n|refine zO ?_|refine vY ?_|refine ak rfl ?_|refine r2Y ?_|fail)
 exact ee (l6 r1) rfl
end Go.Proofs.YtlodfaaceehfmaaGreat
namespace Go.Proofs.YtlodfaaceehfmaaGreat
open Go Go.Abs
theorem zq {l:Spx} {k:Nat} (h:k ≤ l.length):kN 2 (aF l) (some (.int .i64 k)) none none=some (aF (l.drop k)):=jK h
attribute [local irreducible] aM am bm be aX a6 aG aZ bf bI Go.Abs.Fn bc Go.Abs.Pure aB aQ Yl
end Go.Proofs.YtlodfaaceehfmaaGreat
namespace Go.Proofs.YtlodfaaceehfmaaGreat
open Go Go.Abs
def fV (c:List Spx) (k:Nat):List Spx:=tE bG (c.flatMap fun s=>cC s k)
theorem BU {c:List Spx} {k i:Nat} (hi:i < c.length):(c.take (i + 1)).flatMap (fun s=>cC s k)=(c.take i).flatMap (fun s=>cC s k) ++ cC (c.getD i default) k:=by
 rw [dE hi,List.flatMap_append]; simp
theorem nV {k:Nat}:∀ {c:List Spx},(∀ s ∈ c,s.length ≤ 8)→(c.flatMap fun s=>cC s k).length ≤ 70 * c.length
 | [],_=>by simp
 | s :: c,h=>by
  rw [tR,dr,bN];have:=vu (l:=s) (k:=k) (h s di);have:=nV (k:=k) (c:=c) (fun t ht=>h t (d6 _ ht));omega
theorem oe {c:List Spx} {k:Nat} {s:Spx}:s ∈ c.flatMap (fun s=>cC s k) ↔ ∃ t ∈ c,s ∈ cC t k:=by rw [List.mem_flatMap]
def eX (c:List Spx) (k:Int):List Spx × Int:=if aO c ≠ 0 then ([],aO c) else if k < 1 ∨ 8 < k then ([],2) else (fV c k.toNat,0)
attribute [local irreducible] aM am bm be aX a6 aG aZ bf bI Go.Abs.Fn bc Go.Abs.Pure aB aQ Yl
end Go.Proofs.YtlodfaaceehfmaaGreat
namespace Go.Proofs.YtlodfaaceehfmaaGreat
open Go Go.Abs
open Nat (reduceEqDiff reduceAdd reduceLeDiff)
def gI:Nat→Spx→List Int
 | 0,_=>[]
 | n + 1,[]=>(-1) :: 0 :: gI n []
 | n + 1,v :: l=>v.color :: v.label :: gI n l
theorem oQ:∀ {n:Nat} {s:Spx},(gI n s).length=2 * n
 | 0,_=>rfl
 | n + 1,[]=>by show (gI n []).length + 1 + 1=_; rw [oQ]; omega
 | n + 1,v :: l=>by show (gI n l).length + 1 + 1=_; rw [oQ]; omega
theorem wG:∀ {n:Nat} {s t:Spx},s.length ≤ n→t.length ≤ n→(∀ v ∈ s,0 ≤ v.color)→(∀ v ∈ t,0 ≤ v.color)→gI n s=gI n t→s=t
 | 0,[],[],_,_,_,_,_=>rfl
 | 0,_ :: _,_,h,_,_,_,_=>absurd h (by simp)
 | 0,[],_ :: _,_,h,_,_,_=>absurd h (by simp)
 | n + 1,[],[],_,_,_,_,_=>rfl
 | n + 1,[],w :: m,_,_,_,h2,e=>by
  have:(-1:Int)=w.color:=(List.cons.inj e).1;have:=h2 w di;omega
 | n + 1,v :: l,[],_,_,h1,_,e=>by
  have:v.color=(-1:Int):=(List.cons.inj e).1;have:=h1 v di;omega
 | n + 1,v :: l,w :: m,hl,hm,h1,h2,e=>by
  obtain ⟨e1,e2⟩:=List.cons.inj e;obtain ⟨e2,e3⟩:=List.cons.inj e2;have:=wG (n:=n) (by simp at hl; omega) (by simp at hm; omega) (fun x hx=>h1 x (d6 _ hx)) (fun x hx=>h2 x (d6 _ hx)) e3;rw [this,nO.2 ⟨e1,e2⟩]
def EW (x:List Int):AV:=.agg (x.map (AV.int .i64))
theorem C8 (x:List Int):Dat (EW x):=Dat.agg (by
 induction x with
 | nil=>exact DatL.nil
 | cons a l ih=>exact DatL.cons .int ih)
theorem Aq:∀ {n:Nat} {s:Spx},s.length ≤ n→cX s ++ ((gI n []).map (AV.int .i64)).drop (s.length * 2)=(gI n s).map (AV.int .i64)
 | n,[],_=>by simp [cX]
 | 0,_ :: _,h=>absurd h (by simp)
 | n + 1,v :: l,h=>by
  have:=Aq (n:=n) (s:=l) (by simp at h; omega);show [AV.int .i64 v.color,AV.int .i64 v.label] ++ cX l ++ _=AV.int .i64 v.color :: AV.int .i64 v.label :: (gI n l).map (AV.int .i64);rw [← this,bN,show (l.length + 1) * 2=l.length * 2 + 1 + 1 by omega];rfl
def kc (k:Nat):List AV:=(gI k [] ++ List.replicate (2 * (8 - k)) 0).map (AV.int .i64)
attribute [local irreducible] aM am bm be aX a6 aG aZ bf bI Go.Abs.Fn bc Go.Abs.Pure aB aQ Yl
theorem FS (s:Spx) (h1:1 ≤ s.length) (hs:s.length ≤ 8):Pure Tryz.prog 49 [aF s] (EW (gI 8 s)):=by
 refine Pure.of_c2 follows Km (br rfl) ?_;simp only [b49,aU];have hn:fD (aF s)=some s.length:=by unfold aF il; simp [fD]
 have hput:=Aq (n:=8) (s:=s) hs
 repeat' (first|refine zW ?_|apply a_n|refine zO ?_|refine vY ?_|refine alY ?_|fail)
 refine bC (X:=Nat) (fun k=>[(0,aF s),(2,.ptr 0 16 0),(3,.ptr 1 16 0),(5,.int .i64 k)]) (fun k H nx=>k ≤ 8∧H 0=some (kc 0)∧H 1=some (kc k)) (fun k=>8 - k) 0 ⟨cf _,by rw [ae (by omega),ai]; rfl,ai⟩ (by (iterate 4 refine And.intro rfl ?_); trivial) ?_;rintro k H nx ⟨hk,g0,g1⟩;rcases (by omega:k=8 ∨ k=0 ∨ k=1 ∨ k=2 ∨ k=3 ∨ k=4 ∨ k=5 ∨ k=6 ∨ k=7) with rfl | rfl | rfl | rfl | rfl | rfl | rfl | rfl | rfl
 ·have zz:=aI @g0 @g1; repeat' (first|refine zW ?_|apply a_n|apply a_x|refine zO ?_|refine vY ?_|(refine zGY ?_ ?_ <;> (intro _hg; try (exfalso; omega)))|fail)
  refine Gw rfl g1 rfl rfl ?_
  repeat' (first|apply a_n|refine zO ?_|refine vY ?_|fail)
  refine Gp (n:=s.length) (H':=aq H 1 ((gI 8 s).map (AV.int .i64))) ?_ ?_
  ·((try simp only [da,ZA,reduceEqDiff,↓reduceIte,reduceAdd,reduceLeDiff]); (try with_reducible rfl))
   have htr:ui s.length (aF s)=aF s:=by unfold aF il; simp [ui]; exact iv (by simp)
   have hmin:min s.length 8=s.length:=Nat.min_eq_left hs;have hal:fD (.msl 1 16 2 0 8)=some 8:=rfl;simp only [ku,hal,hn,hmin,if_neg (show ¬ s.length=0 by omega),g1,htr,xq];rw [if_pos (by refine ⟨?_,?_,?_,?_⟩ <;> first | rfl | trivial | omega | exact ma s)]
   have:bK (kc 8) 0 (cX s)=(gI 8 s).map (AV.int .i64):=by
    rw [← hput];simp only [bK,List.take_zero,List.nil_append,cb,jY];rfl
   rw [this]
  ·have hl:((gI 8 s).map (AV.int .i64)).length=16:=by rw [bO,oQ]
   have g1':aq H 1 ((gI 8 s).map (AV.int .i64)) 1=some ((gI 8 s).map (AV.int .i64)):=ai;have g0':aq H 1 ((gI 8 s).map (AV.int .i64)) 0=some (kc 0):=by rw [ae (by omega)]; exact g0
   have hl0:(kc 0).length=16:=rfl;unfold EW;have ht:((gI 8 s).map (AV.int .i64)).take 16=(gI 8 s).map (AV.int .i64):=iv (by omega);have hd:=C8 (gI 8 s);unfold EW at hd
   have hfl:AV.ones ((gI 8 s).map (AV.int .i64))=true:=by
    unfold AV.ones;rw [eH];intro x hx;obtain ⟨y,_,rfl⟩:=bP.1 hx;rfl
   have hlp:bK (kc 0) 0 ((gI 8 s).map (AV.int .i64))=(gI 8 s).map (AV.int .i64):=by
    simp only [bK,List.take_zero,List.nil_append,cb,hl];rw [List.drop_of_length_le (by decide),jH]
   generalize (gI 8 s).map (AV.int .i64)=K at *;clear zz;have zz:=aI @g0' (aI @g1' (aI @hl (aI @hl0 @ht))); repeat' (first|refine zW ?_|apply a_n|refine zO ?_|refine vY ?_|fail)
   refine Hi (v:=.agg K) (cs:=kc 0) (vs:=K) (b:=0) (n:=16) (off:=0) rfl ev0 ev0 g0' rfl hfl hl0 hl (by omega) ?_;rw [hlp];clear zz;have zz:=aI @hl @ht; repeat' (first|apply a_n|refine zO ?_|refine ak rfl ?_|refine r1Y ?_|fail)
   exact hd _
 ·have zz:=aI @g0 @g1; repeat' (first|refine zW ?_|apply a_n|refine zO ?_|refine vY ?_|(refine zGY ?_ ?_ <;> (intro _hg; try (exfalso; omega)))|fail)
  refine kw (r:=.ptr 1 16 0) rfl rfl rfl ?_;have hl:(kc 0).length=16:=rfl;clear zz;have zz:=aI @g1 @hl; repeat' (first|apply a_n|refine zO ?_|refine vY ?_|refine stY ?_|fail)
  exact ⟨1,by omega,⟨by omega,by rw [ae (by omega)]; exact g0,by rw [ai]; rfl⟩,by (iterate 4 refine And.intro rfl ?_); trivial⟩
 ·have zz:=aI @g0 @g1; repeat' (first|refine zW ?_|apply a_n|refine zO ?_|refine vY ?_|(refine zGY ?_ ?_ <;> (intro _hg; try (exfalso; omega)))|fail)
  refine kw (r:=.ptr 1 16 2) rfl rfl rfl ?_;have hl:(kc 1).length=16:=rfl;clear zz;have zz:=aI @g1 @hl; repeat' (first|apply a_n|refine zO ?_|refine vY ?_|refine stY ?_|fail)
  exact ⟨2,by omega,⟨by omega,by rw [ae (by omega)]; exact g0,by rw [ai]; rfl⟩,by (iterate 4 refine And.intro rfl ?_); trivial⟩
 ·have zz:=aI @g0 @g1; repeat' (first|refine zW ?_|apply a_n|refine zO ?_|refine vY ?_|(refine zGY ?_ ?_ <;> (intro _hg; try (exfalso; omega)))|fail)
  refine kw (r:=.ptr 1 16 4) rfl rfl rfl ?_;have hl:(kc 2).length=16:=rfl;clear zz;have zz:=aI @g1 @hl; repeat' (first|apply a_n|refine zO ?_|refine vY ?_|refine stY ?_|fail)
  exact ⟨3,by omega,⟨by omega,by rw [ae (by omega)]; exact g0,by rw [ai]; rfl⟩,by (iterate 4 refine And.intro rfl ?_); trivial⟩
 ·have zz:=aI @g0 @g1; repeat' (first|refine zW ?_|apply a_n|refine zO ?_|refine vY ?_|(refine zGY ?_ ?_ <;> (intro _hg; try (exfalso; omega)))|fail)
  refine kw (r:=.ptr 1 16 6) rfl rfl rfl ?_;have hl:(kc 3).length=16:=rfl;clear zz;have zz:=aI @g1 @hl; repeat' (first|apply a_n|refine zO ?_|refine vY ?_|refine stY ?_|fail)
  exact ⟨4,by omega,⟨by omega,by rw [ae (by omega)]; exact g0,by rw [ai]; rfl⟩,by (iterate 4 refine And.intro rfl ?_); trivial⟩
 ·have zz:=aI @g0 @g1; repeat' (first|refine zW ?_|apply a_n|refine zO ?_|refine vY ?_|(refine zGY ?_ ?_ <;> (intro _hg; try (exfalso; omega)))|fail)
  refine kw (r:=.ptr 1 16 8) rfl rfl rfl ?_;have hl:(kc 4).length=16:=rfl;clear zz;have zz:=aI @g1 @hl; repeat' (first|apply a_n|refine zO ?_|refine vY ?_|refine stY ?_|fail)
  exact ⟨5,by omega,⟨by omega,by rw [ae (by omega)]; exact g0,by rw [ai]; rfl⟩,by (iterate 4 refine And.intro rfl ?_); trivial⟩
 ·have zz:=aI @g0 @g1; repeat' (first|refine zW ?_|apply a_n|refine zO ?_|refine vY ?_|(refine zGY ?_ ?_ <;> (intro _hg; try (exfalso; omega)))|fail)
  refine kw (r:=.ptr 1 16 10) rfl rfl rfl ?_;have hl:(kc 5).length=16:=rfl;clear zz;have zz:=aI @g1 @hl; repeat' (first|apply a_n|refine zO ?_|refine vY ?_|refine stY ?_|fail)
  exact ⟨6,by omega,⟨by omega,by rw [ae (by omega)]; exact g0,by rw [ai]; rfl⟩,by (iterate 4 refine And.intro rfl ?_); trivial⟩
 ·have zz:=aI @g0 @g1; repeat' (first|refine zW ?_|apply a_n|refine zO ?_|refine vY ?_|(refine zGY ?_ ?_ <;> (intro _hg; try (exfalso; omega)))|fail)
  refine kw (r:=.ptr 1 16 12) rfl rfl rfl ?_;have hl:(kc 6).length=16:=rfl;clear zz;have zz:=aI @g1 @hl; repeat' (first|apply a_n|refine zO ?_|refine vY ?_|refine stY ?_|fail)
  exact ⟨7,by omega,⟨by omega,by rw [ae (by omega)]; exact g0,by rw [ai]; rfl⟩,by (iterate 4 refine And.intro rfl ?_); trivial⟩
 ·have zz:=aI @g0 @g1; repeat' (first|refine zW ?_|apply a_n|refine zO ?_|refine vY ?_|(refine zGY ?_ ?_ <;> (intro _hg; try (exfalso; omega)))|fail)
  refine kw (r:=.ptr 1 16 14) rfl rfl rfl ?_;have hl:(kc 7).length=16:=rfl;clear zz;have zz:=aI @g1 @hl; repeat' (first|apply a_n|refine zO ?_|refine vY ?_|refine stY ?_|fail)
  exact ⟨8,by omega,⟨by omega,by rw [ae (by omega)]; exact g0,by rw [ai]; rfl⟩,by (iterate 4 refine And.intro rfl ?_); trivial⟩
end Go.Proofs.YtlodfaaceehfmaaGreat
namespace Go.Proofs.YtlodfaaceehfmaaGreat
open Go Go.Abs
attribute [local irreducible] aM am bm be aX a6 aG aZ bf bI Go.Abs.Fn bc Go.Abs.Pure aB aQ Yl
end Go.Proofs.YtlodfaaceehfmaaGreat