/- Texts of this claim, one after the other: T173, T151, T139, T140, T141, T142, T171, T134, T146, T174, T175, T176, T177, T179, T143, T178, T180, T181, A33, T122, T133, T144, T147, T148, T182, T183, T185, T163, T164, T160, T161, T162, T165, T190, T186, T187, T188, T118, T184, T149, T121. -/
import Derived.Test.YtfcenbapjhecfaaXG5
import Derived.Test.YtfcenbapjhecfaaXG4
import Derived.Test.YtfcenbapjhecfaaXG3
import Derived.Test.YtfcenbapjhecfaaRows
import Derived.WalkKit
import Derived.ProofKit
import Derived.OpenShut

set_option linter.unusedSimpArgs false
set_option linter.unusedVariables false
namespace Go.Proofs.Ytfcenbapjhecfaa
open Go Go.Abs
theorem eN {x:Spx} {l:List Spx}:ip 1 (ar (x :: l)) (some (.int .i64 1)) none none=some (ar l):=eF (l:=x :: l) (k:=1) (by simp)
theorem qT {x:Spx} {l:List Spx}:cR 1 (ar (x :: l)) (.int .i64 0)=some (.iptr [aw x] 0):=sM (by simp)
attribute [local irreducible] aD aj aX aP aH aK az aL aR bd Go.Abs.Fn aO Go.Abs.Pure av aF Yl
theorem uS (l:List Spx) (hl:l.length ≤ 100000) (hs:∀ x ∈ l,x.length ≤ 1000000):Pure Try.prog 58 [ar l] (ar l):=by
 refine Pure.of_c2 follows Bs (Nat.le_of_ble_eq_true rfl) ?_
 simp only [b58,cO,cG,cN,cM,cD,cF,cB,aB,aS]
 (have zz:=@ae; repeat' (first|refine zW ?_|apply a_n|refine zO ?_|refine vZ ?_|fail)) <;> (try clear zz)
 refine ba (X:=AV × Nat) (fun x=>[(3,x.1),(6,ar l),(7,.int .i64 l.length),(8,.int .i64 x.2)]) (fun x H nx=>x.2 ≤ l.length∧Row H 1 x.1 ((l.take x.2).map aw)∧∀ b,bT x.1=some b→b < nx) (fun x=>l.length - x.2) (.esl,0) ⟨Nat.zero_le _,Row.nil,fun b hb=>(by cases hb)⟩ ag0 ?_
 rintro ⟨s,j⟩ H nx ⟨h1,h2,h3⟩
 dsimp only at h1 h2 h3 ⊢
 by_cases hj:j < l.length
 ·have hw:=aQ hj
  have hcl:=uN _ (hs _ hw)
  have ix:=dp hj
  (have zz:=@ix; repeat' (first|refine zW ?_|apply a_n|refine zO ?_|refine vY ?_|(refine zGY ?_ ?_ <;> (intro _hg; try (exfalso; omega)))|fail)) <;> (try clear zz)
  refine bX ev0 ev0 hcl (ao (ay _ _) aa) ?_
  (have zz:=aI @aA @ax; repeat' (first|apply a_n|refine zO ?_|refine blY ?_|fail)) <;> (try clear zz)
  refine dK rfl ev0 (h2.same fun b hb=>?_) ev0 bC rfl rfl Nat.one_pos (by simp; omega) (by simp; omega) ?_
  ·have:=h3 b hb
   rw [af (by omega)]
  rintro s2 E e hrow hle1 hle2 hsame hb2
  (have zz:=and_self; repeat' (first|apply a_n|refine zO ?_|refine vY ?_|fail)) <;> (try clear zz)
  refine ⟨(s2,j + 1),by dsimp only; omega,⟨by dsimp only; omega,?_,fun b hb=>?_⟩,ag0⟩
  ·dsimp only
   rw [sJ hj,List.map_append]
   exact hrow
  ·rcases hb2 b hb with h | h
   ·have:=h3 b h; omega
   ·omega
 ·(have zz:=and_self; repeat' (first|refine zW ?_|apply a_n|apply a_x|refine zO ?_|refine vY ?_|(refine zGY ?_ ?_ <;> (intro _hg; try (exfalso; omega)))|refine ak rfl ?_|refine r1Y ?_|fail)) <;> (try clear zz)
  rw [List.take_of_length_le (by omega)] at h2
  exact eD h2
theorem oJ (l:List Spx) (hl:Shn l) (hs:∀ x ∈ l,x.length ≤ 1000000):Pure Try.prog 38 [ar l] (.tup [ar (if 4096 < l.length then [] else l),.int .i64 (if 4096 < l.length then 5 else 0)]):=by
 refine Pure.of_c2 follows A3 (Nat.le_of_ble_eq_true rfl) ?_
 simp only [b38,cO,cG,cN,cM,cD,cF,cB,aB,aS]
 have hl':l.length ≤ 17592186044416:=hl
 by_cases h:4096 < l.length
 ·have z:decide ((4096:Int) < l.length)=true:=decide_eq_true (by omega)
  rw [if_pos h,if_pos h]
  (have zz:=aI @ae @z; repeat' (first|refine zW ?_|apply a_n|apply a_r|refine zO ?_|refine vY ?_|refine cTY ?_|refine ak rfl ?_|refine r2Y ?_|fail)) <;> (try clear zz)
  exact cA (.eslsl _) rfl
 ·have z:decide ((4096:Int) < l.length)=false:=decide_eq_false (by omega)
  rw [if_neg h,if_neg h]
  have hc:=uS l (by omega) hs
  (have zz:=aI @ae @z; repeat' (first|refine zW ?_|apply a_n|refine zO ?_|refine vY ?_|refine cY ?_ (hp:=hc) (hs:=by (first | refine ac ?_ rfl | apply ag); (repeat' (first | exact aa | apply an | apply ai | exact aC _)); first | done | fail)|refine cFY ?_|refine ak rfl ?_|refine r2Y ?_|fail)) <;> (try clear zz)
  exact cA (aC _).snap rfl
theorem ye (a b:List Spx) (ha:a.length ≤ 1000000∧∀ s ∈ a,Shn s) (hb:b.length ≤ 1000000∧∀ s ∈ b,Shn s):Pure Try.prog 39 [ar a,ar b,.func 40 []] (ar (c6 aM a b)):=by
 refine Pure.of_c2 follows Cd (Nat.le_of_ble_eq_true rfl) ?_
 simp only [b39,cO,cG,cN,cM,cD,cF,cB,aB,aS]
 (have zz:=and_self; repeat' (first|refine zW ?_|apply a_n|refine zO ?_|refine vZ ?_|fail)) <;> (try clear zz)
 refine ba (X:=List Spx × List Spx × List Spx × AV) (fun x=>[(0,ar x.1),(1,ar x.2.1),(2,.func 40 []),(7,x.2.2.2)]) (fun x H nx=>x.2.2.1.length + x.1.length + x.2.1.length ≤ a.length + b.length∧(∀ s ∈ x.1,Shn s)∧(∀ s ∈ x.2.1,Shn s)∧x.2.2.1 ++ c6 aM x.1 x.2.1=c6 aM a b∧Row H 1 x.2.2.2 (x.2.2.1.map aw)∧∀ b,bT x.2.2.2=some b→b < nx) (fun x=>x.1.length + x.2.1.length) (a,b,[],.esl) ⟨by simp,ha.2,hb.2,rfl,Row.nil,fun b hb=>(by cases hb)⟩ ag0 ?_
 rintro ⟨a',b',D,sv⟩ H nx ⟨h2,ha2,hb2,h4,h5,h6⟩
 dsimp only at h2 ha2 hb2 h4 h5 h6 ⊢
 have key:∀ (x:Spx) {P:Program} {T:Tm} {dm:DM} {K:SP} {l:List Op2} {d:Option Nat} {s v:Opd},dm2 dm T (.app 1 24 s v)=true→ov T s=sv→ov T v=.msl nx 1 1 0 1 →
     (∀ (sv':AV) (H':Hp) (nx':Nat),Row H' 1 sv' ((D ++ [x]).map aw)→(∀ b,bT sv'=some b→b < nx')→aj P dm l (aE T d sv') H' nx' K) →
     D.length ≤ 2000000→aj P dm (⟨d,none,.app 1 24 s v⟩ :: l) T (aq H nx [aw x]) (nx + 1) K:=by
  intro x P T dm K l d s v k1 k2 k3 k4 k5
  refine dK k1 k2 (h5.same fun b hb=>?_) k3 bC rfl rfl Nat.one_pos (by rw [List.length_map]; omega) (by rw [List.length_map]; omega) ?_
  ·have:=h6 b hb
   rw [af (by omega)]
  rintro s2 E e hrow hle1 hle2 hsame hb2
  refine k4 s2 E e (by rw [List.map_append]; exact hrow) fun b hb=>?_
  rcases hb2 b hb with h | h
  ·have:=h6 b h; omega
  ·omega
 match a',b',h2,ha2,hb2,h4 with
 | [],[],h2,ha2,hb2,h4 =>
  have al:bE (ar [])=some (.int .i64 0):=rfl
  (have zz:=@al; repeat' (first|refine zW ?_|apply a_n|apply a_x|refine zO ?_|refine vY ?_|refine gTY ?_|(refine zGY ?_ ?_ <;> (intro _hg; try (exfalso; omega)))|refine ak rfl ?_|refine r1Y ?_|fail)) <;> (try clear zz)
  rw [mr,List.append_nil] at h4
  rw [← h4]
  exact eD h5
 | x :: a2,[],h2,ha2,hb2,h4 =>
  have al:bE (ar [])=some (.int .i64 0):=rfl
  have al2:bE (ar (x :: a2))=some (.int .i64 ((a2.length:Int) + 1)):=by rw [ae,List.length_cons]; rfl
  have z1:decide ((0:Int) < (a2.length:Int) + 1)=true:=decide_eq_true (by omega)
  simp only [List.length_cons,List.length_nil] at h2
  (have zz:=aI @al (aI @al2 (aI @z1 (aI @qT (aI @eN (aI @aA @ax))))); repeat' (first|refine zW ?_|apply a_n|refine zO ?_|refine vY ?_|refine blY ?_|refine gFY ?_|refine cTY ?_|(refine zGY ?_ ?_ <;> (intro _hg; try (exfalso; omega)))|fail)) <;> (try clear zz)
  refine key x rfl ev0 ev0 (fun s2 H2 nx2 r1 r2=>?_) (by omega)
  (have zz:=@eN; repeat' (first|apply a_n|refine zO ?_|refine vY ?_|fail)) <;> (try clear zz)
  exact ⟨(a2,[],D ++ [x],s2),by simp,⟨by simp; omega,fun s h=>ha2 s (List.mem_cons_of_mem _ h),hb2,by dsimp only; rw [pG,List.append_assoc]; rw [pG] at h4; exact h4,r1,r2⟩,ag0⟩
 | [],y :: b2,h2,ha2,hb2,h4 =>
  have al:bE (ar [])=some (.int .i64 0):=rfl
  have al2:bE (ar (y :: b2))=some (.int .i64 ((b2.length:Int) + 1)):=by rw [ae,List.length_cons]; rfl
  have z1:decide ((0:Int) < (b2.length:Int) + 1)=true:=decide_eq_true (by omega)
  have z2:decide ((b2.length:Int) + 1=0)=false:=decide_eq_false (by omega)
  simp only [List.length_cons,List.length_nil] at h2
  (have zz:=aI @al (aI @al2 (aI @z1 (aI @z2 (aI @qT (aI @eN (aI @aA @ax)))))); repeat' (first|refine zW ?_|apply a_n|refine zO ?_|refine vY ?_|refine blY ?_|refine gTY ?_|refine cTY ?_|refine cFY ?_|(refine zGY ?_ ?_ <;> (intro _hg; try (exfalso; omega)))|fail)) <;> (try clear zz)
  refine key y rfl ev0 ev0 (fun s2 H2 nx2 r1 r2=>?_) (by omega)
  (have zz:=@eN; repeat' (first|apply a_n|refine zO ?_|refine vY ?_|fail)) <;> (try clear zz)
  exact ⟨([],b2,D ++ [y],s2),by simp,⟨by simp; omega,ha2,fun s h=>hb2 s (List.mem_cons_of_mem _ h),by dsimp only; rw [mr,List.append_assoc]; rw [mr] at h4; exact h4,r1,r2⟩,ag0⟩
 | x :: a2,y :: b2,h2,ha2,hb2,h4 =>
  have al1:bE (ar (x :: a2))=some (.int .i64 ((a2.length:Int) + 1)):=by rw [ae,List.length_cons]; rfl
  have al2:bE (ar (y :: b2))=some (.int .i64 ((b2.length:Int) + 1)):=by rw [ae,List.length_cons]; rfl
  have z1:decide ((0:Int) < (a2.length:Int) + 1)=true:=decide_eq_true (by omega)
  have z2:decide ((b2.length:Int) + 1=0)=false:=decide_eq_false (by omega)
  simp only [List.length_cons] at h2
  have hc:=dR x y (ha2 x List.mem_cons_self) (hb2 y List.mem_cons_self)
  rw [sO] at h4
  have hsw:=ie x y
  by_cases g1:aM x y < 0
  ·have z3:decide (aM x y < 0)=true:=decide_eq_true g1
   rw [if_pos g1] at h4
   (have zz:=aI @al1 (aI @al2 (aI @z1 (aI @z2 (aI @z3 (aI @qT (aI @eN (aI @aA @ax))))))); repeat' (first|refine zW ?_|refine zM ?_|apply a_n|refine zO ?_|refine vY ?_|refine cY ?_ (hp:=hc) (hs:=by (first | refine ac ?_ rfl | apply ag); (repeat' (first | exact aa | apply an | apply ai | exact ay _)); first | done | fail)|refine blY ?_|refine gFY ?_|refine cTY ?_|refine cFY ?_|fail)) <;> (try clear zz)
   refine key x rfl ev0 ev0 (fun s2 H2 nx2 r1 r2=>?_) (by omega)
   (have zz:=@eN; repeat' (first|apply a_n|refine zO ?_|refine vY ?_|fail)) <;> (try clear zz)
   exact ⟨(a2,y :: b2,D ++ [x],s2),by simp,⟨by simp; omega,fun s h=>ha2 s (List.mem_cons_of_mem _ h),hb2,by dsimp only; rw [List.append_assoc]; exact h4,r1,r2⟩,ag0⟩
  have z3:decide (aM x y < 0)=false:=decide_eq_false g1
  rw [if_neg g1] at h4
  by_cases g2:aM y x < 0
  ·have z4:decide (0 < aM x y)=true:=decide_eq_true (by omega)
   rw [if_pos g2] at h4
   (have zz:=aI @al1 (aI @al2 (aI @z1 (aI @z2 (aI @z3 (aI @z4 (aI @qT (aI @eN (aI @aA @ax)))))))); repeat' (first|refine zW ?_|refine zM ?_|apply a_n|refine zO ?_|refine vY ?_|refine cY ?_ (hp:=hc) (hs:=by (first | refine ac ?_ rfl | apply ag); (repeat' (first | exact aa | apply an | apply ai | exact ay _)); first | done | fail)|refine blY ?_|refine gFY ?_|refine cTY ?_|refine cFY ?_|fail)) <;> (try clear zz)
   refine key y rfl ev0 ev0 (fun s2 H2 nx2 r1 r2=>?_) (by omega)
   (have zz:=@eN; repeat' (first|apply a_n|refine zO ?_|refine vY ?_|fail)) <;> (try clear zz)
   exact ⟨(x :: a2,b2,D ++ [y],s2),by simp,⟨by simp; omega,ha2,fun s h=>hb2 s (List.mem_cons_of_mem _ h),by dsimp only; rw [List.append_assoc]; exact h4,r1,r2⟩,ag0⟩
  ·have z4:decide (0 < aM x y)=false:=decide_eq_false (by omega)
   rw [if_neg g2] at h4
   (have zz:=aI @al1 (aI @al2 (aI @z1 (aI @z2 (aI @z3 (aI @z4 (aI @qT (aI @eN (aI @aA @ax)))))))); repeat' (first|refine zW ?_|refine zM ?_|apply a_n|refine zO ?_|refine vY ?_|refine cY ?_ (hp:=hc) (hs:=by (first | refine ac ?_ rfl | apply ag); (repeat' (first | exact aa | apply an | apply ai | exact ay _)); first | done | fail)|refine gFY ?_|refine cTY ?_|refine cFY ?_|fail)) <;> (try clear zz)
   exact ⟨(a2,b2,D,sv),by simp; omega,⟨by simp; omega,fun s h=>ha2 s (List.mem_cons_of_mem _ h),fun s h=>hb2 s (List.mem_cons_of_mem _ h),h4,h5,h6⟩,ag0⟩
def xh (a b:List Spx):List Spx × Int:=if cC a ≠ 0 then ([],cC a) else if cC b ≠ 0 then ([],cC b) else if 0 < a.length∧0 < b.length∧(a.getD 0 default).length ≠ (b.getD 0 default).length then ([],15) else if 4096 < (c6 aM a b).length then ([],5) else (c6 aM a b,0)
theorem my {a:List Spx} (h:∀ s ∈ a,bj s=0):∀ s ∈ a,Shn s:=fun s hs=>by have:=(cz (h s hs)).2.1; show _ ≤ _; omega
theorem rx {a:List Spx} (h:∀ s ∈ a,bj s=0):∀ s ∈ a,s.length ≤ 1000000:=fun s hs=>by have:=(cz (h s hs)).2.1; omega
theorem fL {H:Hp} {b:Nat} {x y:List Spx} (h:H b=some [ar x,ar y]):aF H [.msl b 2 1 0 2] [fq [x,y]] :=
 ao (og (l:=[ar x,ar y]) h rfl rfl (by
  intro z hz
  simp only [List.mem_cons,List.not_mem_nil,or_false] at hz
  rcases hz with rfl | rfl
  ·exact ⟨rfl,aC _⟩
  ·exact ⟨rfl,aC _⟩)) aa
theorem vD {a:List Spx} (h:cC a=0):a.length ≤ 1000000∧∀ s ∈ a,Shn s:=⟨by have:=(e8 h).1; omega,my (e8 h).2.1⟩
theorem ya {a b:List Spx} (ha:cC a=0) (hb:cC b=0):∀ s ∈ c6 aM a b,bj s=0:=vF (e8 ha).2.2.1 (e8 hb).2.2.1 _ (e8 ha).2.1 (e8 hb).2.1
theorem x8 (a b:List Spx) (ha:ShC a) (hb:ShC b):Pure Try.prog 12 [ar a,ar b] (.tup [ar (xh a b).1,.int .i64 (xh a b).2]):=by
 refine Pure.of_c2 follows BZ (Nat.le_of_ble_eq_true rfl) ?_
 simp only [b12,cO,cG,cN,cM,cD,cF,cB,aB,aS]
 have f1:=xk [a,b] (show _ ≤ _ by simp) (fun x hx=>by
  rcases List.mem_cons.1 hx with rfl | hx
  ·exact ha
  ·rw [List.mem_singleton.1 hx]; exact hb)
 have ef:iU [a,b]=if cC a ≠ 0 then cC a else if cC b ≠ 0 then cC b else 0:=rfl
 rw [ef] at f1
 unfold xh
 by_cases h1:cC a=0
 rotate_left
 ·rw [if_pos h1]
  rw [if_pos h1] at f1
  have z:decide (cC a ≠ 0)=true:=decide_eq_true h1
  (have zz:=aI @au @am; repeat' (first|refine zW ?_|apply a_n|refine zO ?_|refine vY ?_|refine blY ?_|fail)) <;> (try clear zz)
  refine bP ev0 ev0 f1 (ac (fL (by rw [ah])) rfl) ?_
  (have zz:=@z; repeat' (first|refine zW ?_|apply a_n|apply a_r|refine zO ?_|refine vY ?_|refine cTY ?_|refine ak rfl ?_|refine r2Y ?_|fail)) <;> (try clear zz)
  exact cA (.eslsl _) rfl
 rw [if_neg (fun q=>q h1)]
 rw [if_neg (fun q=>q h1)] at f1
 by_cases h2:cC b=0
 rotate_left
 ·rw [if_pos h2]
  rw [if_pos h2] at f1
  have z:decide (cC b ≠ 0)=true:=decide_eq_true h2
  (have zz:=aI @au @am; repeat' (first|refine zW ?_|apply a_n|refine zO ?_|refine vY ?_|refine blY ?_|fail)) <;> (try clear zz)
  refine bP ev0 ev0 f1 (ac (fL (by rw [ah])) rfl) ?_
  (have zz:=@z; repeat' (first|refine zW ?_|apply a_n|apply a_r|refine zO ?_|refine vY ?_|refine cTY ?_|refine ak rfl ?_|refine r2Y ?_|fail)) <;> (try clear zz)
  exact cA (.eslsl _) rfl
 rw [if_neg (fun q=>q h2)]
 rw [if_neg (fun q=>q h2)] at f1
 have z:decide ((0:Int) ≠ 0)=false:=rfl
 have hm:=ye a b (vD h1) (vD h2)
 have hml:=s0 (K:=aM) (a:=a) (b:=b)
 have h14:=(e8 h1).1
 have h24:=(e8 h2).1
 have hlim:=oJ (c6 aM a b) (show _ ≤ _ by omega) (rx (ya h1 h2))
 have hfin:(if 4096 < (c6 aM a b).length then (([]:List Spx),(5:Int)) else (c6 aM a b,0))=(if 4096 < (c6 aM a b).length then [] else c6 aM a b,if 4096 < (c6 aM a b).length then 5 else 0):=by
  split <;> rfl
 rw [hfin]
 generalize (if 4096 < (c6 aM a b).length then ([]:List Spx) else c6 aM a b)=L at *
 generalize (if 4096 < (c6 aM a b).length then (5:Int) else 0)=E at *
 generalize c6 aM a b=M at *
 by_cases h3:0 < a.length∧0 < b.length∧(a.getD 0 default).length ≠ (b.getD 0 default).length
 ·rw [if_pos h3]
  have i1:=sM h3.1
  have i2:=sM h3.2.1
  have z1:decide ((0:Int) < a.length)=true:=decide_eq_true (by omega)
  have z2:decide ((0:Int) < b.length)=true:=decide_eq_true (by omega)
  have z3:decide (((a.getD 0 default).length:Int) ≠ (b.getD 0 default).length)=true:=decide_eq_true (by omega)
  (have zz:=aI @au @am; repeat' (first|refine zW ?_|apply a_n|refine zO ?_|refine vY ?_|refine blY ?_|fail)) <;> (try clear zz)
  refine bP ev0 ev0 f1 (ac (fL (by rw [ah])) rfl) ?_
  (have zz:=aI @z (aI @z1 (aI @z2 (aI @z3 (aI @i1 (aI @i2 (aI @ae @ap)))))); repeat' (first|refine zW ?_|apply a_n|apply a_r|refine zO ?_|refine vY ?_|refine gTY ?_|refine cTY ?_|refine cFY ?_|refine ak rfl ?_|refine r2Y ?_|fail)) <;> (try clear zz)
  exact cA (.eslsl _) rfl
 ·rw [if_neg h3]
  have dc:Dat (AV.func 40 []):=Dat.func DatL.nil
  by_cases h4:0 < a.length
  ·have z1:decide ((0:Int) < a.length)=true:=decide_eq_true (by omega)
   by_cases h5:0 < b.length
   ·have i1:=sM h4
    have i2:=sM h5
    have z2:decide ((0:Int) < b.length)=true:=decide_eq_true (by omega)
    have z3:decide (((a.getD 0 default).length:Int) ≠ (b.getD 0 default).length)=false:=decide_eq_false (by omega)
    (have zz:=aI @au @am; repeat' (first|refine zW ?_|apply a_n|refine zO ?_|refine vY ?_|refine blY ?_|fail)) <;> (try clear zz)
    refine bP ev0 ev0 f1 (ac (fL (by rw [ah])) rfl) ?_
    (have zz:=aI @z (aI @z1 (aI @z2 (aI @z3 (aI @i1 (aI @i2 (aI @ae @ap)))))); repeat' (first|refine zW ?_|apply a_n|refine zO ?_|refine vY ?_|refine cY ?_ (hp:=by first | exact hm | exact hlim) (hs:=by (first | refine ac ?_ rfl | apply ag); (repeat' (first | exact aa | apply an | apply ai | exact aC _ | exact dc)); first | done | fail)|refine gTY ?_|refine cFY ?_|refine ak rfl ?_|refine r2Y ?_|fail)) <;> (try clear zz)
    exact cA (aC _).snap rfl
   ·have z2:decide ((0:Int) < b.length)=false:=decide_eq_false (by omega)
    (have zz:=aI @au @am; repeat' (first|refine zW ?_|apply a_n|refine zO ?_|refine vY ?_|refine blY ?_|fail)) <;> (try clear zz)
    refine bP ev0 ev0 f1 (ac (fL (by rw [ah])) rfl) ?_
    (have zz:=aI @z (aI @z1 (aI @z2 (aI @ae @ap))); repeat' (first|refine zW ?_|apply a_n|refine zO ?_|refine vY ?_|refine cY ?_ (hp:=by first | exact hm | exact hlim) (hs:=by (first | refine ac ?_ rfl | apply ag); (repeat' (first | exact aa | apply an | apply ai | exact aC _ | exact dc)); first | done | fail)|refine gTY ?_|refine gFY ?_|refine cFY ?_|refine ak rfl ?_|refine r2Y ?_|fail)) <;> (try clear zz)
    exact cA (aC _).snap rfl
  ·have z1:decide ((0:Int) < a.length)=false:=decide_eq_false (by omega)
   (have zz:=aI @au @am; repeat' (first|refine zW ?_|apply a_n|refine zO ?_|refine vY ?_|refine blY ?_|fail)) <;> (try clear zz)
   refine bP ev0 ev0 f1 (ac (fL (by rw [ah])) rfl) ?_
   (have zz:=aI @z (aI @z1 (aI @ae @ap)); repeat' (first|refine zW ?_|apply a_n|refine zO ?_|refine vY ?_|refine cY ?_ (hp:=by first | exact hm | exact hlim) (hs:=by (first | refine ac ?_ rfl | apply ag); (repeat' (first | exact aa | apply an | apply ai | exact aC _ | exact dc)); first | done | fail)|refine gFY ?_|refine cFY ?_|refine ak rfl ?_|refine r2Y ?_|fail)) <;> (try clear zz)
   exact cA (aC _).snap rfl
end Go.Proofs.Ytfcenbapjhecfaa
namespace Go.Proofs.Ytfcenbapjhecfaa
open Go Go.Abs
section
variable {α:Type} [DecidableEq α] {K:α→α→Int}
end
section
variable {g:Vtx→Vtx}
end
end Go.Proofs.Ytfcenbapjhecfaa
namespace Go.Proofs.Ytfcenbapjhecfaa
open Go Go.Abs
open Nat (reduceEqDiff reduceAdd reduceLeDiff)
attribute [local irreducible] aD aj aX aP aH aK az aL aR bd Go.Abs.Fn aO Go.Abs.Pure av aF Yl
theorem w6 (l:List Spx) (k:Nat) (hl:l.length ≤ 50) (hs:∀ s ∈ l,bj s=0) (hk:1 ≤ k∧k ≤ 8):Pure Try.prog 81 [ar l,.int .i64 k] (.tup [ar (ir l k),.int .i64 0]):=by
 refine Pure.of_c2 follows Bc (Nat.le_of_ble_eq_true rfl) ?_
 simp only [b81,cO,cG,cN,cM,cD,cF,cB,aB,aS]
 have h8:∀ s ∈ l,s.length ≤ 8:=fun s h=>(cz (hs s h)).2.1
 have hgood:∀ s ∈ l.flatMap (fun s=>bq s k),gI s:=fun s h=>by
  obtain ⟨t,t1,t2⟩:=gC.1 h
  exact wt (xC (hs t t1)) hk.1 t2
 have hfl:=fD (k:=k) h8
 have z0:decide ((0:Int) ≠ 0)=false:=rfl
 (have zz:=@ae; repeat' (first|refine zW ?_|apply a_n|refine zO ?_|refine vY ?_|fail)) <;> (try clear zz)
 refine yn ?_
 (have zz:=@ae; repeat' (first|refine zW ?_|apply a_n|refine zO ?_|refine vY ?_|fail)) <;> (try clear zz)
 refine ba (X:=Nat × AV × List Spx) (fun x=>[(1,.int .i64 k),(6,.mp 0),(7,x.2.1),(15,ar l),(16,.int .i64 l.length),(17,.int .i64 x.1)]) (fun x H nx=>x.1 ≤ l.length∧1 ≤ nx∧H 0=some [.omap ((x.2.2.map kK).map eK) (x.2.2.map fun _=>.bool true)]∧Row H 1 x.2.1 (x.2.2.map aw)∧(∀ b,bT x.2.1=some b→1 ≤ b∧b < nx)∧x.2.2.Nodup∧∀ s,s ∈ x.2.2 ↔ s ∈ (l.take x.1).flatMap fun s=>bq s k) (fun x=>l.length - x.1) (0,.esl,[]) ⟨Nat.zero_le _,by omega,ah,Row.nil,fun b h=>(by cases h),List.nodup_nil,fun s=>by simp⟩ (by (iterate 6 refine And.intro rfl ?_); trivial) ?_
 rintro ⟨i,sv,O⟩ H nx ⟨h1,hnx,g0,hrow,hbd,hnd,hmem⟩
 dsimp only at h1 g0 hrow hbd hnd hmem ⊢
 obtain ⟨o1,o2⟩:=hrow.one
 by_cases hi:i < l.length
 rotate_left
 ·rw [List.take_of_length_le (by omega)] at hmem
  have hOl:O.length ≤ 3500:=by
   have:=List.Nodup.length_le_of_subset hnd (l₂:=l.flatMap fun s=>bq s k) (fun s h=>(hmem s).1 h)
   omega
  have hsort:Abs.Fn Try.prog 73 [sv,.func 40 []] H nx fun _ H' nx'=>Row H' 1 sv ((ir l k).map aw):=by
   generalize hcs:O.map aw=cs at hrow
   cases hrow with
   | nil =>
    have hO0:O=[]:=List.map_eq_nil_iff.1 hcs
    refine Abs.Fn.mono (jA rfl) ?_
    rintro _ _ _ ⟨rfl,rfl⟩
    have:ir l k=[]:=by
     unfold ir
     rw [qJ,List.eq_nil_iff_forall_not_mem]
     intro s h
     have:=(hmem s).2 h
     rw [hO0] at this; cases this
    rw [this]; exact Row.nil
   | box b len cs k1 k2 =>
    obtain rfl:len=O.length:=by rw [← hcs,List.length_map] at k2; omega
    have hb:=hbd b rfl
    subst hcs
    by_cases h0:O.length=0
    ·have hO0:O=[]:=List.length_eq_zero_iff.1 h0
     subst hO0
     refine Abs.Fn.mono (jA rfl) ?_
     rintro _ _ _ ⟨rfl,rfl⟩
     have:ir l k=[]:=by
      unfold ir
      rw [qJ,List.eq_nil_iff_forall_not_mem]
      intro s h
      have:=(hmem s).2 h
      cases this
     rw [this]; exact Row.box b 0 _ k1 rfl
    ·have hg:∀ s ∈ O,Shn s:=fun s h=>show s.length ≤ _ by have:=(hgood s ((hmem s).1 h)).2.1; omega
     have hsf:=s7 zC (L:=O) (b:=b) (nx:=nx) (n:=O.length) k1 hb.2 rfl (by omega) hg (by omega)
     rw [Nat.mul_one]
     refine Abs.Fn.mono hsf ?_
     rintro _ H' nx' ⟨L',ps,p1,p2⟩
     have hlen:=p1.length_eq
     have:=lq p1 (by rw [hlen]; exact p2) hnd hmem
     unfold ir
     rw [← this,← hlen]
     have:=Row.box (H:=H') (sz:=1) b L'.length (L'.map aw) ps.at_ (by simp)
     rwa [Nat.mul_one] at this
  (have zz:=and_self; repeat' (first|refine zW ?_|apply a_n|apply a_x|refine zO ?_|refine vY ?_|(refine zGY ?_ ?_ <;> (intro _hg; try (exfalso; omega)))|fail)) <;> (try clear zz)
  refine aV ev0 ev0 hsort ?_
  rintro r H' nx' hr
  (have zz:=aI @o1 @o2; repeat' (first|refine zW ?_|apply a_n|refine zO ?_|refine vY ?_|refine ak rfl ?_|refine r2Y ?_|fail)) <;> (try clear zz)
  exact cA (eD hr) rfl
 have ix:=dp hi
 have hft:=ow (k:=k) hi
 have hpm:∀ s ∈ (l.take (i + 1)).flatMap (fun s=>bq s k),s ∈ l.flatMap fun s=>bq s k:=fun s h=>by
  obtain ⟨t,t1,t2⟩:=gC.1 h
  exact gC.2 ⟨t,List.mem_of_mem_take t1,t2⟩
 have hsi:=hs _ (aQ hi)
 have h8i:=h8 _ (aQ hi)
 have hfx:=vQ (l.getD i default) k (show _ ≤ _ by omega)
 have hfe:(l.getD i default).length < k ∨ ma (l.getD i default) k=(bq (l.getD i default) k,0):=by
  by_cases h:(l.getD i default).length < k
  ·exact .inl h
  ·refine .inr ?_
   unfold ma
   rw [if_neg (fun h=>h hsi),if_neg (by omega),Int.toNat_natCast]
 have hcar:∀ s ∈ bq (l.getD i default) k,gI s:=fun s h=>hgood s (hpm s (by rw [hft]; exact List.mem_append_right _ h))
 by_cases hlt:(l.getD i default).length < k
 ·have z:decide (((l.getD i default).length:Int) < k)=true:=decide_eq_true (by omega)
  rw [ga hlt,List.append_nil] at hft
  generalize l.getD i default=s at *
  (have zz:=aI @ap (aI @ix (aI @z (aI @o1 @o2))); repeat' (first|refine zW ?_|apply a_n|apply a_x|refine zO ?_|refine vY ?_|refine cTY ?_|(refine zGY ?_ ?_ <;> (intro _hg; try (exfalso; omega)))|fail)) <;> (try clear zz)
  exact ⟨(i + 1,sv,O),by dsimp only; omega,⟨by dsimp only; omega,hnx,g0,hrow,hbd,hnd,by dsimp only; rw [hft]; exact hmem⟩,ag0⟩
 have z:decide (((l.getD i default).length:Int) < k)=false:=decide_eq_false (by omega)
 rw [hfe.resolve_left hlt] at hfx
 clear hfe
 have hgP:∀ s ∈ (l.take i).flatMap (fun s=>bq s k),gI s:=fun s h=>hgood s (hpm s (by rw [hft]; exact List.mem_append_left _ h))
 have hPl:((l.take i).flatMap (fun s=>bq s k) ++ bq (l.getD i default) k).length ≤ 3500:=by
  rw [← hft]
  have:=fD (k:=k) (c:=l.take (i + 1)) (fun s h=>h8 s (List.mem_of_mem_take h))
  rw [List.length_take] at this; omega
 generalize l.getD i default=s at *
 generalize bq s k=R at *
 generalize (l.take i).flatMap (fun s=>bq s k)=P at *
 have hRl:R.length ≤ 3500:=by rw [List.length_append] at hPl; omega
 (have zz:=aI @ap (aI @ae (aI @ix (aI @z (aI @z0 (aI @o1 @o2))))); repeat' (first|refine zW ?_|apply a_n|refine zO ?_|refine vY ?_|refine cY ?_ (hp:=hfx) (hs:=by (first | refine ac ?_ rfl | apply ag); (repeat' (first | exact aa | apply an | apply ai | exact ay _)); first | done | fail)|refine cFY ?_|(refine zGY ?_ ?_ <;> (intro _hg; try (exfalso; omega)))|fail)) <;> (try clear zz)
 refine ba (X:=Nat × AV × List Spx) (fun x=>[(1,.int .i64 k),(6,.mp 0),(7,x.2.1),(15,ar l),(16,.int .i64 l.length),(17,.int .i64 i),(34,ar R),(35,.int .i64 R.length),(36,.int .i64 x.1)]) (fun x H nx=>x.1 ≤ R.length∧1 ≤ nx∧H 0=some [.omap ((x.2.2.map kK).map eK) (x.2.2.map fun _=>.bool true)]∧Row H 1 x.2.1 (x.2.2.map aw)∧(∀ b,bT x.2.1=some b→1 ≤ b∧b < nx)∧x.2.2.Nodup∧∀ s,s ∈ x.2.2 ↔ s ∈ P ++ R.take x.1) (fun x=>R.length - x.1) (0,sv,O) ⟨Nat.zero_le _,hnx,g0,hrow,hbd,hnd,by dsimp only; rw [List.take_zero,List.append_nil]; exact hmem⟩ ag0 ?_
 clear g0 hrow hbd hnd hmem hnx o1 o2
 rintro ⟨j,sv,O⟩ H nx ⟨j1,hnx,g0,hrow,hbd,hnd,hmem⟩
 dsimp only at j1 g0 hrow hbd hnd hmem ⊢
 obtain ⟨o1,o2⟩:=hrow.one
 have hOl:O.length ≤ 3500:=by
  have:=List.Nodup.length_le_of_subset hnd (l₂:=P ++ R.take j) (fun s h=>(hmem s).1 h)
  rw [List.length_append,List.length_take] at this
  rw [List.length_append] at hPl
  omega
 by_cases hj:j < R.length
 rotate_left
 ·rw [List.take_of_length_le (by omega)] at hmem
  have hls:bE sv=some (.int .i64 O.length):=hrow.lenS (by rw [List.length_map,Nat.mul_one]) Nat.one_pos
  have z1:decide ((4096:Int) < O.length)=false:=decide_eq_false (by omega)
  (have zz:=aI @hls (aI @z1 (aI @o1 @o2)); repeat' (first|refine zW ?_|apply a_n|apply a_x|refine zO ?_|refine vY ?_|refine cFY ?_|(refine zGY ?_ ?_ <;> (intro _hg; try (exfalso; omega)))|fail)) <;> (try clear zz)
  exact ⟨(i + 1,sv,O),by dsimp only; omega,⟨by dsimp only; omega,hnx,g0,hrow,hbd,hnd,by dsimp only; rw [hft]; exact hmem⟩,ag0⟩
 have iy:=dp hj
 have hgf:=hcar _ (aQ hj)
 have hgO:∀ s ∈ O,gI s:=fun s h=>by
  rcases List.mem_append.1 ((hmem s).1 h) with h | h
  ·exact hgP s h
  ·exact hcar s (List.mem_of_mem_take h)
 have hkey:=xQ (R.getD j default) hgf.1 hgf.2.1
 have hts:R.take (j + 1)=R.take j ++ [R.getD j default]:=bB hj
 have hmf:=xa (kK (R.getD j default)) (O.map kK)
 have hmk:=yW hgO hgf
 generalize R.getD j default=f at *
 by_cases hf:f ∈ O
 ·rw [if_pos (hmk.2 hf)] at hmf
  have hlt2:(O.map kK).idxOf (kK f) < (O.map kK).length:=List.idxOf_lt_length_iff.2 (hmk.2 hf)
  have hgv:mget (.bool false) false (some ((O.map kK).idxOf (kK f))) (O.map fun _=>AV.bool true)=.bool true:=by
   rw [List.length_map] at hlt2
   simp [mget,List.getD,hlt2]
  (have zz:=aI @iy (aI @o1 @o2); repeat' (first|refine zW ?_|apply a_n|refine zO ?_|refine vY ?_|refine cY ?_ (hp:=hkey) (hs:=by (first | refine ac ?_ rfl | apply ag); (repeat' (first | exact aa | apply an | apply ai | exact ay _)); first | done | fail)|(refine zGY ?_ ?_ <;> (intro _hg; try (exfalso; omega)))|fail)) <;> (try clear zz)
  refine sc ev0 g0 (by ((try simp only [bR,ZA,reduceEqDiff,↓reduceIte,reduceAdd,reduceLeDiff]); (try with_reducible rfl)); rfl) (tK (kK f)) hmf ?_
  rw [hgv]
  (have zz:=aI @o1 @o2; repeat' (first|apply a_n|refine zO ?_|refine vY ?_|refine cFY ?_|fail)) <;> (try clear zz)
  refine ⟨(j + 1,sv,O),by dsimp only; omega,⟨by dsimp only; omega,hnx,g0,hrow,hbd,hnd,fun s=>?_⟩,ag0⟩
  dsimp only
  rw [hts,← List.append_assoc,List.mem_append,← hmem,List.mem_singleton]
  exact ⟨.inl,fun h=>h.elim id fun e=>by rw [e]; exact hf⟩
 ·rw [if_neg (fun h=>hf (hmk.1 h))] at hmf
  have hgv:mget (.bool false) false none (O.map fun _=>AV.bool true)=.bool false:=rfl
  (have zz:=aI @iy (aI @o1 @o2); repeat' (first|refine zW ?_|apply a_n|refine zO ?_|refine vY ?_|refine cY ?_ (hp:=hkey) (hs:=by (first | refine ac ?_ rfl | apply ag); (repeat' (first | exact aa | apply an | apply ai | exact ay _)); first | done | fail)|(refine zGY ?_ ?_ <;> (intro _hg; try (exfalso; omega)))|fail)) <;> (try clear zz)
  refine sc ev0 g0 (by ((try simp only [bR,ZA,reduceEqDiff,↓reduceIte,reduceAdd,reduceLeDiff]); (try with_reducible rfl)); rfl) (tK (kK f)) hmf ?_
  rw [hgv]
  (have zz:=aI @o1 @o2; repeat' (first|refine zW ?_|apply a_n|refine zO ?_|refine vY ?_|refine cY ?_ (hp:=hkey) (hs:=by (first | refine ac ?_ rfl | apply ag); (repeat' (first | exact aa | apply an | apply ai | exact ay _)); first | done | fail)|refine cTY ?_|fail)) <;> (try clear zz)
  refine yH ev0 g0 (by ((try simp only [bR,ZA,reduceEqDiff,↓reduceIte,reduceAdd,reduceLeDiff]); (try with_reducible rfl)); rfl) ev0 (tK (kK f)) hmf ?_
  (have zz:=aI @o1 (aI @o2 (aI @aA @ax)); repeat' (first|apply a_n|refine zO ?_|refine vY ?_|refine blY ?_|fail)) <;> (try clear zz)
  refine dK rfl ev0 (hrow.same fun b hb=>?_) ev0 bC rfl rfl Nat.one_pos (by rw [List.length_map]; omega) (by rw [List.length_map]; omega) ?_
  ·have:=hbd b hb
   rw [af (by omega),af (by omega)]
  rintro s2 H2 nx2 hr2 i1 i2 i3 i4
  obtain ⟨o3,o4⟩:=hr2.one
  (have zz:=aI @o3 @o4; repeat' (first|apply a_n|refine zO ?_|refine vY ?_|fail)) <;> (try clear zz)
  refine ⟨(j + 1,s2,O ++ [f]),by dsimp only; omega,⟨by dsimp only; omega,by omega,?_,?_,fun b hb=>?_,?_,fun s=>?_⟩,ag0⟩
  ·rw [i3 0 (by omega) (fun h=>by have:=hbd 0 h; omega),af (by omega),ah]
   simp [bx,dI]
  ·dsimp only
   rw [List.map_append]; exact hr2
  ·rcases i4 b hb with h | h
   ·have:=hbd b h; omega
   ·omega
  ·exact List.nodup_append.2 ⟨hnd,by simp,fun a ha c hc=>by simp at hc; subst hc; intro e; subst e; exact hf ha⟩
  ·dsimp only
   rw [hts,← List.append_assoc,List.mem_append,List.mem_append,← hmem]
end Go.Proofs.Ytfcenbapjhecfaa
namespace Go.Proofs.Ytfcenbapjhecfaa
open Go Go.Abs
theorem mX (K:Nat→Int):∀ n,(∀ i j,i < j→j < n→K j < 0→K i < 0)→∃ b,b ≤ n∧(∀ i,i < b→K i < 0)∧∀ i,b ≤ i→i < n→0 ≤ K i
 | 0,_=>⟨0,Nat.le_refl _,fun i h=>absurd h (by omega),fun i _ h=>absurd h (by omega)⟩
 | n + 1,hm=>by
  by_cases h:K n < 0
  ·refine ⟨n + 1,Nat.le_refl _,fun i hi=>?_,fun i h1 h2=>absurd h1 (by omega)⟩
   by_cases e:i=n
   ·subst e; exact h
   ·exact hm i n (by omega) (by omega) h
  ·obtain ⟨b,h1,h2,h3⟩:=mX K n (fun i j hi hj=>hm i j hi (by omega))
   refine ⟨b,by omega,h2,fun i hi hi2=>?_⟩
   by_cases e:i=n
   ·subst e; omega
   ·exact h3 i hi (by omega)
theorem yv {tb tf:Bool} {i j:Nat}:aZ .shr tb tf (.int .u64 ((i:Int) + (j:Int))) (.int .u64 1)=some (.int .u64 (((i + j) / 2:Nat):Int)):=by
 have:=pj (k:=.u64) (a:=i + j) (b:=1) (tb:=tb) (tf:=tf) (k':=.u64) (by decide)
 simpa using this
attribute [local irreducible] aD aj aX aP aH aK az aL aR bd Go.Abs.Fn aO Go.Abs.Pure av aF Yl
theorem jr (c:List Spx) (k:Int) (hc:c.length ≤ 50) (hs:∀ s ∈ c,Shn s):Pure Try.prog 56 [fc c,.int .i64 k] (.tup [ar (dS c k).1,.int .i64 (dS c k).2]):=by
 refine Pure.of_c2 follows B1 (Nat.le_of_ble_eq_true rfl) ?_
 simp only [b56,cO,cG,cN,cM,cD,cF,cB,aB,aS]
 have hcc:=nA c (show _ ≤ _ by omega) hs
 unfold dS
 by_cases he:be c=0
 rotate_left
 ·rw [if_pos he]
  have z:decide (be c ≠ 0)=true:=decide_eq_true he
  (have zz:=aI @au (aI @am @z); repeat' (first|refine zW ?_|apply a_n|apply a_r|refine zO ?_|refine vY ?_|refine cY ?_ (hp:=hcc) (hs:=by (first | refine ac ?_ rfl | apply ag); (repeat' (first | exact aa | apply an | apply ai | exact bA _)); first | done | fail)|refine bxY ?_|refine cTY ?_|refine ak rfl ?_|refine r2Y ?_|fail)) <;> (try clear zz)
  exact cA (.eslsl _) rfl
 rw [if_neg (fun h=>h he)]
 rw [he] at hcc
 have z0:decide ((0:Int) ≠ 0)=false:=rfl
 obtain ⟨p1,p2,p3,p4⟩:=fT he
 by_cases hk:k < 1 ∨ 8 < k
 ·rw [if_pos hk]
  (have zz:=aI @au (aI @am @z0); repeat' (first|refine zW ?_|apply a_n|apply a_r|refine zO ?_|refine vY ?_|refine cY ?_ (hp:=hcc) (hs:=by (first | refine ac ?_ rfl | apply ag); (repeat' (first | exact aa | apply an | apply ai | exact bA _)); first | done | fail)|refine bxY ?_|refine gTY ?_|refine gFY ?_|refine cTY ?_|refine cFY ?_|(refine zGY ?_ ?_ <;> (intro _hg; try (exfalso; omega)))|refine ak rfl ?_|refine r2Y ?_|fail)) <;> (try clear zz)
  all_goals first | exact cA (.eslsl _) rfl | (exfalso; omega)
 rw [if_neg hk]
 obtain ⟨n,rfl⟩:∃ n:Nat,k=n:=⟨k.toNat,by omega⟩
 rw [Int.toNat_natCast]
 have ha:=w6 c n hc p2 ⟨by omega,by omega⟩
 (have zz:=aI @au (aI @am (aI @ae @z0)); repeat' (first|refine zW ?_|apply a_n|refine zO ?_|refine vY ?_|refine cY ?_ (hp:=by first | exact hcc | exact ha) (hs:=by (first | refine ac ?_ rfl | apply ag); (repeat' (first | exact aa | apply an | apply ai | exact bA _ | exact aC _)); first | done | fail)|refine bxY ?_|refine gTY ?_|refine cFY ?_|(refine zGY ?_ ?_ <;> (intro _hg; try (exfalso; omega)))|refine ak rfl ?_|refine r2Y ?_|fail)) <;> (try clear zz)
 exact cA (aC _).snap rfl
theorem r6 (l:List Spx) (v:Spx) (hl:Shn l) (hs:∀ c ∈ l,Shn c) (hv:Shn v) {b:Nat} (hb:b ≤ l.length) (h1:∀ i,i < b→aM (l.getD i default) v < 0) (h2:∀ i,b ≤ i→i < l.length→0 ≤ aM (l.getD i default) v) :
    Pure Try.prog 80 [ar l,aw v,.func 40 []] (.tup [.int .i64 b,.bool (decide (b < l.length) && decide (aM (l.getD b default) v=0))]):=by
 refine Pure.of_c2 follows BM (Nat.le_of_ble_eq_true rfl) ?_
 simp only [b80,cO,cG,cN,cM,cD,cF,cB,aB,aS]
 have hl':l.length ≤ 17592186044416:=hl
 (have zz:=aI @aA (aI @ax @ae); repeat' (first|refine zW ?_|apply a_n|refine zO ?_|refine vZ ?_|fail)) <;> (try clear zz)
 refine jH (X:=Nat × Nat) (fun x=>[(0,ar l),(1,aw v),(2,.func 40 []),(8,.int .i64 l.length),(9,.int .i64 x.1),(10,.int .i64 x.2)]) (fun x=>x.1 ≤ b∧b ≤ x.2∧x.2 ≤ l.length) (fun x=>x.2 - x.1) (0,l.length) ⟨Nat.zero_le _,hb,Nat.le_refl _⟩ ag0 ?_
 rintro ⟨i,j⟩ ⟨g1,g2,g3⟩
 dsimp only at g1 g2 g3 ⊢
 by_cases hij:i < j
 ·have hh:(i + j) / 2 < l.length:=by omega
  have hc:=dR (l.getD ((i + j) / 2) default) v (hs _ (aQ hh)) hv
  have ix:=dp hh
  by_cases hn:aM (l.getD ((i + j) / 2) default) v < 0
  ·have hbb:(i + j) / 2 < b:=Nat.lt_of_not_le fun h=>by have:=h2 _ h hh; omega
   (have zz:=aI @aA (aI @ax (aI @ae (aI @fh (aI @yv @ix)))); repeat' (first|refine zW ?_|apply a_n|refine zO ?_|refine vZ ?_|refine cZ ?_ (hp:=hc) (hs:=by (first | refine ac ?_ rfl | apply ag); (repeat' (first | exact aa | apply an | apply ai | exact ay _)); first | done | fail)|(refine zGZ ?_ ?_ <;> (intro _hg; try (exfalso; omega)))|fail)) <;> (try clear zz)
   exact ⟨((i + j) / 2 + 1,j),⟨by omega,by omega,by omega⟩,by dsimp only; omega,ag0,rfl,rfl⟩
  ·have hbb:b ≤ (i + j) / 2:=Nat.le_of_not_lt fun h=>hn (h1 _ h)
   (have zz:=aI @aA (aI @ax (aI @ae (aI @fh (aI @yv @ix)))); repeat' (first|refine zW ?_|apply a_n|refine zO ?_|refine vZ ?_|refine cZ ?_ (hp:=hc) (hs:=by (first | refine ac ?_ rfl | apply ag); (repeat' (first | exact aa | apply an | apply ai | exact ay _)); first | done | fail)|(refine zGZ ?_ ?_ <;> (intro _hg; try (exfalso; omega)))|fail)) <;> (try clear zz)
   exact ⟨(i,(i + j) / 2),⟨by omega,by omega,by omega⟩,by dsimp only; omega,ag0,rfl,rfl⟩
 ·have ei:i=b:=by omega
  have ej:j=b:=by omega
  clear hij g1 g2 g3
  subst ei
  by_cases hlt:i < l.length
  ·have hc:=dR (l.getD i default) v (hs _ (aQ hlt)) hv
   have ix:=dp hlt
   have dlt:decide ((i:Int) < (l.length:Int))=true:=decide_eq_true (by omega)
   have dij:decide ((i:Int) < (j:Int))=false:=decide_eq_false (by omega)
   (have zz:=aI @aA (aI @ax (aI @ae (aI @ix (aI @dlt @dij)))); repeat' (first|refine zW ?_|apply a_n|apply a_x|refine zO ?_|refine vZ ?_|refine cZ ?_ (hp:=hc) (hs:=by (first | refine ac ?_ rfl | apply ag); (repeat' (first | exact aa | apply an | apply ai | exact ay _)); first | done | fail)|refine gTZ ?_|refine cFZ ?_|refine ak rfl ?_|refine r2Z ?_|fail)) <;> (try clear zz)
   refine e7 (ao (.int _ _) (ao (bt ?_) aa))
   rw [decide_eq_true hlt,Bool.true_and]
  ·have dlt:decide ((i:Int) < (l.length:Int))=false:=decide_eq_false (by omega)
   have dij:decide ((i:Int) < (j:Int))=false:=decide_eq_false (by omega)
   (have zz:=aI @aA (aI @ax (aI @ae (aI @dlt @dij))); repeat' (first|refine zW ?_|apply a_n|apply a_x|refine zO ?_|refine vZ ?_|refine gFZ ?_|refine cFZ ?_|refine ak rfl ?_|refine r2Z ?_|fail)) <;> (try clear zz)
   refine e7 (ao (.int _ _) (ao (bt ?_) aa))
   rw [decide_eq_false hlt,Bool.false_and]
end Go.Proofs.Ytfcenbapjhecfaa
namespace Go.Proofs.Ytfcenbapjhecfaa
open Go Go.Abs
def cb (l:List Nat):List Int:=l.map fun (n:Nat)=>(n:Int)
def fe (c:Int) (rows:List (List Int)):AV:=.agg [.int .i64 c,bi rows]
theorem cH (c:Int) (rows:List (List Int)):Dat (fe c rows):=Dat.agg (DatL.cons .int (DatL.cons (n9 _) DatL.nil))
structure MatOk (H:Hp) (b lo hi n:Nat) (F:Nat→List Nat) (vs:List AV):Prop where
 box:H b=some vs
 len:vs.length=n
 row:∀ j,j < n→Row H 1 (vs.getD j .undef) ((F j).map rX)
 bnd:∀ j B,j < n→bT (vs.getD j .undef)=some B→lo ≤ B∧B < hi∧B ≠ b
 apart:∀ i j B,i < n→j < n→i ≠ j→bT (vs.getD i .undef)=some B→bT (vs.getD j .undef) ≠ some B
theorem MatOk.same {H H':Hp} {b lo hi hi' n:Nat} {F G:Nat→List Nat} {vs:List AV} (h:MatOk H b lo hi n F vs) (hb:H' b=H b) (hs:∀ x,lo ≤ x→x < hi→x ≠ b→H' x=H x) (hh:hi ≤ hi') (hG:∀ j,j < n→G j=F j):MatOk H' b lo hi' n G vs :=
 ⟨hb.trans h.box,h.len,fun j hj=>by rw [hG j hj]; exact (h.row j hj).same fun B hB=>by have:=h.bnd j B hj hB; exact hs B this.1 this.2.1 this.2.2,fun j B hj hB=>by have:=h.bnd j B hj hB; exact ⟨this.1,by omega,this.2.2⟩,h.apart⟩
theorem MatOk.put {H H':Hp} {b lo hi hi' n i x:Nat} {F G:Nat→List Nat} {vs:List AV} {sv:AV} (h:MatOk H b lo hi n F vs) (hin:i < n) (hG:∀ j,j < n→G j=if j=i then F j ++ [x] else F j) (hrow:Row H' 1 sv ((F i ++ [x]).map rX)) (hB:∀ B,bT sv=some B→bT (vs.getD i .undef)=some B ∨ hi ≤ B∧B < hi'∧B ≠ b) (hb:H' b=some (vs.set i sv))
    (hs:∀ x,lo ≤ x→x < hi→x ≠ b→bT (vs.getD i .undef) ≠ some x→H' x=H x) (hh:hi ≤ hi') (hlo:lo ≤ hi):MatOk H' b lo hi' n G (vs.set i sv):=by
 have hl:=h.len
 have hg:∀ j,(vs.set i sv).getD j .undef=if i=j then sv else vs.getD j .undef:=fun j=>kI (by omega)
 refine ⟨hb,by simp [hl],fun j hj=>?_,fun j B hj=>?_,fun p q B hp hq hpq=>?_⟩
 ·rw [hg,hG j hj]
  by_cases e:i=j
  ·rw [if_pos e,if_pos e.symm,← e]; exact hrow
  ·rw [if_neg e,if_neg (fun h=>e h.symm)]
   exact (h.row j hj).same fun B hB'=>by
    have:=h.bnd j B hj hB'
    exact hs B this.1 this.2.1 this.2.2 fun h'=>h.apart i j B hin hj e h' hB'
 ·rw [hg]
  by_cases e:i=j
  ·rw [if_pos e]
   intro hB'
   rcases hB B hB' with h' | h'
   ·have:=h.bnd _ B hin h'; exact ⟨this.1,by omega,this.2.2⟩
   ·exact ⟨by omega,h'.2⟩
  ·rw [if_neg e]
   intro hB'
   have:=h.bnd j B hj hB'
   exact ⟨this.1,by omega,this.2.2⟩
 ·rw [hg,hg]
  by_cases e1:i=p
  ·rw [if_pos e1,if_neg (by omega)]
   intro h1 h2
   rcases hB B h1 with h' | h'
   ·exact h.apart i q B hin hq (by omega) h' h2
   ·have:=h.bnd q B hq h2; omega
  ·rw [if_neg e1]
   by_cases e2:i=q
   ·rw [if_pos e2]
    intro h1 h2
    rcases hB B h2 with h' | h'
    ·exact h.apart p i B hp hin (by omega) h1 h'
    ·have:=h.bnd p B hp h1; omega
   ·rw [if_neg e2]; exact h.apart p q B hp hq hpq
theorem MatOk.snap {H:Hp} {b lo hi n:Nat} {F:Nat→List Nat} {vs:List AV} (h:MatOk H b lo hi n F vs):Snap H (.msl b n 1 0 n) (bi ((List.range n).map fun i=>cb (F i))):=by
 refine fK (l:=((List.range n).map fun i=>cb (F i)).map bg) h.box h.len (by omega) (by simp) (fun y hy=>?_) (fun i a c ha hc=>?_)
 ·obtain ⟨z,_,rfl⟩:=List.mem_map.1 hy; rfl
 ·have hin:i < n:=by
    have:=(List.getElem?_eq_some_iff.1 hc).1
    simpa using this
  have hr:=h.row i hin
  rw [Nat.zero_add] at ha
  have e1:vs.getD i .undef=a:=by rw [List.getD_eq_getElem?_getD,ha]; rfl
  rw [e1] at hr
  have e2:c=bg (cb (F i)):=by
   rw [List.getElem?_map,List.getElem?_map,List.getElem?_range hin] at hc
   simpa using hc.symm
  rw [e2]
  exact wh hr
theorem MatOk.new {H:Hp} {b lo hi n:Nat} {F:Nat→List Nat} (hb:H b=some (List.replicate n .esl)) (hF:∀ j,j < n→F j=[]):MatOk H b lo hi n F (List.replicate n .esl):=by
 have hg:∀ j,j < n→(List.replicate n AV.esl).getD j .undef=.esl:=fun j hj=>by simp [List.getD,List.getElem?_replicate,hj]
 refine ⟨hb,by simp,fun j hj=>?_,fun j B hj h=>?_,fun i j B hi hj _ h=>?_⟩
 ·rw [hg j hj,hF j hj]; exact Row.nil
 ·rw [hg j hj] at h; cases h
 ·rw [hg i hi] at h; cases h
end Go.Proofs.Ytfcenbapjhecfaa
namespace Go.Proofs.Ytfcenbapjhecfaa
open Go Go.Abs
theorem jP {H:Hp} {s:AV} {c:Int} {l:List (List Int)} {e f:Int} (h:Snap H s (bi l)) (he:e=f):Snap H (.tup [.agg [.int .i64 c,s],.int .i64 e]) (.tup [fe c l,.int .i64 f]):=by
 subst he; exact e7 (ao (nK (ao (.int _ _) (ao h aa))) (ao (.int _ _) aa))
theorem vE {c:List Spx} {k:Nat} {s:Spx}:s ∈ ir c k ↔ ∃ t ∈ c,s ∈ bq t k:=by
 unfold ir; rw [gO,gC]
theorem v8 {c:List Spx} {k:Nat}:bo aM (ir c k):=mh gS _
theorem vw {c:List Spx} {k:Nat} (h:c.length ≤ 50) (h8:∀ s ∈ c,s.length ≤ 8):(ir c k).length ≤ 3500:=Nat.le_trans qS (Nat.le_trans (fD h8) (by omega))
attribute [local irreducible] aD aj aX aP aH aK az aL aR bd Go.Abs.Fn aO Go.Abs.Pure av aF Yl
end Go.Proofs.Ytfcenbapjhecfaa
namespace Go.Proofs.Ytfcenbapjhecfaa
open Go Go.Abs
def fcs (s:Spx):List Spx:=if s.length < 2 then [] else fc0 s
theorem jd {s:Spx}:(fcs s).Perm (a7 s):=by
 unfold fcs a7
 split
 ·exact List.Perm.refl _
 ·rename_i h
  exact (jx fun e=>by rw [e] at h; simp at h).symm
theorem tP {s f:Spx}:f ∈ fcs s ↔ f ∈ a7 s:=jd.mem_iff
theorem px:∀ {s:Spx},(fc0 s).length=s.length
 | []=>rfl
 | x :: s=>by show ((fc0 s).map (x :: ·)).length + 1=_; rw [List.length_map,px]; rfl
theorem tg:∀ {s:Spx} {i:Nat},i < s.length→(fc0 s).getD i default=s.take i ++ s.drop (i + 1)
 | [],_,h=>absurd h (by simp)
 | x :: s,0,_=>by simp [fc0]
 | x :: s,i + 1,h=>by
  have hi:i < s.length:=by simpa using h
  have:=tg hi
  show ((s :: (fc0 s).map (x :: ·)).getD (i + 1) default)=_
  have hl:i < (fc0 s).length:=by rw [px]; exact hi
  simp only [List.getD,List.getElem?_cons_succ,List.getElem?_map,List.getElem?_eq_getElem hl,Option.map_some,Option.getD_some,List.take_succ_cons,List.drop_succ_cons,List.cons_append] at this ⊢
  rw [this]
theorem eH {s:Spx} (h:bo bv s):(a7 s).Nodup:=(nw h).nodup gS
theorem uZ {s:Spx} (h:bo bv s):(fcs s).Nodup:=jd.nodup_iff.2 (eH h)
def e5 (X Y:List Spx) (n i:Nat):List Nat:=(List.range n).filter fun k=>decide (Y.getD i default ∈ a7 (X.getD k default))
theorem uw {X Y:List Spx} {n i:Nat}:e5 X Y (n + 1) i=e5 X Y n i ++ if Y.getD i default ∈ a7 (X.getD n default) then [n] else []:=by
 unfold e5
 rw [List.range_succ,List.filter_append]
 congr 1
 by_cases h:Y.getD i default ∈ a7 (X.getD n default)
 ·rw [if_pos h,List.filter_cons_of_pos (by simpa using h)]; rfl
 ·rw [if_neg h,List.filter_cons_of_neg (by simpa using h)]; rfl
theorem qi {X Y:List Spx} {n i:Nat}:(e5 X Y n i).length ≤ n:=by
 unfold e5
 exact Nat.le_trans (List.length_filter_le _ _) (by simp)
def cE (X Y:List Spx):List (List Int):=(List.range Y.length).map fun i=>cb (e5 X Y X.length i)
end Go.Proofs.Ytfcenbapjhecfaa
namespace Go.Proofs.Ytfcenbapjhecfaa
open Go Go.Abs
attribute [local irreducible] aD aj aX aP aH aK az aL aR bd Go.Abs.Fn aO Go.Abs.Pure av aF Yl
end Go.Proofs.Ytfcenbapjhecfaa
namespace Go.Proofs.Ytfcenbapjhecfaa
open Go Go.Abs
open Nat (reduceEqDiff reduceAdd reduceLeDiff)
section
variable {P:Program} {T:Tm} {H:Hp} {nx:Nat}
theorem zv {dm:DM} {K:SP} {l:List Op2} {d:Option Nat} {sz bytes:Nat} {z:List AV} {s x:Opd} {k:IntKind} {n:Int} (hd:dm2 dm T (.apz sz bytes z s x)=true) (hs:ov T s=.esl) (hx:ov T x=.int k n) (h0:0 < n) (h1:n ≤ 9223372036854775807) (h2:n.toNat * bytes ≤ 140737488355328)
    (kk:aj P dm l (aE T d (.msl nx (n.toNat * sz) sz 0 n.toNat)) (aq H nx (aY (.agg z) n.toNat)) (nx + 1) K):aj P dm (⟨d,none,.apz sz bytes z s x⟩ :: l) T H nx K:=by
 refine iJ rfl hd ?_ kk
 simp only [eY,hs,hx]
 rw [if_pos ⟨h0,h1,h2⟩]
end
theorem xF (T:Tm) (H:Hp) (x:Opd):a8 T H (.capE x)=match ov T x with | .esl=>some (.int .i64 0) | _=>none:=rfl
theorem xn (n:Nat):(aY (.agg [.int .i64 0,.int .i64 0]) n).length=n * 2:=by simp [aY,AV.cells]
attribute [local irreducible] aD aj aX aP aH aK az aL aR bd Go.Abs.Fn aO Go.Abs.Pure av aF Yl
theorem xb (n:Nat) (h0:0 < n) (h1:n ≤ 1000000) (H:Hp) (nx:Nat):Abs.Fn Try.prog 94 [.esl,.int .i64 n] H nx fun r H' nx'=>r=.msl nx (n * 2) 2 0 0∧H'=aq H nx (aY (.agg [.int .i64 0,.int .i64 0]) n)∧nx'=nx + 1:=by
 refine Abs.Fn.of_c2 follows Bo (Nat.le_of_ble_eq_true rfl) ?_
 simp only [b94,cO,cG,cN,cM,cD,cF,cB,aB,aS]
 have z1:decide ((n:Int) < 0)=false:=decide_eq_false (by omega)
 have z2:decide ((0:Int) < n)=true:=decide_eq_true (by omega)
 have s2:ip 2 .esl none (some (.int .i64 0)) none=some .esl:=rfl
 have s3:=r8 (B:=nx) (n:=n * 2) (len:=n) (k:=0) (by omega) (by omega)
 rw [show ((0:Nat):Int)=0 from rfl] at s3
 (have zz:=aI @z1 (aI @z2 (aI @s2 (aI @Int.sub_zero (aI @Int.sub_self @xF)))); repeat' (first|refine zW ?_|apply a_n|refine zO ?_|refine vY ?_|refine cTY ?_|refine cFY ?_|fail)) <;> (try clear zz)
 refine zv rfl (have zz:=@s2; evY) ev0 (by omega) (by omega) (by omega) ?_
 (have zz:=@s3; repeat' (first|refine zW ?_|apply a_n|refine zO ?_|refine vY ?_|refine ak rfl ?_|refine r1Y ?_|fail)) <;> (try clear zz)
 exact ⟨rfl,rfl,rfl⟩
theorem pJ {c:List Spx} {k:Nat} (hk:k < c.length):(c.take (k + 1)).flatten=(c.take k).flatten ++ c.getD k default:=by
 rw [bB hk,List.flatten_append]; simp
end Go.Proofs.Ytfcenbapjhecfaa
namespace Go.Proofs.Ytfcenbapjhecfaa
open Go Go.Abs
open Nat (reduceEqDiff reduceAdd reduceLeDiff)
theorem y6 {P:Program} {T:Tm} {H:Hp} {nx:Nat} {dm:DM} {K:SP} {l:List Op2} {d:Option Nat} {sz bytes b N len n:Nat} {s x:Opd} {v:AV} {new C:List AV} (hd:dm2 dm T (.app sz bytes s x)=true) (hs:ov T s=.msl b N sz 0 len) (hb:H b=some C) (hN:C.length=N) (hx:ov T x=v) (hsrc:dl sz H v=some (n,new)) (ho:AV.ones new=true) (hnl:new.length=n * sz) (hz:0 < sz) (h0:0 < N) (hle:(len + n) * sz ≤ N) (h1:(len + n) * bytes ≤ 140737488355328) (h2:len + n ≤ 9223372036854775807)
    (next:∀ C':List AV,C'.length=N→C'.take ((len + n) * sz)=C.take (len * sz) ++ new→aj P dm l (aE T d (.msl b N sz 0 (len + n))) (aq H b C') nx K) :
    aj P dm (⟨d,none,.app sz bytes s x⟩ :: l) T H nx K:=by
 by_cases e:N=len * sz
 ·have hn:n=0:=by
    rcases Nat.eq_zero_or_pos n with h | h
    ·exact h
    ·have:len * sz + 1 * 1 ≤ len * sz + n * sz:=Nat.add_le_add_left (Nat.mul_le_mul h hz) _
     rw [Nat.add_mul] at hle; omega
  subst hn
  obtain rfl:new=[]:=List.eq_nil_of_length_eq_zero (by rw [hnl,Nat.zero_mul])
  refine wO hd hs hb hx hsrc ho hN e h1 h2 ?_
  rw [Nat.add_zero] at next ⊢
  rw [← e]
  exact next _ (by rw [List.append_nil]; exact hN) (by rw [List.append_nil,List.append_nil])
 ·refine so hd hs hb hx hsrc ho hN (fun _=>e) h0 (by rw [Nat.zero_add]; exact hle) ?_
  have hlen:len * sz + new.length ≤ N:=by rw [hnl,← Nat.add_mul]; exact hle
  refine next _ ?_ ?_
  ·rw [d7 (by rw [hN]; omega)]; exact hN
  ·simp only [br,Nat.zero_add]
   rw [List.take_append_of_le_length (by rw [List.length_append,List.length_take,hN,hnl,Nat.add_mul]; omega),List.take_of_length_le (by rw [List.length_append,List.length_take,hN,hnl,Nat.add_mul]; omega)]
attribute [local irreducible] aD aj aX aP aH aK az aL aR bd Go.Abs.Fn aO Go.Abs.Pure av aF Yl
theorem uX (c:List Spx) (hpos:0 < c.flatten.length) (hl:c.flatten.length ≤ 1000000) (hc:c.length ≤ 1000000) (H:Hp) (nx:Nat) :
    Abs.Fn Try.prog 79 [ar c] H nx fun r H' nx'=>r=.msl nx (c.flatten.length * 2) 2 0 c.flatten.length∧H'=aq H nx (cX c.flatten)∧nx'=nx + 1:=by
 refine Abs.Fn.of_c2 follows Bk (Nat.le_of_ble_eq_true rfl) ?_
 simp only [b79,cO,cG,cN,cM,cD,cF,cB,aB,aS]
 have hle:∀ k,(c.take k).flatten.length ≤ c.flatten.length:=fun k=>by
  have:c.flatten=(c.take k).flatten ++ (c.drop k).flatten:=by rw [← List.flatten_append,List.take_append_drop]
  rw [this,List.length_append]; omega
 refine en ?_
 (have zz:=and_self; repeat' (first|apply a_n|refine zO ?_|refine vY ?_|fail)) <;> (try clear zz)
 refine en ?_
 (have zz:=and_self; repeat' (first|apply a_n|refine zO ?_|refine vY ?_|fail)) <;> (try clear zz)
 refine bw (fun T H' nx'=>T 0=ar c∧T 3=.int .i64 (c.flatten.length:Nat)∧H=H'∧nx=nx') ?_ ?_
 ·(have zz:=@ae; repeat' (first|refine zW ?_|apply a_n|refine zO ?_|refine vY ?_|fail)) <;> (try clear zz)
  refine jH (X:=Nat) (fun k=>[(0,ar c),(3,.int .i64 ((c.take k).flatten.length:Nat)),(9,ar c),(10,.int .i64 c.length),(11,.int .i64 (k:Nat))]) (fun k=>k ≤ c.length) (fun k=>c.length - k) 0 (by omega) (by simp (disch:=omega) only [agr,ZG,reduceEqDiff,↓reduceIte,List.take_zero,List.flatten_nil,List.length_nil] <;> simp) ?_
  intro k hk
  by_cases hk2:k < c.length
  rotate_left
  ·rw [List.take_of_length_le (by omega)]
   (have zz:=and_self; repeat' (first|refine zW ?_|apply a_n|apply a_x|refine zO ?_|refine vY ?_|(refine zGY ?_ ?_ <;> (intro _hg; try (exfalso; omega)))|fail)) <;> (try clear zz)
   exact ⟨rfl,rfl,rfl,rfl⟩
  have ix:=dp hk2
  have hle2:=hle (k + 1)
  have e:(((c.take (k + 1)).flatten.length:Nat):Int)=((c.take k).flatten.length:Nat) + ((c.getD k default).length:Nat):=by rw [pJ hk2,List.length_append]; omega
  rw [pJ hk2,List.length_append] at hle2
  have z:decide ((((c.take k).flatten.length:Nat):Int) + ((c.getD k default).length:Nat) < 0)=false:=decide_eq_false (by omega)
  generalize c.getD k default=s at *
  (have zz:=aI @ix (aI @ap @z); repeat' (first|refine zW ?_|apply a_n|refine zO ?_|refine vY ?_|refine cFY ?_|(refine zGY ?_ ?_ <;> (intro _hg; try (exfalso; omega)))|fail)) <;> (try clear zz)
  exact ⟨k + 1,by omega,by omega,(have zz:=@e; agZ),rfl,rfl⟩
 rintro T _ _ ⟨t0,t3,rfl,rfl⟩
 (have zz:=@t3; repeat' (first|refine zW ?_|apply a_n|refine zO ?_|refine vY ?_|fail)) <;> (try clear zz)
 refine aV ev0 (have zz:=@t3; evY) (xb c.flatten.length (by omega) (by omega) H nx) ?_
 rintro _ _ _ ⟨rfl,rfl,rfl⟩
 (have zz:=aI @t0 @ae; repeat' (first|refine zW ?_|apply a_n|refine zO ?_|refine vY ?_|fail)) <;> (try clear zz)
 refine ba (X:=Nat) (fun k=>[(6,.msl nx (c.flatten.length * 2) 2 0 (c.take k).flatten.length),(25,ar c),(26,.int .i64 c.length),(27,.int .i64 (k:Nat))]) (fun k H' nx'=>k ≤ c.length∧(∃ C,H'=aq H nx C∧C.length=c.flatten.length * 2∧C.take ((c.take k).flatten.length * 2)=cX (c.take k).flatten)∧nx'=nx + 1) (fun k=>c.length - k) 0 ⟨by omega,⟨_,rfl,xn _,rfl⟩,rfl⟩ (by simp (disch:=omega) only [agr,ZG,reduceEqDiff,↓reduceIte,List.take_zero,List.flatten_nil,List.length_nil]) ?_
 rintro k _ _ ⟨hk,⟨C,rfl,h1,h2⟩,rfl⟩
 by_cases hk2:k < c.length
 rotate_left
 ·have ek:c.take k=c:=List.take_of_length_le (by omega)
  rw [ek] at h2 ⊢
  rw [List.take_of_length_le (by omega)] at h2
  subst h2
  (have zz:=and_self; repeat' (first|refine zW ?_|apply a_n|apply a_x|refine zO ?_|refine vY ?_|(refine zGY ?_ ?_ <;> (intro _hg; try (exfalso; omega)))|refine ak rfl ?_|refine r1Y ?_|fail)) <;> (try clear zz)
  exact ⟨rfl,rfl,rfl⟩
 have ix:=dp hk2
 have hle2:=hle (k + 1)
 have e:=pJ hk2
 rw [e,List.length_append] at hle2
 have hcl:=dT (c.getD k default)
 have hcp:=dT (c.take k).flatten
 generalize c.getD k default=s at *
 (have zz:=@ix; repeat' (first|refine zW ?_|apply a_n|refine zO ?_|refine vY ?_|(refine zGY ?_ ?_ <;> (intro _hg; try (exfalso; omega)))|fail)) <;> (try clear zz)
 refine y6 (b:=nx) (N:=c.flatten.length * 2) (len:=(c.take k).flatten.length) (n:=s.length) (C:=C) rfl ev0 ah h1 ev0 ou (fU _) (by rw [hcl]) (by omega) (by omega) (by omega) (by omega) (by omega) fun C2 c1 c2=>?_
 (have zz:=and_self; repeat' (first|apply a_n|refine zO ?_|refine vY ?_|fail)) <;> (try clear zz)
 refine ⟨k + 1,by omega,⟨by omega,⟨_,aN _ _ _ _,c1,?_⟩,rfl⟩,by simp (disch:=omega) only [agr,ZG,reduceEqDiff,↓reduceIte,e,List.length_append]⟩
 rw [e,g9,List.length_append,← h2]
 exact c2
theorem BS {P:Program} {T:Tm} {H S:Hp} {nx n:Nat} {K:SP} {l:List (Op2 × Nat)} {d:Option Nat} {i:Ins} {t:Nat} {w:Bool} (h:T t=.bool w) (k:a6 P S ((⟨d,none,i⟩,n) :: l) T H nx K):a6 P S ((⟨d,some (t,w),i⟩,n) :: l) T H nx K:=by
 have e:g2 T (some (t,w))=some true:=by simp [g2,h]
 cases n with
 | zero=>show aL (g2 T (some (t,w))) _ _; rw [e]; exact k
 | succ n=>show aL (g2 T (some (t,w))) _ _; rw [e]; exact k
theorem uk (x y:Spx) (h:0 < (x ++ y).length) (hl:(x ++ y).length ≤ 1000000):dt Try.prog 79 [ar [x,y]] (aw (x ++ y)):=by
 refine dt.of_fn ?_
 have e:[x,y].flatten=x ++ y:=by simp
 have hc:=uX [x,y] (by rw [e]; exact h) (by rw [e]; exact hl) (by simp) bk 0
 rw [e] at hc
 refine Abs.Fn.mono hc ?_
 rintro _ _ _ ⟨rfl,rfl,rfl⟩
 exact lJ (Row.box _ (x ++ y).length (cX (x ++ y)) ah (dT _))
theorem oC (s:Spx) (H:Hp) (nx:Nat):Abs.Fn Try.prog 51 [aw s] H nx fun r H' nx'=>r=.func 78 [.ptr nx 1 0]∧H'=aq H nx [aw s]∧nx'=nx + 1:=by
 refine Abs.Fn.of_c2 follows A5 (Nat.le_of_ble_eq_true rfl) ?_
 simp only [b51,cO,cG,cN,cM,cD,cF,cB,aB,aS]
 (have zz:=aI @aA @ax; repeat' (first|refine zW ?_|apply a_n|refine zO ?_|refine vY ?_|refine bxY ?_|refine ak rfl ?_|refine r1Y ?_|fail)) <;> (try clear zz)
 exact ⟨rfl,rfl,rfl⟩
theorem vv {H:Hp} {b:Nat} {x y:Spx} (h:H b=some [aw x,aw y]):aF H [.msl b 2 1 0 2] [ar [x,y]] :=
 ao (og (l:=[aw x,aw y]) h rfl rfl (by
  intro z hz
  simp only [List.mem_cons,List.not_mem_nil,or_false] at hz
  rcases hz with rfl | rfl
  ·exact ⟨rfl,ay _⟩
  ·exact ⟨rfl,ay _⟩)) aa
theorem lI {s:Spx} (h:2 ≤ s.length):(fcs s).length=s.length:=by
 unfold fcs; rw [if_neg (by omega),px]
theorem s6 {s:Spx} {i:Nat} (h:2 ≤ s.length) (hi:i < s.length):(fcs s).getD i default=s.take i ++ s.drop (i + 1):=by
 unfold fcs; rw [if_neg (by omega),tg hi]
theorem oh {y sb:Nat} {s:Spx} {H:Hp} {nx:Nat} (hs:s.length ≤ 1000) (I:List Spx→Hp→Nat→Prop)
    (hp:∀ D H nx,I D H nx→H sb=some [aw s])
    (stab:∀ D H H' nx1 nx',I D H nx1→nx1 ≤ nx'→(∀ i,i < nx1→H' i=H i)→I D H' nx')
    (rnd:∀ D f H nx1,I D H nx1→D.length < (fcs s).length→f=(fcs s).getD D.length default→D=(fcs s).take D.length→Yl Try.prog y [aw f] H nx1 fun r H' nx'=>r=.bool true∧I (D ++ [f]) H' nx')
    (h0:I [] H nx) :
    Abs.Fn Try.prog 78 [.yld y,.ptr sb 1 0] H nx fun _ H' nx'=>I (fcs s) H' nx':=by
 refine Abs.Fn.of_c2 follows B0 (Nat.le_of_ble_eq_true rfl) ?_
 simp only [b78,cO,cG,cN,cM,cD,cF,cB,aB,aS]
 have g1:=hp _ _ _ h0
 (have zz:=aI @g1 (aI @aA (aI @ax @ap)); repeat' (first|refine zW ?_|apply a_n|refine zO ?_|refine vY ?_|fail)) <;> (try clear zz)
 by_cases h2:2 ≤ s.length
 rotate_left
 ·have e:fcs s=[]:=by unfold fcs; rw [if_pos (by omega)]
  rw [e]
  refine ba (X:=Nat) (fun k=>[(0,.yld y),(1,.ptr sb 1 0),(5,.int .i64 s.length),(6,.int .i64 k)]) (fun k H' nx'=>k ≤ s.length∧I [] H' nx') (fun k=>s.length - k) 0 ⟨Nat.zero_le _,h0⟩ ag0 ?_
  rintro k H1 nx1 ⟨h1,hI⟩
  have q1:=hp _ _ _ hI
  by_cases hk:k < s.length
  rotate_left
  ·(have zz:=and_self; repeat' (first|refine zW ?_|apply a_n|apply a_x|refine zO ?_|refine vY ?_|(refine zGY ?_ ?_ <;> (intro _hg; try (exfalso; omega)))|refine ak rfl ?_|fail)) <;> (try clear zz)
   exact hI
  have z:decide ((1:Int) < s.length)=false:=decide_eq_false (by omega)
  (have zz:=aI @q1 (aI @aA (aI @ax (aI @ap @z))); repeat' (first|refine zW ?_|refine zM ?_|apply a_n|refine zO ?_|refine vY ?_|refine gFY ?_|refine cFY ?_|(refine zGY ?_ ?_ <;> (intro _hg; try (exfalso; omega)))|fail)) <;> (try clear zz)
  exact ⟨k + 1,by omega,⟨by omega,hI⟩,ag0⟩
 have z:decide ((1:Int) < s.length)=true:=decide_eq_true (by omega)
 have hfl:=lI h2
 have hfg:=fun {i:Nat} (hi:i < s.length)=>s6 (i:=i) h2 hi
 refine ba (X:=Nat) (fun k=>[(0,.yld y),(1,.ptr sb 1 0),(5,.int .i64 s.length),(6,.int .i64 k)]) (fun k H' nx'=>k ≤ s.length∧I ((fcs s).take k) H' nx') (fun k=>s.length - k) 0 ⟨Nat.zero_le _,h0⟩ ag0 ?_
 rintro k H1 nx1 ⟨h1,hI⟩
 have q1:=hp _ _ _ hI
 by_cases hk:k < s.length
 rotate_left
 ·rw [List.take_of_length_le (by omega)] at hI
  (have zz:=and_self; repeat' (first|refine zW ?_|apply a_n|apply a_x|refine zO ?_|refine vY ?_|(refine zGY ?_ ?_ <;> (intro _hg; try (exfalso; omega)))|refine ak rfl ?_|fail)) <;> (try clear zz)
  exact hI
 have a1:ip 2 (aw s) none (some (.int .i64 (k:Int))) none=some (aw (s.take k)):=pN (by omega)
 have a2:ip 2 (aw s) (some (.int .i64 ((k:Int) + 1))) none none=some (aw (s.drop (k + 1))):=mM (k:=k + 1) (by omega)
 have hc:=uk (s.take k) (s.drop (k + 1)) (by rw [List.length_append,List.length_take,List.length_drop]; omega) (by rw [List.length_append,List.length_take,List.length_drop]; omega)
 have hr:=rnd ((fcs s).take k) ((fcs s).getD k default) (aq H1 nx1 [aw (s.take k),aw (s.drop (k + 1))]) (nx1 + 1) (stab _ _ _ _ _ hI (by omega) fun i hi=>af (by omega)) (by rw [List.length_take]; omega) (by rw [List.length_take,Nat.min_eq_left (by omega)]) (by rw [List.length_take,Nat.min_eq_left (by omega)])
 rw [← bB (by omega),hfg hk] at hr
 (have zz:=aI @q1 (aI @aA (aI @ax (aI @ap (aI @z (aI @a1 @a2))))); repeat' (first|refine zW ?_|apply a_n|refine zO ?_|refine vY ?_|(refine zGY ?_ ?_ <;> (intro _hg; try (exfalso; omega)))|fail)) <;> (try clear zz)
 refine mH sb q1 fun S0 hS1 hsub=>?_
 simp only [List.map_cons,List.map_nil,List.getD_cons_succ,List.getD_cons_zero]
 (have zz:=aI @hS1 (aI @aA (aI @ax (aI @ap (aI @z (aI @a1 @a2))))); repeat' (first|apply a_n|refine zO ?_|refine nvY ?_|apply gr|refine blY ?_|fail)) <;> (try clear zz)
 repeat (refine BS ev0 ?_; skip)
 refine bX ev0 ev0 hc (vv (by rw [ah])) ?_
 (have zz:=and_self; repeat' (first|apply a_n|refine zO ?_|apply gr|fail)) <;> (try clear zz)
 refine pR ev0 ev0 (Yl.mono hr ?_)
 rintro v H3 nx3 ⟨rfl,e1⟩
 (have zz:=and_self; repeat' (first|apply a_n|refine zO ?_|refine vY ?_|refine nvY ?_|refine cFY ?_|fail)) <;> (try clear zz)
 exact ⟨k + 1,by omega,⟨by omega,e1⟩,ag0⟩
end Go.Proofs.Ytfcenbapjhecfaa
namespace Go.Proofs.Ytfcenbapjhecfaa
open Go Go.Abs
open Nat (reduceEqDiff reduceAdd reduceLeDiff)
def dZ:Nat→Spx→List Int
 | 0,_=>[]
 | n + 1,[]=>0 :: 0 :: dZ n []
 | n + 1,v :: l=>v.color :: v.label :: dZ n l
theorem jQ:∀ {n:Nat} {s:Spx},(dZ n s).length=2 * n
 | 0,_=>rfl
 | n + 1,[]=>by show (dZ n []).length + 1 + 1=_; rw [jQ]; omega
 | n + 1,v :: l=>by show (dZ n l).length + 1 + 1=_; rw [jQ]; omega
theorem rL:∀ {n:Nat} {s t:Spx},s.length=t.length→t.length ≤ n→dZ n s=dZ n t→s=t
 | _,[],[],_,_,_=>rfl
 | _,[],w :: m,h,_,_=>absurd h (by simp)
 | _,v :: l,[],h,_,_=>absurd h (by simp)
 | 0,v :: l,w :: m,_,h,_=>absurd h (by simp)
 | n + 1,v :: l,w :: m,hl,hm,e=>by
  obtain ⟨e1,e2⟩:=List.cons.inj e
  obtain ⟨e2,e3⟩:=List.cons.inj e2
  have:=rL (n:=n) (by simpa using hl) (by simpa using hm) e3
  rw [this,i8.2 ⟨e1,e2⟩]
abbrev z16:List AV:=[.int .i64 0,.int .i64 0,.int .i64 0,.int .i64 0,.int .i64 0,.int .i64 0,.int .i64 0,.int .i64 0,.int .i64 0,.int .i64 0,.int .i64 0,.int .i64 0,.int .i64 0,.int .i64 0,.int .i64 0,.int .i64 0]
theorem yS:z16=(dZ 8 []).map (AV.int .i64):=rfl
theorem qs:∀ {n:Nat} {s:Spx},s.length ≤ n→cX s ++ ((dZ n []).map (AV.int .i64)).drop (s.length * 2)=(dZ n s).map (AV.int .i64)
 | n,[],_=>by simp [cX]
 | 0,_ :: _,h=>absurd h (by simp)
 | n + 1,v :: l,h=>by
  have:=qs (n:=n) (s:=l) (by simp at h; omega)
  show [AV.int .i64 v.color,AV.int .i64 v.label] ++ cX l ++ _=AV.int .i64 v.color :: AV.int .i64 v.label :: (dZ n l).map (AV.int .i64)
  rw [← this,List.length_cons,show (l.length + 1) * 2=l.length * 2 + 1 + 1 by omega]
  rfl
def kZ (s:Spx):K16:=⟨dZ 8 s,by rw [jQ]⟩
theorem vJ {s t:Spx} (h:s.length=t.length) (h8:t.length ≤ 8) (e:kZ s=kZ t):s=t:=rL h h8 (congrArg Subtype.val e)
theorem wK {O:List Spx} {f:Spx} {n:Nat} (hn:n ≤ 8) (hO:∀ s ∈ O,s.length=n) (hf:f.length=n):kZ f ∈ O.map kZ ↔ f ∈ O:=by
 rw [List.mem_map]
 exact ⟨fun ⟨s,h1,h2⟩=>by rw [← vJ (by rw [hO s h1,hf]) (by omega) h2]; exact h1,fun h=>⟨f,h,rfl⟩⟩
theorem vW {f:Spx} {n:Nat} (hn:n ≤ 8) (hf:f.length=n):∀ {O:List Spx},(∀ s ∈ O,s.length=n)→(O.map kZ).idxOf (kZ f)=O.idxOf f
 | [],_=>rfl
 | g :: O,hO=>by
  have ih:=vW hn hf (O:=O) fun s hs=>hO s (List.mem_cons_of_mem _ hs)
  have hg:=hO g List.mem_cons_self
  rw [List.map_cons,List.idxOf_cons,List.idxOf_cons,ih]
  have e:(kZ g == kZ f)=(g == f):=by
   rw [Bool.eq_iff_iff,beq_iff_eq,beq_iff_eq]
   exact ⟨fun h=>vJ (by rw [hg,hf]) (by omega) h,fun h=>by rw [h]⟩
  rw [e]
structure BOk (H:Hp) (n:Nat) (c:Spx→Nat) (O:List Spx) (bs:List Nat) (ck:Nat):Prop where
 box:H 0=some [.bmap ((O.map kZ).map eK) (O.map aw) bs ck]
 len:bs.length=O.length
 asc:bs.Pairwise (· < ·)
 below:∀ s ∈ bs,s < ck
 nd:O.Nodup
 all:∀ f ∈ O,f.length=n
 odd:∀ f,f ∈ O ↔ c f % 2=1
theorem BOk.same {H H':Hp} {n:Nat} {c c':Spx→Nat} {O:List Spx} {bs:List Nat} {ck:Nat} (h:BOk H n c O bs ck) (hs:H' 0=H 0) (hc:∀ f,c' f % 2=c f % 2):BOk H' n c' O bs ck :=
 ⟨hs.trans h.box,h.len,h.asc,h.below,h.nd,h.all,fun f=>by rw [hc]; exact h.odd f⟩
theorem BOk.put {H H':Hp} {n:Nat} {c c':Spx→Nat} {O:List Spx} {bs:List Nat} {ck:Nat} {f:Spx} (h:BOk H n c O bs ck) (hf:f ∉ O) (hl:f.length=n) (hH:H' 0=some [.bmap ((O.map kZ).map eK ++ [eK (kZ f)]) (O.map aw ++ [aw f]) (bs ++ [ck]) (ck + 1)]) (hc:∀ g,c' g=c g + if g=f then 1 else 0):BOk H' n c' (O ++ [f]) (bs ++ [ck]) (ck + 1):=by
 refine ⟨by rw [hH]; simp,by rw [List.length_append,List.length_append,h.len]; rfl,?_,fun s hs=>?_,?_,fun g hg=>?_,fun g=>?_⟩
 ·exact List.pairwise_append.2 ⟨h.asc,List.pairwise_singleton _ _,fun a ha b hb=>by rw [List.mem_singleton.1 hb]; exact h.below a ha⟩
 ·rcases List.mem_append.1 hs with q | q
  ·have:=h.below s q; omega
  ·rw [List.mem_singleton.1 q]; omega
 ·exact List.nodup_append.2 ⟨h.nd,by simp,fun a ha b hb e=>by rw [e,List.mem_singleton.1 hb] at ha; exact hf ha⟩
 ·rcases List.mem_append.1 hg with q | q
  ·exact h.all g q
  ·rw [List.mem_singleton.1 q]; exact hl
 ·rw [List.mem_append,List.mem_singleton,h.odd,hc]
  by_cases e:g=f
  ·subst e
   have:¬ c g % 2=1:=fun q=>hf ((h.odd g).2 q)
   rw [if_pos rfl]
   exact ⟨fun _=>by omega,fun _=>.inr rfl⟩
  ·rw [if_neg e]; simp [e]
theorem d4 {α β:Type} {f:α→β}:∀ {l:List α} {i:Nat},(l.map f).eraseIdx i=(l.eraseIdx i).map f
 | [],_=>rfl
 | a :: l,0=>rfl
 | a :: l,i + 1=>by show f a :: (l.map f).eraseIdx i=f a :: (l.eraseIdx i).map f; rw [d4]
theorem BOk.del {H H':Hp} {n:Nat} {c c':Spx→Nat} {O:List Spx} {bs:List Nat} {ck i:Nat} {f:Spx} (h:BOk H n c O bs ck) (hf:f ∈ O) (hi:O.idxOf f=i) (hH:H' 0=some [.bmap (((O.map kZ).map eK).eraseIdx i) ((O.map aw).eraseIdx i) (bs.eraseIdx i) ck]) (hc:∀ g,c' g=c g + if g=f then 1 else 0):BOk H' n c' (O.erase f) (bs.eraseIdx i) ck:=by
 have hil:i < O.length:=by rw [← hi]; exact List.idxOf_lt_length_iff.2 hf
 have he:O.erase f=O.eraseIdx i:=List.erase_eq_eraseIdx_of_idxOf hi
 refine ⟨?_,?_,h.asc.sublist (List.eraseIdx_sublist _ _),fun s hs=>h.below s ((List.eraseIdx_sublist _ _).subset hs),h.nd.erase _,fun g hg=>h.all g (List.mem_of_mem_erase hg),fun g=>?_⟩
 ·rw [hH,he]
  rw [d4,d4,d4]
 ·rw [he,List.length_eraseIdx_of_lt hil,List.length_eraseIdx_of_lt (by rw [h.len]; exact hil),h.len]
 ·rw [h.nd.mem_erase_iff,h.odd,hc]
  by_cases e:g=f
  ·subst e
   have:=(h.odd g).1 hf
   rw [if_pos rfl]
   constructor
   ·exact fun q=>absurd rfl q.1
   ·intro q; omega
  ·rw [if_neg e]; simp [e]
theorem gK {α:Type} [DecidableEq α] {a b:List α} (h:a.Nodup) (hs:∀ x ∈ a,x ∈ b):a.length ≤ b.length:=List.Nodup.length_le_of_subset h hs
theorem uQ {l:List Spx} {s f:Spx}:iT (l ++ [s]) f=iT l f + (a7 s).count f:=by unfold iT; simp
theorem sr {D:List Spx} {f g:Spx} {m:Nat}:m + (D ++ [f]).count g=m + D.count g + if g=f then 1 else 0:=by
 rw [List.count_append,List.count_singleton,Nat.add_assoc]
 congr 2
 by_cases e:g=f
 ·subst e; simp
 ·rw [if_neg e,if_neg]; simp only [beq_iff_eq]; exact fun h=>e h.symm
theorem oE {O:List Spx} {i:Nat} (h:i < O.length):(O.map aw).getD i .undef=aw (O.getD i default):=by simp [List.getD,h]
attribute [local irreducible] aD aj aX aP aH aK az aL aR bd Go.Abs.Fn aO Go.Abs.Pure av aF Yl
theorem wM {n:Nat} {c:Spx→Nat} {O:List Spx} {bs:List Nat} {ck:Nat} {f:Spx} {H:Hp} (hn:n ≤ 8) (h:BOk H n c O bs ck) (hf:f.length=n) :
    bG (.st [.int,.int,.int,.int,.int,.int,.int,.int,.int,.int,.int,.int,.int,.int,.int,.int]) (eK (kZ f)) ((O.map kZ).map eK)=some (if f ∈ O then some (O.idxOf f) else none):=by
 rw [xa,vW hn hf h.all]
 by_cases e:f ∈ O
 ·rw [if_pos e,if_pos ((wK hn h.all hf).2 e)]
 ·rw [if_neg e,if_neg fun q=>e ((wK hn h.all hf).1 q)]
set_option maxHeartbeats 1000000 in
theorem l8 (a:List Spx) (n:Nat) (hn:n ≤ 8) (ha:a.length ≤ 4096) (hv:∀ s ∈ a,bo bv s) (hl:∀ s ∈ a,s.length=n + 1 ∨ s.length < 2) (h8:∀ s ∈ a,s.length ≤ 8):Pure Try.prog 46 [ar a] (ar (cg a)):=by
 refine Pure.of_c2 follows A9 (Nat.le_of_ble_eq_true rfl) ?_
 simp only [b46,cO,cG,cN,cM,cD,cF,cB,aB,aS]
 refine en ?_
 (have zz:=and_self; repeat' (first|apply a_n|refine zO ?_|refine vY ?_|fail)) <;> (try clear zz)
 refine en ?_
 (have zz:=and_self; repeat' (first|apply a_n|refine zO ?_|fail)) <;> (try clear zz)
 refine yJ ?_
 refine pm (cs:=[.nilm]) rfl rfl rfl ?_
 (have zz:=and_self; repeat' (first|apply a_n|refine zO ?_|refine stY ?_|fail)) <;> (try clear zz)
 refine bw (fun T H nx=>T 3=.ptr 1 1 0∧2 ≤ nx∧H 1=some [.mp 0]∧∃ O bs ck,BOk H n (iT a) O bs ck) ?_ ?_
 ·(have zz:=@ae; repeat' (first|refine zW ?_|apply a_n|refine zO ?_|refine vY ?_|fail)) <;> (try clear zz)
  refine ba (X:=Nat) (fun k=>[(3,.ptr 1 1 0),(14,ar a),(15,.int .i64 a.length),(16,.int .i64 k)]) (fun k H nx=>k ≤ a.length∧2 ≤ nx∧H 1=some [.mp 0]∧∃ O bs ck,BOk H n (iT (a.take k)) O bs ck) (fun k=>a.length - k) 0 ⟨Nat.zero_le _,Nat.le_refl _,by rw [ah]; rfl,[],[],0,⟨by rw [af (by omega),af (by omega),ah]; rfl,rfl,List.Pairwise.nil,fun s h=>(by cases h),List.nodup_nil,fun s h=>(by cases h),fun f=>⟨fun h=>(by cases h),fun h=>absurd h (by rw [List.take_zero]; exact (by decide:¬ (0:Nat) % 2=1))⟩⟩⟩ (by (iterate 4 refine And.intro rfl ?_); trivial) ?_
  rintro k H nx ⟨h1,h2,h3,O,bs,ck,h4⟩
  by_cases hk:k < a.length
  rotate_left
  ·rw [List.take_of_length_le (by omega)] at h4
   (have zz:=and_self; repeat' (first|refine zW ?_|apply a_n|apply a_x|refine zO ?_|refine vY ?_|(refine zGY ?_ ?_ <;> (intro _hg; try (exfalso; omega)))|fail)) <;> (try clear zz)
   exact ⟨rfl,h2,h3,O,bs,ck,h4⟩
  have ix:=dp hk
  have hts:=bB hk
  have hvs:=hv _ (aQ hk)
  have hls:=hl _ (aQ hk)
  have h8s:=h8 _ (aQ hk)
  generalize a.getD k default=s at *
  (have zz:=@ix; repeat' (first|refine zW ?_|apply a_n|refine zO ?_|refine vY ?_|(refine zGY ?_ ?_ <;> (intro _hg; try (exfalso; omega)))|fail)) <;> (try clear zz)
  refine aV ev0 ev0 (oC s H nx) ?_
  rintro _ H1 nx1 ⟨rfl,rfl,rfl⟩
  (have zz:=and_self; repeat' (first|refine zW ?_|apply a_n|refine zO ?_|fail)) <;> (try clear zz)
  refine ij (nx + 1) (nx + 2) rfl rfl ev0 (fun c0 cj hy=>?_)
  refine Abs.Fn.mono (oh (nx:=nx + 2) (y:=nx + 1) (sb:=nx) (s:=s) (by omega) (fun D H' nx'=>nx + 2 ≤ nx'∧H' nx=some [aw s]∧H' (nx + 1)=some [c0]∧H' 1=some [.mp 0]∧∃ O bs ck,BOk H' n (fun f=>iT (a.take k) f + D.count f) O bs ck) ?_ ?_ ?_ ?_) ?_
  ·rintro D H' nx' ⟨g1,g2,g3,g4⟩
   exact g2
  ·rintro D H' H'' n1 n2 ⟨g1,g2,g3,g4,O,bs,ck,g5⟩ hle hsm
   exact ⟨by omega,(hsm _ (by omega)).trans g2,(hsm _ (by omega)).trans g3,(hsm _ (by omega)).trans g4,O,bs,ck,g5.same (hsm _ (by omega)) fun _=>rfl⟩
  ·rintro D f H' nx' ⟨g1,g2,g3,g4,O,bs,ck,g5⟩ hlt hfe hDe
   refine hy _ _ _ _ g3 rfl ?_
   clear hy
   have h2s:2 ≤ s.length:=Nat.le_of_not_lt fun h=>by
    have:fcs s=[]:=by unfold fcs; rw [if_pos h]
    rw [this] at hlt; simp at hlt
   have hfl:f.length=n:=by
    rw [hfe,s6 h2s (by rw [lI h2s] at hlt; exact hlt),List.length_append,List.length_take,List.length_drop]
    rw [lI h2s] at hlt
    omega
   clear hfe hDe
   (have zz:=and_self; repeat' (first|apply a_n|refine zO ?_|refine vY ?_|fail)) <;> (try clear zz)
   refine ⟨g3,?_⟩
   have hmf:=wM hn g5 hfl
   have q0:=(bJ (H:=H') (b:=nx + 1) (x:=0) (by omega)).trans g5.box
   have q1:=(bJ (H:=H') (b:=nx + 1) (x:=1) (by omega)).trans g4
   have q2:=(bJ (H:=H') (b:=nx + 1) (x:=nx) (by omega)).trans g2
   generalize bK H' (nx + 1)=H2 at *
   (have zz:=and_self; repeat' (first|refine zW ?_|apply a_n|refine zO ?_|refine alY ?_|fail)) <;> (try clear zz)
   generalize hH3:aq H2 nx' z16=H3
   have p0:H3 0=H2 0:=by rw [← hH3]; exact af (by omega)
   have p1:H3 1=H2 1:=by rw [← hH3]; exact af (by omega)
   have p2:H3 nx=H2 nx:=by rw [← hH3]; exact af (by omega)
   have p3:H3 nx'=some z16:=by rw [← hH3]; exact ah
   clear hH3
   refine yB rfl p3 rfl rfl ?_
   (have zz:=and_self; repeat' (first|apply a_n|refine zO ?_|refine vY ?_|fail)) <;> (try clear zz)
   refine yu (n:=f.length) (H':=aq H3 nx' ((dZ 8 f).map (AV.int .i64))) ?_ ?_
   ·((try simp only [bR,ZA,reduceEqDiff,↓reduceIte,reduceAdd,reduceLeDiff]); (try with_reducible rfl))
    have hnn:dP (aw f)=some f.length:=by unfold aw fg; simp [dP]
    have htr:oq f.length (aw f)=aw f:=by unfold aw fg; simp [oq]; exact List.take_of_length_le (by simp)
    have hmin:min f.length 8=f.length:=Nat.min_eq_left (by omega)
    have hal:dP (.msl nx' 16 2 0 8)=some 8:=rfl
    have hlp:br z16 0 (cX f)=(dZ 8 f).map (AV.int .i64):=by
     rw [← qs (n:=8) (s:=f) (by omega),yS]
     simp only [br,List.take_zero,List.nil_append,Nat.zero_add,dT]
    by_cases hf0:f.length=0
    ·obtain rfl:=List.length_eq_zero_iff.1 hf0
     have e0:(dZ 8 []).map (AV.int .i64)=z16:=rfl
     rw [e0,← t7 p3]
     simp only [kV,hal,hnn,hmin]
     rfl
    ·simp only [kV,hal,hnn,hmin,if_neg hf0,p3,htr,ou]
     rw [if_pos (by refine ⟨?_,?_,?_,?_⟩ <;> first | rfl | trivial | omega | exact fU f),hlp]
   have hl16:((dZ 8 f).map (AV.int .i64)).length=16:=by rw [List.length_map,jQ]
   have ht:((dZ 8 f).map (AV.int .i64)).take 16=(dZ 8 f).map (AV.int .i64):=List.take_of_length_le (by omega)
   have r0:=(af (H:=H3) (b:=nx') (x:=0) (cs:=(dZ 8 f).map (AV.int .i64)) (by omega)).trans (p0.trans q0)
   have r1:=(af (H:=H3) (b:=nx') (x:=1) (cs:=(dZ 8 f).map (AV.int .i64)) (by omega)).trans (p1.trans q1)
   have r2:=(af (H:=H3) (b:=nx') (x:=nx) (cs:=(dZ 8 f).map (AV.int .i64)) (by omega)).trans (p2.trans q2)
   have r3:aq H3 nx' ((dZ 8 f).map (AV.int .i64)) nx'=some ((dZ 8 f).map (AV.int .i64)):=ah
   generalize aq H3 nx' ((dZ 8 f).map (AV.int .i64))=H4 at *
   have hek:eK (kZ f)=.agg ((dZ 8 f).map (AV.int .i64)):=rfl
   have hkf:=tK (kZ f)
   rw [hek] at hmf hkf
   have hcnt:∀ g,iT (a.take k) g + (D ++ [f]).count g=iT (a.take k) g + D.count g + if g=f then 1 else 0:=fun g=>sr
   by_cases hf:f ∈ O
   ·rw [if_pos hf] at hmf
    have hil:O.idxOf f < O.length:=List.idxOf_lt_length_iff.2 hf
    have hgv:mget .esl true (some (O.idxOf f)) (O.map aw)=.tup [aw (O.getD (O.idxOf f) default),.bool true]:=by
     rw [← oE hil]; rfl
    generalize hKK:(dZ 8 f).map (AV.int .i64)=KK at *
    (have zz:=aI @r1 (aI @r3 (aI @hl16 @ht)); repeat' (first|refine zW ?_|apply a_n|refine zO ?_|refine vY ?_|fail)) <;> (try clear zz)
    refine tc ev0 r0 ev0 hkf hmf ?_
    rw [hgv]
    (have zz:=aI @r1 (aI @r3 (aI @hl16 @ht)); repeat' (first|refine zW ?_|apply a_n|refine zO ?_|refine vY ?_|refine cTY ?_|fail)) <;> (try clear zz)
    refine y4 ev0 r0 ev0 hkf hmf ?_
    (have zz:=and_self; repeat' (first|apply a_n|refine zO ?_|fail)) <;> (try clear zz)
    exact ⟨rfl,by omega,by rw [af (by omega),af (by omega)]; exact r2,ah,by rw [af (by omega),af (by omega)]; exact r1,O.erase f,bs.eraseIdx (O.idxOf f),ck,g5.del hf rfl (by rw [af (by omega),ah]; rfl) hcnt⟩
   ·rw [if_neg hf] at hmf
    have hgv:mget .esl true none (O.map aw)=.tup [.esl,.bool false]:=rfl
    generalize hKK:(dZ 8 f).map (AV.int .i64)=KK at *
    (have zz:=aI @r1 (aI @r3 (aI @hl16 @ht)); repeat' (first|refine zW ?_|apply a_n|refine zO ?_|refine vY ?_|fail)) <;> (try clear zz)
    refine tc ev0 r0 ev0 hkf hmf ?_
    rw [hgv]
    (have zz:=aI @r1 (aI @r3 (aI @hl16 @ht)); repeat' (first|refine zW ?_|apply a_n|refine zO ?_|refine vY ?_|refine cFY ?_|fail)) <;> (try clear zz)
    refine x9 ev0 r0 ev0 ev0 hkf hmf ?_
    (have zz:=and_self; repeat' (first|apply a_n|refine zO ?_|fail)) <;> (try clear zz)
    exact ⟨rfl,by omega,by rw [af (by omega),af (by omega)]; exact r2,ah,by rw [af (by omega),af (by omega)]; exact r1,O ++ [f],bs ++ [ck],ck + 1,g5.put hf hfl (by rw [af (by omega),ah,hek]; rfl) hcnt⟩
  ·exact ⟨Nat.le_refl _,by rw [af (by omega),ah],ah,by rw [af (by omega),af (by omega)]; exact h3,O,bs,ck,h4.same (by rw [af (by omega),af (by omega)]) fun f=>by simp⟩
  ·rintro r H' nx' ⟨g1,g2,g3,g4,O,bs,ck,g5⟩
   refine .inl ⟨g3,?_⟩
   (have zz:=and_self; repeat' (first|apply a_n|refine zO ?_|refine vY ?_|fail)) <;> (try clear zz)
   exact ⟨k + 1,by omega,⟨by omega,by omega,by rw [bJ (by omega)]; exact g4,O,bs,ck,g5.same (bJ (by omega)) fun f=>by rw [hts,uQ,jd.count_eq]⟩,ag0⟩
 rintro T H nx ⟨t3,h2,h3,O,bs,ck,h4⟩
 have hO70:O.length ≤ 300000:=by
  have he:=fV hv
  have h5:O.length ≤ (cg a).length:=gK h4.nd fun f hf=>(he.2 f).2 ((h4.odd f).1 hf)
  have:=o0 h8
  omega
 (have zz:=aI @t3 @h3; repeat' (first|refine zW ?_|apply a_n|refine zO ?_|refine vY ?_|fail)) <;> (try clear zz)
 refine xK ev0 h4.box ?_
 (have zz:=and_self; repeat' (first|refine zW ?_|apply a_n|refine zO ?_|fail)) <;> (try clear zz)
 have hbn:bs.Nodup:=List.Pairwise.imp (fun {x y} (h:x < y) e=>by omega) h4.asc
 refine ba (X:=List Nat × List Spx × AV) (fun x=>[(10,x.2.2),(40,.itr nx)]) (fun x H' nx'=>H' nx=some [.biter 0 ck x.1]∧nx < nx'∧BOk H' n (iT a) O bs ck∧x.1.Nodup∧(∀ s ∈ x.1,s ∈ bs)∧x.2.1=x.1.map (fun s=>O.getD (bs.idxOf s) default)∧Row H' 1 x.2.2 (x.2.1.map aw)∧∀ b,bT x.2.2=some b→nx < b∧b < nx') (fun x=>bs.length - x.1.length) ([],[],.esl) ⟨ah,Nat.lt_succ_self _,h4.same (af (by omega)) fun _=>rfl,List.nodup_nil,fun s h=>(by cases h),rfl,Row.nil,fun b h=>(by cases h)⟩ (by (iterate 2 refine And.intro rfl ?_); trivial) ?_
 rintro ⟨seen,D,sv⟩ H1 nx1 ⟨hit,hnx,k4,hsn,hsb,hD,hrow,hbd⟩
 dsimp only at hit hsn hsb hD hrow hbd ⊢
 have hsl:seen.length ≤ bs.length:=gK hsn hsb
 have hDl:D.length=seen.length:=by rw [hD,List.length_map]
 have hbl:=k4.len
 (have zz:=and_self; repeat' (first|refine zW ?_|apply a_n|refine zO ?_|fail)) <;> (try clear zz)
 refine xE ev0 hit k4.box (fun i s hi hns=>?_) (fun hall=>?_)
 ·(have zz:=and_self; repeat' (first|refine zW ?_|apply a_n|refine zO ?_|refine vY ?_|refine cTY ?_|fail)) <;> (try clear zz)
  refine xi (i:=i) (s:=s) ev0 ah (by rw [af (by omega)]; exact k4.box) (by simp) hi ?_
  obtain ⟨hil,his⟩:=List.getElem?_eq_some_iff.1 hi
  have hgx:=oE (O:=O) (i:=i) (by omega)
  have hidx:bs.idxOf s=i:=by
   have h5:=List.idxOf_lt_length_iff.2 (show s ∈ bs by rw [← his]; exact List.getElem_mem hil)
   have h6:bs[bs.idxOf s]=bs[i]:=by rw [List.getElem_idxOf h5,his]
   exact (List.getElem_inj hbn).1 h6
  have hsnd:(seen ++ [s]).Nodup:=List.nodup_append.2 ⟨hsn,by simp,fun x hx y hy e=>by rw [e,List.mem_singleton.1 hy] at hx; exact hns hx⟩
  have hssb:∀ x ∈ seen ++ [s],x ∈ bs:=fun x hx=>by
   rcases List.mem_append.1 hx with q | q
   ·exact hsb x q
   ·rw [List.mem_singleton.1 q,← his]; exact List.getElem_mem hil
  have hsl2:=gK hsnd hssb
  rw [List.length_append,List.length_singleton] at hsl2
  (have zz:=aI @hgx (aI @aA @ax); repeat' (first|apply a_n|refine zO ?_|refine vY ?_|refine blY ?_|fail)) <;> (try clear zz)
  refine dK rfl ev0 (hrow.same fun b hb=>?_) ev0 bC rfl rfl Nat.one_pos (by rw [List.length_map]; omega) (by rw [List.length_map]; omega) ?_
  ·have:=hbd b hb
   rw [af (by omega),af (by omega)]
  rintro s2 H2 nx2 hr2 i1 i2 i3 i4
  have lo:∀ x,x ≤ nx→H2 x=aq H1 nx [.biter 0 ck (seen ++ [s])] x:=fun x hx=>(i3 x (by omega) (fun h=>by have:=hbd x h; omega)).trans (af (by omega))
  (have zz:=and_self; repeat' (first|apply a_n|refine zO ?_|refine vY ?_|fail)) <;> (try clear zz)
  refine ⟨(seen ++ [s],D ++ [O.getD i default],s2),by dsimp only; rw [List.length_append,List.length_singleton]; omega,⟨(lo nx (Nat.le_refl _)).trans ah,by omega,k4.same ((lo 0 (by omega)).trans (af (by omega))) fun _=>rfl,hsnd,hssb,?_,?_,fun b hb=>?_⟩,ag0⟩
  ·dsimp only
   rw [hD,List.map_append,List.map_singleton,hidx]
  ·dsimp only
   rw [List.map_append]; exact hr2
  ·rcases i4 b hb with h | h
   ·have:=hbd b h; omega
   ·omega
 ·have hperm:seen.Perm bs:=(List.perm_ext_iff_of_nodup hsn hbn).2 fun x=>⟨hsb x,hall x⟩
  have hDO:D.Perm O:=by
   rw [hD]
   refine (hperm.map _).trans (List.Perm.of_eq ?_)
   refine List.ext_getElem (by rw [List.length_map]; exact hbl) fun j g1 g2=>?_
   rw [List.length_map] at g1
   have h5:bs.idxOf bs[j]=j:=by
    have h5:=List.idxOf_lt_length_iff.2 (List.getElem_mem g1)
    have h6:bs[bs.idxOf bs[j]]=bs[j]:=List.getElem_idxOf h5
    exact (List.getElem_inj hbn).1 h6
   rw [List.getElem_map,h5]
   simp [List.getD,g2]
  have hDn:D.Nodup:=hDO.nodup_iff.2 k4.nd
  have hDm:∀ s,s ∈ D ↔ s ∈ cg a:=fun s=>by rw [hDO.mem_iff,k4.odd,(fV hv).2]
  have hfin:=xm gS (uU hv)
  have hsort:Abs.Fn Try.prog 73 [sv,.func 40 []] H1 nx1 fun _ H' nx'=>Row H' 1 sv ((cg a).map aw):=by
   generalize hcs:D.map aw=cs at hrow
   cases hrow with
   | nil =>
    have hD0:D=[]:=List.map_eq_nil_iff.1 hcs
    refine Abs.Fn.mono (jA rfl) ?_
    rintro _ _ _ ⟨rfl,rfl⟩
    have:cg a=[]:=by
     rw [List.eq_nil_iff_forall_not_mem]
     intro s h
     have:=(hDm s).2 h
     rw [hD0] at this; cases this
    rw [this]; exact Row.nil
   | box b len cs k1 k2 =>
    obtain rfl:len=D.length:=by rw [← hcs,List.length_map] at k2; omega
    have hb:=hbd b rfl
    subst hcs
    by_cases h0:D.length=0
    ·have hD0:D=[]:=List.length_eq_zero_iff.1 h0
     have he:cg a=[]:=by
      rw [List.eq_nil_iff_forall_not_mem]
      intro s h
      have:=(hDm s).2 h
      rw [hD0] at this; cases this
     have hrw:Row H1 1 (.msl b (D.length * 1) 1 0 D.length) ((cg a).map aw):=by
      have:=Row.box (H:=H1) (sz:=1) b D.length _ k1 (by rw [List.length_map,Nat.mul_one])
      rw [he]; rwa [hD0] at this ⊢
     refine Abs.Fn.mono (jA (by rw [h0]; rfl)) ?_
     rintro _ _ _ ⟨_,e⟩
     rw [e]; exact hrw
    ·have hg:∀ s ∈ D,Shn s:=fun s h=>show s.length ≤ _ by have:=k4.all s (hDO.mem_iff.1 h); omega
     have hsf:=s7 zC (L:=D) (b:=b) (nx:=nx1) (n:=D.length) k1 hb.2 rfl (by omega) hg (by omega)
     rw [Nat.mul_one]
     refine Abs.Fn.mono hsf ?_
     rintro _ H' nx' ⟨L',ps,p1,p2⟩
     have hlen:=p1.length_eq
     have:=lq p1 (by rw [hlen]; exact p2) hDn hDm
     rw [hfin] at this
     rw [← this,← hlen]
     have:=Row.box (H:=H') (sz:=1) b L'.length (L'.map aw) ps.at_ (by simp)
     rwa [Nat.mul_one] at this
  (have zz:=and_self; repeat' (first|refine zW ?_|apply a_n|apply a_x|refine zO ?_|refine vY ?_|refine cFY ?_|fail)) <;> (try clear zz)
  refine aV ev0 ev0 hsort ?_
  rintro r H' nx' hr
  (have zz:=and_self; repeat' (first|refine zW ?_|apply a_n|refine zO ?_|refine vY ?_|refine ak rfl ?_|refine r1Y ?_|fail)) <;> (try clear zz)
  exact eD hr
end Go.Proofs.Ytfcenbapjhecfaa
namespace Go.Proofs.Ytfcenbapjhecfaa
open Go Go.Abs
theorem uj {s f:Spx} (hs:bj s=0) (hf:f ∈ a7 s):bj f=0:=by
 obtain ⟨h1,h2,h3⟩:=eV.1 hf
 obtain ⟨p1,p2,p3,p4⟩:=cz hs
 exact qH ⟨by omega,by omega⟩ (p3.sublist h2) fun v hv=>p4 v (h2.subset hv)
theorem ui {a:List Spx} (ha:∀ s ∈ a,bj s=0):∀ f ∈ cg a,bj f=0:=fun f hf=>by
 obtain ⟨s,h1,h2⟩:=sA (jf ha) hf
 exact uj (ha s h1) h2
theorem wc {a:List Spx} (h:∀ s ∈ a,bj s=0):∀ s ∈ a,s.length ≤ 8:=fun s hs=>(cz (h s hs)).2.1
def nH (a:List Spx):List Spx × Int:=if cC a ≠ 0 then ([],cC a) else if 4096 < (cg a).length then ([],5) else (cg a,0)
def x6 (a:List Spx):Bool × Int:=if cC a ≠ 0 then (false,cC a) else (decide (cg a=[]),0)
attribute [local irreducible] aD aj aX aP aH aK az aL aR bd Go.Abs.Fn aO Go.Abs.Pure av aF Yl
theorem n8 {a:List Spx} (h:cC a=0):Pure Try.prog 46 [ar a] (ar (cg a)):=by
 obtain ⟨h1,h2,h3,h4⟩:=e8 h
 by_cases h0:a=[]
 ·subst h0
  exact l8 [] 0 (by omega) (by simp) (by simp) (by simp) (by simp)
 ·have hm:a.getD 0 default ∈ a:=aQ (List.length_pos_iff.2 h0)
  have h5:=cz (h2 _ hm)
  exact l8 a ((a.getD 0 default).length - 1) (by omega) h1 (jf h2) (fun s hs=>.inl (by rw [h4 s hs]; omega)) (wc h2)
theorem rm {a:List Spx} (h:cC a=0):Shn (cg a)∧∀ s ∈ cg a,s.length ≤ 1000000:=by
 obtain ⟨h1,h2,h3,h4⟩:=e8 h
 have:=o0 (wc h2)
 exact ⟨show _ ≤ _ by omega,rx (ui h2)⟩
theorem tC (a:List Spx) (ha:ShC a):Pure Try.prog 17 [ar a] (.tup [ar (nH a).1,.int .i64 (nH a).2]):=by
 refine Pure.of_c2 follows BH (Nat.le_of_ble_eq_true rfl) ?_
 simp only [b17,cO,cG,cN,cM,cD,cF,cB,aB,aS]
 have f1:=jO a ha
 unfold nH
 by_cases h:cC a=0
 rotate_left
 ·have z:decide (cC a ≠ 0)=true:=decide_eq_true h
  rw [if_pos h]
  (have zz:=@z; repeat' (first|refine zW ?_|apply a_n|apply a_r|refine zO ?_|refine vY ?_|refine cY ?_ (hp:=f1) (hs:=by (first | refine ac ?_ rfl | apply ag); (repeat' (first | exact aa | apply an | apply ai | exact aC _)); first | done | fail)|refine cTY ?_|refine ak rfl ?_|refine r2Y ?_|fail)) <;> (try clear zz)
  exact cA (.eslsl _) rfl
 rw [if_neg (fun q=>q h)]
 have f2:=n8 h
 have f3:=oJ (cg a) (rm h).1 (rm h).2
 have z:decide ((0:Int) ≠ 0)=false:=rfl
 rw [h] at f1
 have hfin:(if 4096 < (cg a).length then (([]:List Spx),(5:Int)) else (cg a,0))=(if 4096 < (cg a).length then [] else cg a,if 4096 < (cg a).length then 5 else 0):=by
  split <;> rfl
 rw [hfin]
 (have zz:=@z; repeat' (first|refine zW ?_|apply a_n|refine zO ?_|refine vY ?_|refine cY ?_ (hp:=by first | exact f1 | exact f2 | exact f3) (hs:=by (first | refine ac ?_ rfl | apply ag); (repeat' (first | exact aa | apply an | apply ai | exact aC _)); first | done | fail)|refine cFY ?_|refine ak rfl ?_|refine r2Y ?_|fail)) <;> (try clear zz)
 exact cA (aC _).snap rfl
theorem zH (a:List Spx) (ha:ShC a):Pure Try.prog 19 [ar a] (.tup [.bool (x6 a).1,.int .i64 (x6 a).2]):=by
 refine Pure.of_c2 follows Bz (Nat.le_of_ble_eq_true rfl) ?_
 simp only [b19,cO,cG,cN,cM,cD,cF,cB,aB,aS]
 have f1:=jO a ha
 unfold x6
 by_cases h:cC a=0
 rotate_left
 ·have z:decide (cC a ≠ 0)=true:=decide_eq_true h
  rw [if_pos h]
  (have zz:=@z; repeat' (first|refine zW ?_|apply a_n|apply a_r|refine zO ?_|refine vY ?_|refine cY ?_ (hp:=f1) (hs:=by (first | refine ac ?_ rfl | apply ag); (repeat' (first | exact aa | apply an | apply ai | exact aC _)); first | done | fail)|refine cTY ?_|refine ak rfl ?_|refine r2Y ?_|fail)) <;> (try clear zz)
  exact wj rfl rfl
 rw [if_neg (fun q=>q h)]
 have f2:=n8 h
 have z:decide ((0:Int) ≠ 0)=false:=rfl
 have z2:decide ((((cg a).length:Nat):Int)=0)=decide (cg a=[]):=decide_eq_decide.2 (by rw [← List.length_eq_zero_iff]; omega)
 rw [h] at f1
 (have zz:=aI @z (aI @z2 @ae); repeat' (first|refine zW ?_|apply a_n|refine zO ?_|refine vY ?_|refine cY ?_ (hp:=by first | exact f1 | exact f2) (hs:=by (first | refine ac ?_ rfl | apply ag); (repeat' (first | exact aa | apply an | apply ai | exact aC _)); first | done | fail)|refine cFY ?_|refine ak rfl ?_|refine r2Y ?_|fail)) <;> (try clear zz)
 exact wj rfl rfl
end Go.Proofs.Ytfcenbapjhecfaa
namespace Go.Proofs.Ytfcenbapjhecfaa
open Go Go.Abs
def on3 (b1:Nat) (c1:List AV) (b2:Nat) (c2:List AV) (b3:Nat) (c3:List AV):Hp:=fun x=>if x=b1 then some c1 else if x=b2 then some c2 else if x=b3 then some c3 else none
theorem zp {P:Program} {T:Tm} {H:Hp} {nx:Nat} (b1 b2 b3:Nat) {c1 c2 c3:List AV} {K:CP} {m:Nat} {l:List Op2} {C:List (Nat × Nat)} (h1:H b1=some c1) (h2:H b2=some c2) (h3:H b3=some c3) (n1:b2 ≠ b1) (n2:b3 ≠ b1) (n3:b3 ≠ b2) (k:∀ S:Hp,S b1=some c1→S b2=some c2→S b3=some c3→(∀ H':Hp,H' b1=some c1→H' b2=some c2→H' b3=some c3→Sub S H')→a6 P S (C.map fun k=>(l.getD k.1 ⟨none,none,.dead⟩,k.2)) T H nx fun T H nx=>K .normal T H nx):aD P (.mixS m l C) T H nx K:=by
 have hsub:∀ H':Hp,H' b1=some c1→H' b2=some c2→H' b3=some c3→Sub (on3 b1 c1 b2 c2 b3 c3) H':=fun H' a b c x cs h=>by
  unfold on3 at h
  split at h
  ·rename_i e; rw [e,a]; exact h
  split at h
  ·rename_i e; rw [e,b]; exact h
  split at h
  ·rename_i e; rw [e,c]; exact h
  ·cases h
 refine pE (on3 b1 c1 b2 c2 b3 c3) rfl (hsub H h1 h2 h3) (k _ ?_ ?_ ?_ hsub)
 ·unfold on3; rw [if_pos rfl]
 ·unfold on3; rw [if_neg n1,if_pos rfl]
 ·unfold on3; rw [if_neg n2,if_neg n3,if_pos rfl]
theorem pS {α:Type} {p q:Prop} [Decidable p] [Decidable q] (h:p ↔ q) {a b:α}:(if p then a else b)=if q then a else b:=by
 by_cases hq:q
 ·rw [if_pos hq,if_pos (h.2 hq)]
 ·rw [if_neg hq,if_neg fun x=>hq (h.1 x)]
def vA (c:List Spx) (d:Int):List Spx × Int:=if d < 0 then ([],0) else dS c (d + 1)
def b0 (c:List Spx) (d:Int):List Spx:=if d ≤ 0 then [] else ir c d.toNat
def kS (c:List Spx) (d:Int):(Int × List (List Int)) × Int:=if be c ≠ 0 then ((0,[]),be c) else if d < 0 ∨ 8 ≤ d then ((0,[]),2) else ((((b0 c (d + 1)).length:Nat),cE (b0 c (d + 1)) (b0 c d)),0)
theorem x7 {c:List Spx} {d:Int} (hc:be c=0) (h1:-1 ≤ d) (h2:d < 8):vA c d=(b0 c (d + 1),0):=by
 unfold vA b0 dS
 by_cases h:d < 0
 ·rw [if_pos h,if_pos (by omega)]
 ·rw [if_neg h,if_neg (fun q=>q hc),if_neg (by omega),if_neg (by omega)]
theorem im {c:List Spx} {d:Int}:bo aM (b0 c d):=by
 unfold b0; split
 ·exact bo.nil
 ·exact v8
theorem eP {c:List Spx} {d:Int} (hc:c.length ≤ 50) (h:be c=0):(b0 c d).length ≤ 3500:=by
 unfold b0; split
 ·exact Nat.zero_le _
 ·exact vw hc (wc (fT h).2.1)
theorem hU {c:List Spx} {d:Int} {s:Spx}:s ∈ b0 c d ↔ 0 < d∧s.length=d.toNat∧∃ t ∈ c,s.Sublist t:=by
 unfold b0; split
 ·exact ⟨fun h=>(by cases h),fun h=>absurd h.1 (by omega)⟩
 ·rw [vE]
  constructor
  ·rintro ⟨t,t1,t2⟩
   exact ⟨by omega,(cr.1 t2).2,t,t1,(cr.1 t2).1⟩
  ·rintro ⟨_,h1,t,t1,t2⟩
   exact ⟨t,t1,cr.2 ⟨t2,h1⟩⟩
theorem ff {c:List Spx} {d:Int} (h:be c=0):∀ s ∈ b0 c d,bj s=0:=fun s hs=>by
 obtain ⟨h1,h2,t,t1,t2⟩:=hU.1 hs
 obtain ⟨p1,p2,p3,p4⟩:=cz ((fT h).2.1 t t1)
 have:=t2.length_le
 exact qH ⟨by omega,by omega⟩ (p3.sublist t2) fun v hv=>p4 v (t2.subset hv)
theorem mL {c:List Spx} {d:Int} {s f:Spx} (hs:s ∈ b0 c (d + 1)) (hf:f ∈ a7 s):f ∈ b0 c d:=by
 obtain ⟨h1,h2,t,t1,t2⟩:=hU.1 hs
 obtain ⟨g1,g2,g3⟩:=eV.1 hf
 exact hU.2 ⟨by omega,by omega,t,t1,g2.trans t2⟩
attribute [local irreducible] aD aj aX aP aH aK az aL aR bd Go.Abs.Fn aO Go.Abs.Pure av aF Yl
theorem qY (l:List Spx) (v:Spx) (hl:Shn l) (hs:∀ c ∈ l,Shn c) (hv:Shn v) (ha:bo aM l):∃ b:Nat,Pure Try.prog 52 [ar l,aw v] (.tup [.int .i64 b,.bool (decide (v ∈ l))])∧(v ∈ l→b < l.length∧l.getD b default=v):=by
 obtain ⟨b,hb,h1,h2⟩:=mX (fun i=>aM (l.getD i default) v) l.length (fun i j hij hj h=>gS.trans (ce ha hij hj) h)
 have hc:=r6 l v hl hs hv hb h1 h2
 have he:(decide (b < l.length) && decide (aM (l.getD b default) v=0))=decide (v ∈ l)∧(v ∈ l→b < l.length∧l.getD b default=v):=by
  by_cases hm:v ∈ l
  ·obtain ⟨i,hi,e⟩:=List.getElem_of_mem hm
   have e':l.getD i default=v:=by simp [List.getD,hi,e]
   have hbi:b=i:=by
    rcases Nat.lt_trichotomy b i with h | h | h
    ·have h3:=h2 b (Nat.le_refl _) (by omega)
     have h4:=ce ha h hi
     rw [e'] at h4; omega
    ·exact h
    ·have h3:=h1 i h
     rw [e',de] at h3; omega
   subst hbi
   rw [decide_eq_true hi,decide_eq_true hm,e',decide_eq_true (de v)]
   exact ⟨rfl,fun _=>⟨hi,rfl⟩⟩
  ·rw [decide_eq_false hm]
   refine ⟨?_,fun h=>absurd h hm⟩
   by_cases hlt:b < l.length
   ·rw [decide_eq_true hlt,Bool.true_and,decide_eq_false]
    intro h
    exact hm (by rw [← lP h]; exact aQ hlt)
   ·rw [decide_eq_false hlt,Bool.false_and]
 rw [he.1] at hc
 refine ⟨b,?_,he.2⟩
 refine Pure.of_c2 follows Cc (Nat.le_of_ble_eq_true rfl) ?_
 simp only [b52,cO,cG,cN,cM,cD,cF,cB,aB,aS]
 (have zz:=aI @aA (aI @ax (aI @au @am)); repeat' (first|refine zW ?_|apply a_n|refine zO ?_|refine vZ ?_|refine cZ ?_ (hp:=hc) (hs:=by (first | refine ac ?_ rfl | apply ag); (repeat' (first | exact aa | apply an | apply ai | exact aC _ | exact ay _ | exact Dat.func DatL.nil)); first | done | fail)|refine ak rfl ?_|refine r2Z ?_|fail)) <;> (try clear zz)
 exact e7 (ao (.int _ _) (ao (.bool _) aa))
theorem yh (c:List Spx) (d:Int) (hd:d ≤ 1000) (hc:c.length ≤ 50) (hs:∀ s ∈ c,Shn s):Pure Try.prog 50 [fc c,.int .i64 d] (.tup [ar (vA c d).1,.int .i64 (vA c d).2]):=by
 refine Pure.of_c2 follows BG (Nat.le_of_ble_eq_true rfl) ?_
 simp only [b50,cO,cG,cN,cM,cD,cF,cB,aB,aS]
 unfold vA
 by_cases h:d < 0
 ·have z:decide (d < 0)=true:=decide_eq_true h
  rw [if_pos h]
  (have zz:=aI @z (aI @au @am); repeat' (first|refine zW ?_|apply a_n|apply a_r|refine zO ?_|refine vY ?_|refine bxY ?_|refine cTY ?_|refine ak rfl ?_|refine r2Y ?_|fail)) <;> (try clear zz)
  exact cA (.eslsl _) rfl
 ·have z:decide (d < 0)=false:=decide_eq_false h
  rw [if_neg h]
  have hS:=jr c (d + 1) hc hs
  (have zz:=aI @z (aI @au @am); repeat' (first|refine zW ?_|apply a_n|refine zO ?_|refine vY ?_|refine cY ?_ (hp:=hS) (hs:=by (first | refine ac ?_ rfl | apply ag); (repeat' (first | exact aa | apply an | apply ai | exact bA _)); first | done | fail)|refine bxY ?_|refine cFY ?_|refine ak rfl ?_|refine r2Y ?_|fail)) <;> (try clear zz)
  exact cA (aC _).snap rfl
set_option maxHeartbeats 2000000 in
theorem p6 (c:List Spx) (d:Int) (hc:c.length ≤ 50) (hs:∀ s ∈ c,Shn s):Pure Try.prog 22 [fc c,.int .i64 d] (.tup [fe (kS c d).1.1 (kS c d).1.2,.int .i64 (kS c d).2]):=by
 refine Pure.of_c2 follows BL (Nat.le_of_ble_eq_true rfl) ?_
 simp only [b22,cO,cG,cN,cM,cD,cF,cB,aB,aS]
 have hcc:=nA c (show _ ≤ _ by omega) hs
 unfold kS
 by_cases he:be c=0
 rotate_left
 ·rw [if_pos he]
  have z:decide (be c ≠ 0)=true:=decide_eq_true he
  (have zz:=aI @au (aI @am @z); repeat' (first|refine zW ?_|apply a_n|apply a_r|refine zO ?_|refine vY ?_|refine cY ?_ (hp:=hcc) (hs:=by (first | refine ac ?_ rfl | apply ag); (repeat' (first | exact aa | apply an | apply ai | exact bA _)); first | done | fail)|refine alY ?_|refine bxY ?_|refine stY ?_|refine cTY ?_|refine ak rfl ?_|refine r2Y ?_|fail)) <;> (try clear zz)
  exact jP (.eslsl _) rfl
 rw [if_neg (fun h=>h he)]
 rw [he] at hcc
 have z0:decide ((0:Int) ≠ 0)=false:=rfl
 by_cases hd:d < 0 ∨ 8 ≤ d
 ·rw [if_pos hd]
  (have zz:=aI @au (aI @am @z0); repeat' (first|refine zW ?_|apply a_n|apply a_r|refine zO ?_|refine vY ?_|refine cY ?_ (hp:=hcc) (hs:=by (first | refine ac ?_ rfl | apply ag); (repeat' (first | exact aa | apply an | apply ai | exact bA _)); first | done | fail)|refine alY ?_|refine bxY ?_|refine stY ?_|refine gTY ?_|refine gFY ?_|refine cTY ?_|refine cFY ?_|(refine zGY ?_ ?_ <;> (intro _hg; try (exfalso; omega)))|refine ak rfl ?_|refine r2Y ?_|fail)) <;> (try clear zz)
  all_goals first | exact jP (.eslsl _) rfl | (exfalso; omega)
 rw [if_neg hd]
 have hX:=yh c d (by omega) hc hs
 have hY:=yh c (d - 1) (by omega) hc hs
 rw [x7 he (by omega) (by omega)] at hX hY
 rw [show d - 1 + 1=d by omega] at hY
 have hXl:=eP (d:=d + 1) hc he
 have hYl:=eP (d:=d) hc he
 have hXm:=ff (d:=d + 1) he
 have hYm:=my (ff (d:=d) he)
 have hYa:=im (c:=c) (d:=d)
 generalize b0 c (d + 1)=X at *
 generalize b0 c d=Y at *
 have z1:decide (d < 0)=false:=decide_eq_false (by omega)
 have z2:decide (8 ≤ d)=false:=decide_eq_false (by omega)
 have hzc:aY (AV.agg [AV.esl]) Y.length=List.replicate Y.length .esl:=by simp [aY,AV.cells]
 (have zz:=aI @au (aI @am (aI @ae (aI @z0 (aI @z1 @z2)))); repeat' (first|refine zW ?_|apply a_n|refine zO ?_|refine vY ?_|refine cY ?_ (hp:=by first | exact hcc | exact hX | exact hY) (hs:=by (first | refine ac ?_ rfl | apply ag); (repeat' (first | exact aa | apply an | apply ai | exact bA _)); first | done | fail)|refine alY ?_|refine bxY ?_|refine stY ?_|refine gTY ?_|refine cFY ?_|fail)) <;> (try clear zz)
 refine sP (k1:=.i64) (k2:=.i64) (n:=Y.length) (m:=Y.length) rfl ev0 ev0 (by omega) (Int.le_refl _) (by omega) (by omega) ?_
 rw [Int.toNat_natCast,hzc,Nat.mul_one]
 (have zz:=@ae; repeat' (first|refine zW ?_|apply a_n|refine zO ?_|refine vY ?_|refine alY ?_|refine stY ?_|fail)) <;> (try clear zz)
 refine ba (X:=Nat × List AV) (fun x=>[(4,.ptr 1 2 0),(9,.ptr 2 1 0),(10,.ptr 4 2 0),(56,ar X),(57,.int .i64 X.length),(58,.int .i64 x.1)]) (fun x H' nx'=>x.1 ≤ X.length∧5 ≤ nx'∧H' 1=some [.int .i64 0,.esl]∧H' 2=some [ar Y]∧H' 4=some [.int .i64 X.length,.msl 3 Y.length 1 0 Y.length]∧MatOk H' 3 5 nx' Y.length (e5 X Y x.1) x.2) (fun x=>X.length - x.1) (0,List.replicate Y.length .esl) ⟨Nat.zero_le _,Nat.le_refl _,by (repeat rw [af (by omega)]); rw [ah],by (repeat rw [af (by omega)]); rw [ah]; rfl,by rw [ah]; rfl,MatOk.new (by (repeat rw [af (by omega)]); rw [ah]) (fun j _=>rfl)⟩ (by (iterate 6 refine And.intro rfl ?_); trivial) ?_
 rintro ⟨k,vs⟩ H nx ⟨h1,h2,g1,g2,g4,hmat⟩
 dsimp only at h1 h2 g1 g2 g4 hmat ⊢
 by_cases hk:k < X.length
 rotate_left
 ·obtain rfl:k=X.length:=by omega
  have hst:Snap (aq H 1 [.int .i64 X.length,.msl 3 Y.length 1 0 Y.length]) (.msl 3 Y.length 1 0 Y.length) (bi (cE X Y)):=(hmat.same (hi':=nx) (G:=e5 X Y X.length) (af (by omega)) (fun x x1 x2 x3=>af (by omega)) (Nat.le_refl _) (fun j _=>rfl)).snap
  (have zz:=aI @g4 @g1; repeat' (first|refine zW ?_|apply a_n|apply a_x|refine zO ?_|refine vY ?_|refine stY ?_|(refine zGY ?_ ?_ <;> (intro _hg; try (exfalso; omega)))|refine ak rfl ?_|refine r2Y ?_|fail)) <;> (try clear zz)
  exact jP hst rfl
 have ix:=dp hk
 have hsim:=hXm _ (aQ hk)
 have hF:∀ i,e5 X Y (k + 1) i=e5 X Y k i ++ if Y.getD i default ∈ a7 (X.getD k default) then [k] else []:=fun i=>uw
 generalize X.getD k default=s at *
 obtain ⟨p1,p2,p3,p4⟩:=cz hsim
 (have zz:=@ix; repeat' (first|refine zW ?_|apply a_n|refine zO ?_|refine vY ?_|refine alY ?_|refine stY ?_|(refine zGY ?_ ?_ <;> (intro _hg; try (exfalso; omega)))|fail)) <;> (try clear zz)
 refine aV ev0 ev0 (oC s _ _) ?_
 rintro _ H1 nx1 ⟨rfl,rfl,rfl⟩
 (have zz:=and_self; repeat' (first|refine zW ?_|apply a_n|refine zO ?_|fail)) <;> (try clear zz)
 refine ij (nx + 2) (nx + 3) rfl rfl ev0 (fun c0 cj hy=>?_)
 refine Abs.Fn.mono (oh (nx:=nx + 3) (y:=nx + 2) (sb:=nx + 1) (s:=s) (by omega) (fun D H' nx'=>nx + 3 ≤ nx'∧H' (nx + 1)=some [aw s]∧H' (nx + 2)=some [c0]∧H' nx=some [.int .i64 (k:Int)]∧H' 1=some [.int .i64 0,.esl]∧H' 2=some [ar Y]∧H' 4=some [.int .i64 X.length,.msl 3 Y.length 1 0 Y.length]∧∃ vs,MatOk H' 3 5 nx' Y.length (fun i=>e5 X Y k i ++ if Y.getD i default ∈ D then [k] else []) vs∧∀ j B,j < Y.length→bT (vs.getD j .undef)=some B→B < nx ∨ nx + 3 ≤ B) ?_ ?_ ?_ ?_) ?_
 ·rintro D H' nx' ⟨j1,j2,_⟩
  exact j2
 ·rintro D H' H'' n1 n2 ⟨j1,j2,j3,j4,j5,j6,j7,vs,j8,j9⟩ hle hsm
  exact ⟨by omega,(hsm _ (by omega)).trans j2,(hsm _ (by omega)).trans j3,(hsm _ (by omega)).trans j4,(hsm _ (by omega)).trans j5,(hsm _ (by omega)).trans j6,(hsm _ (by omega)).trans j7,vs,j8.same (hsm _ (by omega)) (fun x x1 x2 x3=>hsm x x2) hle (fun _ _=>rfl),j9⟩
 ·rintro D f H' nx' ⟨j1,j2,j3,j4,j5,j6,j7,vs,j8,j9⟩ hlt hfe hDe
  refine hy _ _ _ _ j3 rfl ?_
  clear hy
  have hfm:f ∈ fcs s:=by rw [hfe]; exact aQ hlt
  have hfD:f ∉ D:=fun h=>by
   rw [hDe] at h
   have hnd:=uZ p3
   have e:=bB hlt
   have h5:=(List.nodup_append.1 (by rw [← e]; exact hnd.sublist (List.take_sublist _ _):((fcs s).take D.length ++ [(fcs s).getD D.length default]).Nodup)).2.2 _ h _ (List.mem_singleton.2 rfl)
   exact h5 hfe
  have hfs:=eV.1 (tP.1 hfm)
  have hfn:Shn f:=by show _ ≤ _; omega
  clear hfe hDe hlt hfm
  (have zz:=and_self; repeat' (first|apply a_n|refine zO ?_|refine vY ?_|fail)) <;> (try clear zz)
  refine ⟨j3,?_⟩
  have hd:∀ x,x ≠ nx + 2→bK H' (nx + 2) x=H' x:=fun x hx=>bJ hx
  generalize bK H' (nx + 2)=H2 at *
  have q2:=(hd 2 (by omega)).trans j6
  have q3:=(hd 3 (by omega)).trans j8.box
  have q4:=(hd 4 (by omega)).trans j7
  have qk:=(hd nx (by omega)).trans j4
  obtain ⟨p,hpl,hpm⟩:=qY Y f (show _ ≤ _ by omega) hYm hfn hYa
  by_cases hin:f ∈ Y
  rotate_left
  ·rw [decide_eq_false hin] at hpl
   (have zz:=aI @q2 (aI @au @am); repeat' (first|refine zW ?_|apply a_n|refine zO ?_|refine vY ?_|refine cY ?_ (hp:=hpl) (hs:=by (first | refine ac ?_ rfl | apply ag); (repeat' (first | exact aa | apply an | apply ai | exact aC _ | exact ay _)); first | done | fail)|refine cFY ?_|fail)) <;> (try clear zz)
   refine ⟨rfl,j1,(af (by omega)).trans ((hd _ (by omega)).trans j2),ah,(af (by omega)).trans qk,(af (by omega)).trans ((hd _ (by omega)).trans j5),(af (by omega)).trans q2,(af (by omega)).trans q4,vs,j8.same ((af (by omega)).trans (hd _ (by omega))) (fun x x1 x2 x3=>?_) (Nat.le_refl _) (fun j hj=>?_),j9⟩
   ·by_cases e:x=nx + 2
    ·rw [e,ah,j3]
    ·rw [af e,hd x e]
   ·have hne:Y.getD j default ≠ f:=fun e=>hin (by rw [← e]; exact aQ hj)
    congr 1
    exact pS (by rw [List.mem_append,List.mem_singleton]; exact ⟨fun h=>h.resolve_right hne,.inl⟩)
  rw [decide_eq_true hin] at hpl
  obtain ⟨pl1,pl2⟩:=hpm hin
  have hFD:e5 X Y k p ++ (if Y.getD p default ∈ D then [k] else [])=e5 X Y k p:=by rw [pl2,if_neg hfD,List.append_nil]
  have hrow:Row H2 1 (vs.getD p .undef) ((e5 X Y k p).map rX):=by
   have:=j8.row p pl1
   rw [hFD] at this
   exact this.same fun b hb=>hd b (by have:=j9 p b pl1 hb; omega)
  have hvs:vs[p]?=some (vs.getD p .undef):=by
   have:=j8.len
   simp [List.getD,show p < vs.length by omega]
  have hlen:=j8.len
  have hb3:∀ b,bT (vs.getD p .undef)=some b→5 ≤ b∧b < nx'∧b ≠ 3∧(b < nx ∨ nx + 3 ≤ b):=fun b hb=>by
   have h5:=j8.bnd p b pl1 hb
   have h6:=j9 p b pl1 hb
   exact ⟨h5.1,h5.2.1,h5.2.2,h6⟩
  generalize hrv:vs.getD p .undef=rv at *
  (have zz:=aI @q2 (aI @au @am); repeat' (first|refine zW ?_|apply a_n|refine zO ?_|refine vY ?_|refine cY ?_ (hp:=hpl) (hs:=by (first | refine ac ?_ rfl | apply ag); (repeat' (first | exact aa | apply an | apply ai | exact aC _ | exact ay _)); first | done | fail)|refine cTY ?_|fail)) <;> (try clear zz)
  refine zp 4 3 nx q4 q3 qk (by omega) (by omega) (by omega) fun S0 hS1 hS2 hS3 hsub=>?_
  have hFl:=qi (X:=X) (Y:=Y) (n:=k) (i:=p)
  (have zz:=aI @hS1 (aI @hS2 (aI @hS3 (aI @hvs @hlen))); repeat' (first|apply a_n|refine zO ?_|refine nvY ?_|fail)) <;> (try clear zz)
  refine fw ?_
  (have zz:=and_self; repeat' (first|apply a_n|refine zO ?_|refine blY ?_|fail)) <;> (try clear zz)
  refine ⟨hsub _ (by rw [af (by omega)]; exact q4) (by rw [af (by omega)]; exact q3) (by rw [af (by omega)]; exact qk),?_⟩
  refine fw ?_
  refine dK rfl ev0 (hrow.same fun b hb=>?_) ev0 bC rfl rfl Nat.one_pos (by rw [List.length_map]; omega) (by rw [List.length_map]; omega) ?_
  ·have:=hb3 b hb; rw [af (by omega)]
  rintro s2 H4 nx4 hr2 i1 i2 i3 i4
  have lo:∀ x,x < nx'→bT rv ≠ some x→H4 x=H2 x:=fun x x1 x2=>(i3 x (by omega) x2).trans (af (by omega))
  have l3:H4 3=H2 3:=lo 3 (by omega) (fun h=>by have:=hb3 _ h; omega)
  have l4:H4 4=H2 4:=lo 4 (by omega) (fun h=>by have:=hb3 _ h; omega)
  have lk:H4 nx=H2 nx:=lo nx (by omega) (fun h=>by have:=hb3 _ h; omega)
  have lo2:∀ x,x < nx + 3→5 ≤ x→nx ≤ x→H4 x=H2 x:=fun x x1 x2 x3=>lo x (by omega) (fun h=>by have:=hb3 _ h; omega)
  have lo5:∀ x,x < 5→H4 x=H2 x:=fun x x1=>lo x (by omega) (fun h=>by have:=hb3 _ h; omega)
  obtain ⟨o1,o2⟩:=hr2.one
  have m3:=l3.trans q3
  refine lg ⟨hsub _ (l4.trans q4) m3 (lk.trans qk),?_⟩
  have hlp:br vs p [s2]=vs.set p s2:=by
   simp only [br,List.length_cons,List.length_nil,Nat.zero_add]
   rw [List.set_eq_take_append_cons_drop,if_pos (by omega)]; simp
  (have zz:=aI @m3 (aI @o1 (aI @o2 (aI @hlen @hlp))); repeat' (first|apply a_n|refine zO ?_|refine nvY ?_|apply gr|refine stY ?_|fail)) <;> (try clear zz)
  have hB2:∀ b,bT s2=some b→(bT rv=some b ∨ nx' ≤ b)∧b < nx4:=fun b hb=>by
   rcases i4 b hb with h | h
   ·exact ⟨.inl h,by have:=hb3 b h; omega⟩
   ·exact ⟨.inr (by omega),by omega⟩
  have hwd:∀ x,x ≠ 3→x ≠ nx + 2→aq (aq H4 3 (vs.set p s2)) (nx + 2) [c0] x=H4 x:=fun x x1 x2=>by rw [af x2,af x1]
  rw [hlp]
  refine ⟨rfl,by omega,?_,ah,?_,?_,?_,?_,vs.set p s2,?_,?_⟩
  ·rw [hwd _ (by omega) (by omega),lo2 _ (by omega) (by omega) (by omega),hd _ (by omega)]; exact j2
  ·rw [hwd _ (by omega) (by omega),lk]; exact qk
  ·rw [hwd _ (by omega) (by omega),lo5 _ (by omega),hd _ (by omega)]; exact j5
  ·rw [hwd _ (by omega) (by omega),lo5 _ (by omega)]; exact q2
  ·rw [hwd _ (by omega) (by omega),l4]; exact q4
  ·refine j8.put (sv:=s2) (x:=k) (i:=p) pl1 (fun j hj=>?_) ?_ (fun b hb=>?_) (by rw [af (by omega),ah]) (fun x x1 x2 x3 x4=>?_) (by omega) (by omega)
   ·by_cases e:j=p
    ·subst e
     rw [if_pos rfl,pl2,if_neg hfD,if_pos (List.mem_append_right _ (List.mem_singleton.2 rfl)),List.append_nil]
    ·rw [if_neg e]
     have hne:Y.getD j default ≠ f:=fun h=>e (by
      rcases Nat.lt_trichotomy j p with h' | h' | h'
      ·have:=ce hYa h' pl1
       rw [h,pl2,de] at this; omega
      ·exact h'
      ·have:=ce hYa h' hj
       rw [h,pl2,de] at this; omega)
     congr 1
     exact pS (by rw [List.mem_append,List.mem_singleton]; exact ⟨fun h=>h.resolve_right hne,.inl⟩)
   ·rw [hFD,List.map_append]
    refine hr2.same fun b hb=>hwd b ?_ ?_
    ·have:=hB2 b hb
     rcases this.1 with h | h
     ·have:=hb3 b h; omega
     ·omega
    ·have:=hB2 b hb
     rcases this.1 with h | h
     ·have:=hb3 b h; omega
     ·omega
   ·rw [hrv]
    have:=hB2 b hb
    rcases this.1 with h | h
    ·exact .inl h
    ·exact .inr ⟨h,this.2,by omega⟩
   ·rw [hrv] at x4
    by_cases e:x=nx + 2
    ·rw [e,ah,j3]
    ·rw [hwd x x3 e,lo x x2 x4,hd x e]
  ·intro j B hj hB
   rw [kI (by omega)] at hB
   by_cases e:p=j
   ·rw [if_pos e] at hB
    have:=hB2 B hB
    rcases this.1 with h | h
    ·have:=hb3 B h; omega
    ·omega
   ·rw [if_neg e] at hB
    exact j9 j B hj hB
 ·have hlk:br [AV.int .i64 0] 0 [.int .i64 (k:Int)]=[.int .i64 (k:Int)]:=rfl
  have hw:∀ x,x ≠ nx→x ≠ nx + 1→x ≠ nx + 2→aq (aq (aq (aq H nx [.int .i64 0]) nx (br [.int .i64 0] 0 [.int .i64 (k:Int)])) (nx + 1) [aw s]) (nx + 2) [c0] x=H x:=fun x x1 x2 x3=>by rw [af x3,af x2,af x1,af x1]
  refine ⟨Nat.le_refl _,by rw [af (by omega),ah],ah,by rw [af (by omega),af (by omega),ah]; rfl,(hw _ (by omega) (by omega) (by omega)).trans g1,(hw _ (by omega) (by omega) (by omega)).trans g2,(hw _ (by omega) (by omega) (by omega)).trans g4,vs,hmat.same (hw _ (by omega) (by omega) (by omega)) (fun x x1 x2 x3=>hw x (by omega) (by omega) (by omega)) (by omega) (fun j _=>by simp),fun j B hj hB=>by have:=hmat.bnd j B hj hB; omega⟩
 ·rintro r H' nx' ⟨j1,j2,j3,j4,j5,j6,j7,vs2,j8,j9⟩
  refine .inl ⟨j3,?_⟩
  (have zz:=and_self; repeat' (first|apply a_n|refine zO ?_|refine vY ?_|fail)) <;> (try clear zz)
  refine ⟨(k + 1,vs2),by dsimp only; omega,⟨by dsimp only; omega,by omega,(bJ (by omega)).trans j5,(bJ (by omega)).trans j6,(bJ (by omega)).trans j7,?_⟩,ag0⟩
  dsimp only
  have hrows:∀ j,j < Y.length→e5 X Y (k + 1) j=e5 X Y k j ++ if Y.getD j default ∈ fcs s then [k] else []:=fun j _=>by
   rw [hF]; congr 1; exact pS tP.symm
  exact ⟨(bJ (by omega)).trans j8.box,j8.len,fun j hj=>by rw [hrows j hj]; exact (j8.row j hj).same fun b hb=>bJ (by have:=j9 j b hj hb; omega),fun j B hj hB=>by have:=j8.bnd j B hj hB; exact this,j8.apart⟩
end Go.Proofs.Ytfcenbapjhecfaa
namespace Go.Proofs.Ytfcenbapjhecfaa
open Go Go.Abs
def sF (L a:List Spx):List Nat:=a.map fun s=>L.idxOf s
abbrev lF (a:List Spx):Nat:=(a.getD 0 default).length
def xH (c a:List Spx):List Int × Int:=if be c ≠ 0 then ([],be c) else if cC a ≠ 0 then ([],cC a) else if a=[] then ([],0) else if (a.all fun s=>decide (s ∈ b0 c (lF a)))=true then (cb (sF (b0 c (lF a)) a),0) else ([],6)
theorem qL {l:List Nat} {n:Nat}:cb (l ++ [n])=cb l ++ [(n:Int)]:=by unfold cb; rw [List.map_append]; rfl
theorem va {L a:List Spx} {k:Nat} (h:k < a.length):sF L (a.take (k + 1))=sF L (a.take k) ++ [L.idxOf (a.getD k default)]:=by
 unfold sF; rw [bB h,List.map_append]; rfl
theorem xB {l:List Spx} (hn:l.Nodup) {v:Spx} {k:Nat} (hk:k < l.length) (hv:l.getD k default=v):l.idxOf v=k:=by
 have hm:v ∈ l:=by rw [← hv]; exact aQ hk
 have h1:=List.idxOf_lt_length_iff.2 hm
 have h2:l[l.idxOf v]=v:=List.getElem_idxOf h1
 have h3:l[k]=v:=by simpa [List.getD,hk] using hv
 exact (List.getElem_inj hn).1 (h2.trans h3.symm)
theorem mG {H:Hp} {s:AV} {l:List Int} {e f:Int} (h:Snap H s (bg l)) (he:e=f):Snap H (.tup [s,.int .i64 e]) (.tup [bg l,.int .i64 f]):=by
 subst he; exact e7 (ao h (ao (.int _ _) aa))
attribute [local irreducible] aD aj aX aP aH aK az aL aR bd Go.Abs.Fn aO Go.Abs.Pure av aF Yl
theorem yT (c a:List Spx) (hc:c.length ≤ 50) (hs:∀ s ∈ c,Shn s) (ha:ShC a):Pure Try.prog 25 [fc c,ar a] (.tup [bg (xH c a).1,.int .i64 (xH c a).2]):=by
 refine Pure.of_c2 follows BK (Nat.le_of_ble_eq_true rfl) ?_
 simp only [b25,cO,cG,cN,cM,cD,cF,cB,aB,aS]
 have hcc:=nA c (show _ ≤ _ by omega) hs
 have hca:=jO a ha
 have z0:decide ((0:Int) ≠ 0)=false:=rfl
 unfold xH
 by_cases he:be c=0
 rotate_left
 ·rw [if_pos he]
  have z:decide (be c ≠ 0)=true:=decide_eq_true he
  (have zz:=aI @au (aI @am @z); repeat' (first|refine zW ?_|apply a_n|apply a_r|refine zO ?_|refine vY ?_|refine cY ?_ (hp:=hcc) (hs:=by (first | refine ac ?_ rfl | apply ag); (repeat' (first | exact aa | apply an | apply ai | exact bA _)); first | done | fail)|refine bxY ?_|refine cTY ?_|refine ak rfl ?_|refine r2Y ?_|fail)) <;> (try clear zz)
  exact mG (.eslsl _) rfl
 rw [if_neg (fun h=>h he)]
 rw [he] at hcc
 by_cases h2:cC a=0
 rotate_left
 ·rw [if_pos h2]
  have z:decide (cC a ≠ 0)=true:=decide_eq_true h2
  (have zz:=aI @au (aI @am (aI @z @z0)); repeat' (first|refine zW ?_|apply a_n|apply a_r|refine zO ?_|refine vY ?_|refine cY ?_ (hp:=by first | exact hcc | exact hca) (hs:=by (first | refine ac ?_ rfl | apply ag); (repeat' (first | exact aa | apply an | apply ai | exact bA _ | exact aC _)); first | done | fail)|refine bxY ?_|refine cTY ?_|refine cFY ?_|refine ak rfl ?_|refine r2Y ?_|fail)) <;> (try clear zz)
  exact mG (.eslsl _) rfl
 rw [if_neg (fun h=>h h2)]
 rw [h2] at hca
 by_cases h3:a=[]
 ·rw [if_pos h3]
  subst h3
  have al:bE (ar [])=some (.int .i64 0):=rfl
  (have zz:=aI @au (aI @am (aI @al @z0)); repeat' (first|refine zW ?_|apply a_n|apply a_r|refine zO ?_|refine vY ?_|refine cY ?_ (hp:=by first | exact hcc | exact hca) (hs:=by (first | refine ac ?_ rfl | apply ag); (repeat' (first | exact aa | apply an | apply ai | exact bA _ | exact aC _)); first | done | fail)|refine bxY ?_|refine cFY ?_|(refine zGY ?_ ?_ <;> (intro _hg; try (exfalso; omega)))|refine ak rfl ?_|refine r2Y ?_|fail)) <;> (try clear zz)
  exact mG (.eslsl _) rfl
 rw [if_neg h3]
 have hpos:=List.length_pos_iff.2 h3
 have z3:decide ((a.length:Int)=0)=false:=decide_eq_false (by omega)
 obtain ⟨p1,p2,p3,p4⟩:=e8 h2
 have p5:=cz (p2 _ (aQ hpos))
 have i0:=sM hpos
 have hS:=jr c (lF a) hc hs
 unfold dS at hS
 rw [if_neg (fun h=>h he),if_neg (by unfold lF; omega),Int.toNat_natCast] at hS
 have eL:ir c (lF a)=b0 c (lF a):=by unfold b0; rw [if_neg (by unfold lF; omega),Int.toNat_natCast]
 rw [eL] at hS
 have hLs:=my (ff (d:=(lF a:Nat)) he)
 have hLl:=eP (d:=(lF a:Nat)) hc he
 have hLa:=im (c:=c) (d:=(lF a:Nat))
 generalize b0 c (lF a)=L at *
 unfold lF at hS
 (have zz:=aI @au (aI @am (aI @ae (aI @ap (aI @i0 (aI @z0 @z3))))); repeat' (first|refine zW ?_|refine zM ?_|apply a_n|refine zO ?_|refine vY ?_|refine cY ?_ (hp:=by first | exact hcc | exact hca | exact hS) (hs:=by (first | refine ac ?_ rfl | apply ag); (repeat' (first | exact aa | apply an | apply ai | exact bA _ | exact aC _)); first | done | fail)|refine bxY ?_|refine cFY ?_|fail)) <;> (try clear zz)
 refine ba (X:=AV × Nat) (fun x=>[(8,ar L),(10,x.1),(40,ar a),(41,.int .i64 a.length),(42,.int .i64 x.2)]) (fun x H nx=>x.2 ≤ a.length∧(∀ i,i < x.2→decide (a.getD i default ∈ L)=true)∧Row H 1 x.1 ((cb (sF L (a.take x.2))).map (AV.int .i64))∧∀ b,bT x.1=some b→b < nx) (fun x=>a.length - x.2) (.esl,0) ⟨Nat.zero_le _,fun i h=>absurd h (by omega),Row.nil,fun b hb=>(by cases hb)⟩ ag0 ?_
 rintro ⟨sv,k⟩ H nx ⟨k1,k2,k3,k4⟩
 dsimp only at k1 k2 k3 k4 ⊢
 by_cases hk:k < a.length
 rotate_left
 ·rw [List.take_of_length_le (by omega)] at k3
  rw [if_pos (jo fun i hi=>k2 i (by omega))]
  (have zz:=and_self; repeat' (first|refine zW ?_|apply a_n|apply a_x|refine zO ?_|refine vY ?_|(refine zGY ?_ ?_ <;> (intro _hg; try (exfalso; omega)))|refine ak rfl ?_|refine r2Y ?_|fail)) <;> (try clear zz)
  exact mG k3.snapI rfl
 have ix:=dp hk
 have hsx:=ha.2 _ (aQ hk)
 obtain ⟨p,hpl,hpm⟩:=qY L (a.getD k default) (show _ ≤ _ by omega) hLs hsx hLa
 by_cases hin:a.getD k default ∈ L
 rotate_left
 ·rw [decide_eq_false hin] at hpl
  have hall:¬ (a.all fun s=>decide (s ∈ L))=true:=by
   rw [ib hk (decide_eq_false hin)]; decide
  rw [if_neg hall]
  (have zz:=@ix; repeat' (first|refine zW ?_|apply a_n|apply a_r|refine zO ?_|refine vY ?_|refine cY ?_ (hp:=hpl) (hs:=by (first | refine ac ?_ rfl | apply ag); (repeat' (first | exact aa | apply an | apply ai | exact aC _ | exact ay _)); first | done | fail)|refine cTY ?_|(refine zGY ?_ ?_ <;> (intro _hg; try (exfalso; omega)))|refine ak rfl ?_|refine r2Y ?_|fail)) <;> (try clear zz)
  exact mG (.eslsl _) rfl
 rw [decide_eq_true hin] at hpl
 obtain ⟨p1',p2'⟩:=hpm hin
 have hidx:=xB (hLa.nodup gS) p1' p2'
 have hpt:=va (L:=L) hk
 rw [hidx] at hpt
 have hnl:(cb (sF L (a.take k))).length=k:=by unfold cb sF; rw [List.length_map,List.length_map,List.length_take]; omega
 (have zz:=@ix; repeat' (first|refine zW ?_|apply a_n|refine zO ?_|refine vY ?_|refine cY ?_ (hp:=hpl) (hs:=by (first | refine ac ?_ rfl | apply ag); (repeat' (first | exact aa | apply an | apply ai | exact aC _ | exact ay _)); first | done | fail)|refine blY ?_|refine cFY ?_|(refine zGY ?_ ?_ <;> (intro _hg; try (exfalso; omega)))|fail)) <;> (try clear zz)
 refine dK rfl ev0 (k3.same fun b hb=>?_) ev0 bC rfl rfl Nat.one_pos (by rw [List.length_map]; omega) (by rw [List.length_map]; omega) ?_
 ·have:=k4 b hb; rw [af (by omega)]
 rintro s2 E e hrow hle1 hle2 hsame hb2
 (have zz:=and_self; repeat' (first|apply a_n|refine zO ?_|refine vY ?_|fail)) <;> (try clear zz)
 refine ⟨(s2,k + 1),by dsimp only; omega,⟨by dsimp only; omega,fun i hi=>?_,?_,fun b hb=>?_⟩,ag0⟩
 ·rcases Nat.lt_succ_iff_lt_or_eq.1 hi with h' | rfl
  ·exact k2 i h'
  ·exact decide_eq_true hin
 ·dsimp only
  rw [hpt,qL,List.map_append]; exact hrow
 ·rcases hb2 b hb with h | h
  ·have:=k4 b h; omega
  ·omega
end Go.Proofs.Ytfcenbapjhecfaa
namespace Go.Proofs.Ytfcenbapjhecfaa
open Go Go.Abs
attribute [local irreducible] aD aj aX aP aH aK az aL aR bd Go.Abs.Fn aO Go.Abs.Pure av aF Yl
theorem uL (x y:List Int) (hx:x.length ≤ 1000000000) (hy:y.length ≤ 1000000000):Pure Try.prog 55 [bg x,bg y] (.bool (decide (x=y))):=by
 refine Pure.of_c2 follows Br (Nat.le_of_ble_eq_true rfl) ?_
 simp only [b55,cO,cG,cN,cM,cD,cF,cB,aB,aS]
 by_cases hl:x.length=y.length
 rotate_left
 ·have z:decide ((x.length:Int) ≠ y.length)=true:=decide_eq_true (by omega)
  (have zz:=@z; repeat' (first|refine zW ?_|apply a_n|apply a_r|refine zO ?_|refine vZ ?_|refine cTZ ?_|refine ak rfl ?_|refine r1Z ?_|fail)) <;> (try clear zz)
  exact bt (by symm; rw [decide_eq_false_iff_not]; rintro rfl; exact hl rfl)
 have z:decide ((x.length:Int) ≠ y.length)=false:=decide_eq_false (by omega)
 (have zz:=@z; repeat' (first|refine zW ?_|apply a_n|refine zO ?_|refine vZ ?_|refine cFZ ?_|fail)) <;> (try clear zz)
 refine jH (X:=Nat) (fun k=>[(0,bg x),(1,bg y),(5,.int .i64 k)]) (fun k=>k ≤ x.length∧∀ i,i < k→x.getD i default=y.getD i default) (fun k=>x.length - k) 0 ⟨Nat.zero_le _,fun i h=>absurd h (by omega)⟩ ag0 ?_
 rintro k ⟨h1,h2⟩
 by_cases hk:k < x.length
 rotate_left
 ·(have zz:=and_self; repeat' (first|refine zW ?_|apply a_n|apply a_x|refine zO ?_|refine vZ ?_|(refine zGZ ?_ ?_ <;> (intro _hg; try (exfalso; omega)))|refine ak rfl ?_|refine r1Z ?_|fail)) <;> (try clear zz)
  refine bt ?_
  symm
  rw [decide_eq_true_eq]
  refine List.ext_getElem hl fun i a b=>?_
  have:=h2 i (by omega)
  simpa [List.getD,a,b] using this
 by_cases he:x.getD k default=y.getD k default
 ·have z2:decide (x.getD k default ≠ y.getD k default)=false:=decide_eq_false (fun h=>h he)
  (have zz:=@z2; repeat' (first|refine zW ?_|apply a_n|refine zO ?_|refine vZ ?_|refine cFZ ?_|(refine zGZ ?_ ?_ <;> (intro _hg; try (exfalso; omega)))|fail)) <;> (try clear zz)
  exact ⟨k + 1,⟨by omega,fun i hi=>by
   rcases Nat.lt_succ_iff_lt_or_eq.1 hi with h' | rfl
   ·exact h2 i h'
   ·exact he⟩,by omega,ag0,rfl,rfl⟩
 ·have z2:decide (x.getD k default ≠ y.getD k default)=true:=decide_eq_true he
  (have zz:=@z2; repeat' (first|refine zW ?_|apply a_n|apply a_r|refine zO ?_|refine vZ ?_|refine cTZ ?_|(refine zGZ ?_ ?_ <;> (intro _hg; try (exfalso; omega)))|refine ak rfl ?_|refine r1Z ?_|fail)) <;> (try clear zz)
  exact bt (by symm; rw [decide_eq_false_iff_not]; rintro rfl; exact he rfl)
theorem oe (c:Int) (x:List (List Int)) (hx:x.length ≤ 1000000) (hxs:∀ r ∈ x,r.length ≤ 1000000):Pure Try.prog 24 [fe c x,fe c x] (.bool true):=by
 refine Pure.of_c2 follows Ca (Nat.le_of_ble_eq_true rfl) ?_
 simp only [b24,cO,cG,cN,cM,cD,cF,cB,aB,aS]
 unfold fe
 have z1:decide (c ≠ c)=false:=by simp
 have z2:decide ((x.length:Int) ≠ x.length)=false:=by simp
 (have zz:=aI @z1 @z2; repeat' (first|refine zW ?_|apply a_n|refine zO ?_|refine vY ?_|refine bxY ?_|refine gTY ?_|refine cFY ?_|fail)) <;> (try clear zz)
 refine ba (X:=Nat) (fun k=>[(2,.ptr 0 2 0),(3,.ptr 1 2 0),(5,.int .i64 k)]) (fun k H nx=>k ≤ x.length∧H 0=some [.int .i64 c,bi x]∧H 1=some [.int .i64 c,bi x]) (fun k=>x.length - k) 0 ⟨Nat.zero_le _,by rw [af (by omega),ah],ah⟩ (by (iterate 3 refine And.intro rfl ?_); trivial) ?_
 rintro k H nx ⟨h1,g0,g1⟩
 by_cases hk:k < x.length
 rotate_left
 ·(have zz:=aI @g0 @g1; repeat' (first|refine zW ?_|apply a_n|apply a_x|refine zO ?_|refine vY ?_|(refine zGY ?_ ?_ <;> (intro _hg; try (exfalso; omega)))|refine ak rfl ?_|refine r1Y ?_|fail)) <;> (try clear zz)
  exact .bool _
 have hs:=uL (x.getD k default) (x.getD k default) (by have:=hxs _ (aQ hk); omega) (by have:=hxs _ (aQ hk); omega)
 rw [decide_eq_true rfl] at hs
 (have zz:=aI @g0 @g1; repeat' (first|refine zW ?_|refine zM ?_|apply a_n|refine zO ?_|refine vY ?_|refine cY ?_ (hp:=hs) (hs:=by (first | refine ac ?_ rfl | apply ag); (repeat' (first | exact aa | apply an | apply ai | exact dr _)); first | done | fail)|refine cFY ?_|(refine zGY ?_ ?_ <;> (intro _hg; try (exfalso; omega)))|fail)) <;> (try clear zz)
 exact ⟨k + 1,by omega,⟨by omega,g0,g1⟩,ag0⟩
end Go.Proofs.Ytfcenbapjhecfaa
namespace Go.Proofs.Ytfcenbapjhecfaa
open Go Go.Abs
attribute [local irreducible] aD aj aX aP aH aK az aL aR bd Go.Abs.Fn aO Go.Abs.Pure av aF Yl
end Go.Proofs.Ytfcenbapjhecfaa
namespace Go.Proofs.Ytfcenbapjhecfaa
open Go Go.Abs
theorem ixV {l:List Int} {k:Nat} (h:k < l.length):cR 1 (bg l) (.int .i64 (k:Int))=some (.iptr [.int .i64 (l.getD k default)] 0):=by
 rw [fy,if_pos ⟨by omega,by omega⟩,Int.toNat_natCast]
theorem xe {l:List Int}:bE (bg l)=some (.int .i64 l.length):=nG
attribute [local irreducible] aD aj aX aP aH aK az aL aR bd Go.Abs.Fn aO Go.Abs.Pure av aF Yl
end Go.Proofs.Ytfcenbapjhecfaa
namespace Go.Proofs.Ytfcenbapjhecfaa
open Go Go.Abs
def bZ (l:List Int):Spx:=l.map fun c=>⟨c,0⟩
theorem uW {l:List Int} {k:Nat} (h:k < l.length):bZ (l.take (k + 1))=bZ (l.take k) ++ [⟨l.getD k default,0⟩]:=by
 unfold bZ; rw [bB h,List.map_append]; rfl
attribute [local irreducible] aD aj aX aP aH aK az aL aR bd Go.Abs.Fn aO Go.Abs.Pure av aF Yl
theorem sE (l:List Int) (hl:l.length ≤ 1000):dt Try.prog 36 [bg l] (aw (bZ l)):=by
 refine dt.of_c2 follows A4 (Nat.le_of_ble_eq_true rfl) ?_
 simp only [b36,cO,cG,cN,cM,cD,cF,cB,aB,aS]
 (have zz:=and_self; repeat' (first|refine zW ?_|apply a_n|refine zO ?_|refine vY ?_|fail)) <;> (try clear zz)
 refine ba (X:=AV × Nat) (fun x=>[(3,x.1),(6,bg l),(7,.int .i64 l.length),(8,.int .i64 x.2)]) (fun x H nx=>x.2 ≤ l.length∧Row H 2 x.1 (cX (bZ (l.take x.2)))∧∀ b,bT x.1=some b→b < nx) (fun x=>l.length - x.2) (.esl,0) ⟨Nat.zero_le _,Row.nil,fun b hb=>(by cases hb)⟩ ag0 ?_
 rintro ⟨sv,k⟩ H nx ⟨k1,k3,k4⟩
 dsimp only at k1 k3 k4 ⊢
 by_cases hk:k < l.length
 rotate_left
 ·rw [List.take_of_length_le (by omega)] at k3
  (have zz:=and_self; repeat' (first|refine zW ?_|apply a_n|apply a_x|refine zO ?_|refine vY ?_|(refine zGY ?_ ?_ <;> (intro _hg; try (exfalso; omega)))|refine ak rfl ?_|refine r1Y ?_|fail)) <;> (try clear zz)
  exact lJ k3
 have ix:=ixV hk
 have hpt:=uW hk
 have hcl:(cX (bZ (l.take k))).length=k * 2:=by rw [dT]; unfold bZ; rw [List.length_map,List.length_take]; omega
 (have zz:=@ix; repeat' (first|refine zW ?_|apply a_n|refine zO ?_|refine vY ?_|refine blY ?_|(refine zGY ?_ ?_ <;> (intro _hg; try (exfalso; omega)))|fail)) <;> (try clear zz)
 refine dK rfl ev0 (k3.same fun b hb=>?_) ev0 oK rfl rfl (by omega) (by omega) (by omega) ?_
 ·have:=k4 b hb; rw [af (by omega)]
 rintro s2 E e hrow hle1 hle2 hsame hb2
 (have zz:=and_self; repeat' (first|apply a_n|refine zO ?_|refine vY ?_|fail)) <;> (try clear zz)
 refine ⟨(s2,k + 1),by dsimp only; omega,⟨by dsimp only; omega,?_,fun b hb=>?_⟩,ag0⟩
 ·dsimp only
  rw [hpt,g9]; exact hrow
 ·rcases hb2 b hb with h | h
  ·have:=k4 b h; omega
  ·omega
end Go.Proofs.Ytfcenbapjhecfaa
namespace Go.Proofs.Ytfcenbapjhecfaa
open Go Go.Abs
end Go.Proofs.Ytfcenbapjhecfaa
namespace Go.Proofs.Ytfcenbapjhecfaa
open Go Go.Abs
attribute [local irreducible] aD aj aX aP aH aK az aL aR bd Go.Abs.Fn aO Go.Abs.Pure av aF Yl
end Go.Proofs.Ytfcenbapjhecfaa
namespace Go.Proofs.Ytfcenbapjhecfaa
open Go Go.Abs
attribute [local irreducible] aD aj aX aP aH aK az aL aR bd Go.Abs.Fn aO Go.Abs.Pure av aF Yl
end Go.Proofs.Ytfcenbapjhecfaa
namespace Go.Proofs.Ytfcenbapjhecfaa
open Go Go.Abs
structure PairV where
 a:List Spx
 b:List Spx
 d:Int
attribute [local irreducible] aD aj aX aP aH aK az aL aR bd Go.Abs.Fn aO Go.Abs.Pure av aF Yl
end Go.Proofs.Ytfcenbapjhecfaa
namespace Go.Proofs.Ytfcenbapjhecfaa
open Go Go.Abs
end Go.Proofs.Ytfcenbapjhecfaa
namespace Go.Proofs.Ytfcenbapjhecfaa
open Go Go.Abs
attribute [local irreducible] aD aj aX aP aH aK az aL aR bd Go.Abs.Fn aO Go.Abs.Pure av aF Yl
theorem wR (l m:List Int) (hl:l.length ≤ 1000000) (hm:m.length ≤ 1000000):Pure Try.prog 29 [bg l,bg m] (.bool (decide (l=m))):=by
 refine Pure.of_c2 follows Bh (Nat.le_of_ble_eq_true rfl) ?_
 simp only [b29,cO,cG,cN,cM,cD,cF,cB,aB,aS]
 (have zz:=and_self; repeat' (first|refine zW ?_|apply a_n|apply a_r|refine zO ?_|refine vZ ?_|(refine zGZ ?_ ?_ <;> (intro _hg; try (exfalso; omega)))|refine ak rfl ?_|refine r1Z ?_|fail)) <;> (try clear zz)
 ·refine bt ?_
  symm; rw [decide_eq_false_iff_not]; rintro rfl; omega
 refine jH (X:=Nat) (fun k=>[(0,bg l),(1,bg m),(12,.int .i64 l.length),(13,.int .i64 k)]) (fun k=>k ≤ l.length∧∀ i,i < k→l.getD i default=m.getD i default) (fun k=>l.length - k) 0 ⟨Nat.zero_le _,by simp⟩ ag0 ?_
 rintro k ⟨h1,h2⟩
 (have zz:=and_self; repeat' (first|refine zW ?_|apply a_n|apply a_x|apply a_r|refine zO ?_|refine vZ ?_|(refine zGZ ?_ ?_ <;> (intro _hg; try (exfalso; omega)))|refine ak rfl ?_|refine r1Z ?_|fail)) <;> (try clear zz)
 ·refine bt ?_
  symm; rw [decide_eq_false_iff_not]; rintro rfl; exact absurd rfl ‹_›
 ·refine ⟨k + 1,⟨by omega,fun i hi=>?_⟩,by omega,ag0,rfl,rfl⟩
  rcases Nat.lt_succ_iff_lt_or_eq.1 hi with h | rfl
  ·exact h2 i h
  ·omega
 ·refine bt ?_
  symm; rw [decide_eq_true_iff]
  refine List.ext_getElem (by omega) (fun i h3 h4=>?_)
  have:=h2 i (by omega)
  simpa [List.getD,h3,h4] using this
end Go.Proofs.Ytfcenbapjhecfaa
namespace Go.Proofs.Ytfcenbapjhecfaa
open Go Go.Abs
def exC:List Spx:=[bZ [0,1,2],bZ [2,3]]
def exA:List Spx:=[bZ [0,1],bZ [0,2],bZ [1,2]]
def exB:List Spx:=[bZ [0],bZ [2]]
def exS:List Spx:=[bZ [0,1],bZ [2,3]]
theorem ww:dt Try.prog 36 [bg [0,1,2]] (aw (bZ [0,1,2])):=sE _ (by decide)
theorem lK:dt Try.prog 36 [bg [0,1]] (aw (bZ [0,1])):=sE _ (by decide)
theorem xD:dt Try.prog 36 [bg [0,2]] (aw (bZ [0,2])):=sE _ (by decide)
theorem lQ:dt Try.prog 36 [bg [1,2]] (aw (bZ [1,2])):=sE _ (by decide)
theorem pT:dt Try.prog 36 [bg [2,3]] (aw (bZ [2,3])):=sE _ (by decide)
theorem zr:dt Try.prog 36 [bg [0]] (aw (bZ [0])):=sE _ (by decide)
theorem zi:dt Try.prog 36 [bg [2]] (aw (bZ [2])):=sE _ (by decide)
theorem zS:Pure Try.prog 17 [ar [bZ [0,1,2]]] (.tup [ar exA,.int .i64 0]):=by
 have h:=tC [bZ [0,1,2]] ⟨by decide,by decide⟩
 rwa [show nH [bZ [0,1,2]]=(exA,0) by decide +kernel] at h
theorem Au:Pure Try.prog 17 [ar [bZ [0,1],bZ [1,2]]] (.tup [ar exB,.int .i64 0]):=by
 have h:=tC [bZ [0,1],bZ [1,2]] ⟨by decide,by decide⟩
 rwa [show nH [bZ [0,1],bZ [1,2]]=(exB,0) by decide +kernel] at h
theorem AE:Pure Try.prog 19 [ar exA] (.tup [.bool true,.int .i64 0]):=by
 have h:=zH exA ⟨by decide,by decide⟩
 rwa [show x6 exA=(true,0) by decide +kernel] at h
theorem B8:Pure Try.prog 12 [ar [bZ [0,1],bZ [1,2]],ar [bZ [1,2],bZ [2,3]]] (.tup [ar exS,.int .i64 0]):=by
 have h:=x8 [bZ [0,1],bZ [1,2]] [bZ [1,2],bZ [2,3]] ⟨by decide,by decide⟩ ⟨by decide,by decide⟩
 rwa [show xh [bZ [0,1],bZ [1,2]] [bZ [1,2],bZ [2,3]]=(exS,0) by decide +kernel] at h
theorem yk:Pure Try.prog 22 [fc exC,.int .i64 1] (.tup [(.agg [.int .i64 4,bi [[0,1],[0,2],[1,2,3],[3]]]),.int .i64 0]):=by
 have h:=p6 exC 1 (by decide) (by decide)
 rwa [show kS exC 1=((4,[[0,1],[0,2],[1,2,3],[3]]),0) by decide +kernel] at h
theorem ym:Pure Try.prog 22 [fc exC,.int .i64 2] (.tup [(.agg [.int .i64 1,bi [[0],[0],[0],[]]]),.int .i64 0]):=by
 have h:=p6 exC 2 (by decide) (by decide)
 rwa [show kS exC 2=((1,[[0],[0],[0],[]]),0) by decide +kernel] at h
theorem zE:Pure Try.prog 25 [fc exC,ar exS] (.tup [bg [0,3],.int .i64 0]):=by
 have h:=yT exC exS (by decide) (by decide) ⟨by decide,by decide⟩
 rwa [show xH exC exS=([0,3],0) by decide +kernel] at h
theorem pA (l:List Spx) (h:ShC l):Pure Try.prog 16 [ar l,ar l] (.bool true):=by
 have:=ud l l h.1 h.1 h.2 h.2
 rwa [decide_eq_true rfl] at this
theorem zh {H:Hp} {b c:Nat} {cs:List AV} {x y:AV} (h1:H b=some cs) (h2:H c=some [x]) (hne:c ≠ b) (hs:Snap (only b cs) x y):Fz (only b cs) H (only c [y]) where
 sub:=i7 h1
 to:=fun a cs' h=>by
  unfold only at h
  split at h
  ·rename_i e
   cases h
   refine ⟨[x],by rw [e]; exact h2,?_,rfl,fun i u v hu hv=>?_⟩
   ·unfold only; rw [if_neg (by rw [e]; exact hne)]
   ·match i with
    | 0=>simp at hu hv; subst hu; subst hv; exact .inr hs
    | i + 1=>simp at hu
  ·cases h
theorem gb {H:Hp} {b n:Nat} {l:List Spx} (h:H b=some (l.map aw)) (hn:n=l.length):Snap H (.msl b n 1 0 n) (ar l):=by
 subst hn
 have:=Row.box (H:=H) (sz:=1) b l.length (l.map aw) h (by simp)
 rw [Nat.mul_one] at this
 exact eD this
theorem ql {H:Hp} {b n:Nat} {cs:List AV} {l:List (List Int)} (hb:H b=some cs) (hn:cs.length=n) (h:aF H cs (l.map bg)):Snap H (.msl b n 1 0 n) (bi l):=by
 have hl:=h.1
 refine fK (l:=l.map bg) hb hn (by omega) (by omega) (fun y hy=>?_) (fun i a c ha hc=>?_)
 ·obtain ⟨z,_,rfl⟩:=List.mem_map.1 hy; rfl
 ·rw [Nat.zero_add] at ha
  exact h.2 i a c ha hc
theorem AQ {g:FuncId} {r:AV} {l:List Spx} (hp:Pure Try.prog g [ar l] r) {H:Hp} {b nx c n:Nat} {cs:List AV} (h1:H b=some (l.map aw)) (hn:n=l.length) (h2:H c=some cs) (hne:c ≠ b):Abs.Fn Try.prog g [.msl b n 1 0 n] H nx fun r' H' nx'=>r'=r∧H'=only c cs∧nx'=nx :=
 Fn.of_pureZ hp (Hf:=only b (l.map aw)) (H':=only c cs) (i7 h1) (fun a cs' h=>by
  unfold only at h
  split at h
  ·rename_i e; cases h; subst e
   exact ⟨h2,by unfold only; rw [if_neg hne]⟩
  ·cases h) (ao (gb jK hn) aa) ⟨rfl,rfl,rfl⟩
theorem Cg {g:FuncId} {r:AV} {l m:List Spx} (hp:Pure Try.prog g [ar l,ar m] r) {H:Hp} {b d nx c n k:Nat} {cs:List AV} (h1:H b=some (l.map aw)) (hn:n=l.length) (h3:H d=some (m.map aw)) (hk:k=m.length) (hbd:d ≠ b) (h2:H c=some cs) (hne:c ≠ b) (hne2:c ≠ d):Abs.Fn Try.prog g [.msl b n 1 0 n,.msl d k 1 0 k] H nx fun r' H' nx'=>r'=r∧H'=only c cs∧nx'=nx :=
 Fn.of_pureZ hp (Hf:=on2 b (l.map aw) d (m.map aw)) (H':=only c cs) (pi h1 h3) (fun a cs' h=>by
  unfold only at h
  split at h
  ·rename_i e; cases h; subst e
   exact ⟨h2,by unfold on2; rw [if_neg hne,if_neg hne2]⟩
  ·cases h) (ao (gb yo hn) (ao (gb (yp hbd) hk) aa)) ⟨rfl,rfl,rfl⟩
theorem zI:Pure Try.prog 29 [bg [0,3],bg [0,3]] (.bool true):=by
 have:=wR [0,3] [0,3] (by decide) (by decide)
 rwa [decide_eq_true rfl] at this
attribute [local irreducible] aD aj aX aP aH aK az aL aR bd Go.Abs.Fn aO Go.Abs.Pure av aF Yl
set_option maxHeartbeats 2000000 in
theorem lS:Pure Try.prog 11 [] (.bool true):=by
 refine Pure.of_c2 follows BB (Nat.le_of_ble_eq_true rfl) ?_
 simp only [b11,cO,cG,cN,cM,cD,cF,cB,aB,aS]
 have h3:only 3 [ar exC] 3=some [ar exC]:=jK
 (have zz:=aI @h3 (aI @aA (aI @ax (aI @au @am))); repeat' (first|refine zW ?_|apply a_n|refine zO ?_|refine vZ ?_|refine blZ ?_|fail)) <;> (try clear zz)
 refine bX ev0 ev0 ww (ao (bl (n:=3) (len:=3) (l:=[0,1,2]) (by exact rfl) rfl rfl) aa) ?_
 (have zz:=aI @h3 (aI @aA (aI @ax (aI @au @am))); repeat' (first|apply a_n|refine zO ?_|refine blZ ?_|fail)) <;> (try clear zz)
 refine bX ev0 ev0 pT (ao (bl (n:=2) (len:=2) (l:=[2,3]) (by exact rfl) rfl rfl) aa) ?_
 (have zz:=aI @h3 (aI @aA (aI @ax (aI @au @am))); repeat' (first|apply a_n|refine zO ?_|refine vZ ?_|refine alZ ?_|refine stZ ?_|refine blZ ?_|fail)) <;> (try clear zz)
 refine en ?_
 refine tT (only 2 [aw (bZ [0,1,2]),aw (bZ [2,3])]) (only 3 [ar exC]) [(1,.ptr 3 1 0)] (zh (x:=.msl 2 2 1 0 2) rfl rfl (by decide) (gb (l:=exC) rfl rfl)) ⟨.inl rfl,trivial⟩ ?_
 (have zz:=aI @h3 (aI @aA (aI @ax (aI @au @am))); repeat' (first|apply a_n|refine zO ?_|refine blZ ?_|fail)) <;> (try clear zz)
 refine bX ev0 ev0 ww (ao (bl (n:=3) (len:=3) (l:=[0,1,2]) (by exact rfl) rfl rfl) aa) ?_
 (have zz:=aI @h3 (aI @aA (aI @ax (aI @au @am))); repeat' (first|apply a_n|refine zO ?_|refine blZ ?_|fail)) <;> (try clear zz)
 refine aV ev0 ev0 (AQ zS (b:=5) (c:=3) (cs:=[ar exC]) (by exact rfl) (by exact rfl) (by exact rfl) (by decide)) ?_
 rintro _ _ _ ⟨rfl,rfl,rfl⟩
 (have zz:=aI @h3 (aI @aA (aI @ax (aI @au @am))); repeat' (first|refine zW ?_|apply a_n|refine zO ?_|refine vZ ?_|refine cZ ?_ (hp:=by first | exact AE | exact yk | exact ym | exact zE) (hs:=by (first | refine ac ?_ rfl | apply ag); (repeat' (first | exact aa | apply an | apply ai | exact aC _ | exact bA _)); first | done | fail)|refine blZ ?_|fail)) <;> (try clear zz)
 refine bX ev0 ev0 lK (ao (bl (n:=2) (len:=2) (l:=[0,1]) (by exact rfl) rfl rfl) aa) ?_
 (have zz:=aI @h3 (aI @aA (aI @ax (aI @au @am))); repeat' (first|apply a_n|refine zO ?_|refine blZ ?_|fail)) <;> (try clear zz)
 refine bX ev0 ev0 lQ (ao (bl (n:=2) (len:=2) (l:=[1,2]) (by exact rfl) rfl rfl) aa) ?_
 (have zz:=aI @h3 (aI @aA (aI @ax (aI @au @am))); repeat' (first|apply a_n|refine zO ?_|refine blZ ?_|fail)) <;> (try clear zz)
 refine aV ev0 ev0 (AQ Au (b:=8) (c:=3) (cs:=[ar exC]) (by exact rfl) (by exact rfl) (by exact rfl) (by decide)) ?_
 rintro _ _ _ ⟨rfl,rfl,rfl⟩
 (have zz:=aI @h3 (aI @aA (aI @ax (aI @au @am))); repeat' (first|refine zW ?_|apply a_n|refine zO ?_|refine vZ ?_|refine blZ ?_|fail)) <;> (try clear zz)
 refine bX ev0 ev0 lK (ao (bl (n:=2) (len:=2) (l:=[0,1]) (by exact rfl) rfl rfl) aa) ?_
 (have zz:=aI @h3 (aI @aA (aI @ax (aI @au @am))); repeat' (first|apply a_n|refine zO ?_|refine blZ ?_|fail)) <;> (try clear zz)
 refine bX ev0 ev0 lQ (ao (bl (n:=2) (len:=2) (l:=[1,2]) (by exact rfl) rfl rfl) aa) ?_
 (have zz:=aI @h3 (aI @aA (aI @ax (aI @au @am))); repeat' (first|apply a_n|refine zO ?_|refine blZ ?_|fail)) <;> (try clear zz)
 refine bX ev0 ev0 lQ (ao (bl (n:=2) (len:=2) (l:=[1,2]) (by exact rfl) rfl rfl) aa) ?_
 (have zz:=aI @h3 (aI @aA (aI @ax (aI @au @am))); repeat' (first|apply a_n|refine zO ?_|refine blZ ?_|fail)) <;> (try clear zz)
 refine bX ev0 ev0 pT (ao (bl (n:=2) (len:=2) (l:=[2,3]) (by exact rfl) rfl rfl) aa) ?_
 (have zz:=aI @h3 (aI @aA (aI @ax (aI @au @am))); repeat' (first|apply a_n|refine zO ?_|refine blZ ?_|fail)) <;> (try clear zz)
 refine aV ev0 ev0 (Cg B8 (b:=11) (d:=14) (c:=3) (cs:=[ar exC]) (by exact rfl) (by exact rfl) (by exact rfl) (by exact rfl) (by decide) (by exact rfl) (by decide) (by decide)) ?_
 rintro _ _ _ ⟨rfl,rfl,rfl⟩
 (have zz:=aI @h3 (aI @aA (aI @ax (aI @au @am))); repeat' (first|refine zW ?_|apply a_n|refine zO ?_|refine vZ ?_|refine blZ ?_|refine gTZ ?_|(refine zGZ ?_ ?_ <;> (intro _hg; try (exfalso; omega)))|fail)) <;> (try clear zz)
 refine bX ev0 ev0 lK (ao (bl (n:=2) (len:=2) (l:=[0,1]) (by exact rfl) rfl rfl) aa) ?_
 (have zz:=aI @h3 (aI @aA (aI @ax (aI @au @am))); repeat' (first|apply a_n|refine zO ?_|refine blZ ?_|refine gTZ ?_|fail)) <;> (try clear zz)
 refine bX ev0 ev0 xD (ao (bl (n:=2) (len:=2) (l:=[0,2]) (by exact rfl) rfl rfl) aa) ?_
 (have zz:=aI @h3 (aI @aA (aI @ax (aI @au @am))); repeat' (first|apply a_n|refine zO ?_|refine blZ ?_|refine gTZ ?_|fail)) <;> (try clear zz)
 refine bX ev0 ev0 lQ (ao (bl (n:=2) (len:=2) (l:=[1,2]) (by exact rfl) rfl rfl) aa) ?_
 (have zz:=aI @h3 (aI @aA (aI @ax (aI @au @am))); repeat' (first|apply a_n|refine zO ?_|refine blZ ?_|refine gTZ ?_|fail)) <;> (try clear zz)
 refine bP ev0 ev0 (pA exA ⟨by decide,by decide⟩) (ac (ao (aC _ _) (ao (gb (b:=18) (n:=3) (by exact rfl) (by exact rfl)) aa)) rfl) ?_
 (have zz:=aI @h3 (aI @aA (aI @ax (aI @au @am))); repeat' (first|apply a_n|refine zO ?_|refine vZ ?_|refine blZ ?_|refine gTZ ?_|fail)) <;> (try clear zz)
 refine bX ev0 ev0 zr (ao (bl (n:=1) (len:=1) (l:=[0]) (by exact rfl) rfl rfl) aa) ?_
 (have zz:=aI @h3 (aI @aA (aI @ax (aI @au @am))); repeat' (first|apply a_n|refine zO ?_|refine blZ ?_|refine gTZ ?_|fail)) <;> (try clear zz)
 refine bX ev0 ev0 zi (ao (bl (n:=1) (len:=1) (l:=[2]) (by exact rfl) rfl rfl) aa) ?_
 (have zz:=aI @h3 (aI @aA (aI @ax (aI @au @am))); repeat' (first|apply a_n|refine zO ?_|refine blZ ?_|refine gTZ ?_|fail)) <;> (try clear zz)
 refine bP ev0 ev0 (pA exB ⟨by decide,by decide⟩) (ac (ao (aC _ _) (ao (gb (b:=21) (n:=2) (by exact rfl) (by exact rfl)) aa)) rfl) ?_
 (have zz:=aI @h3 (aI @aA (aI @ax (aI @au @am))); repeat' (first|apply a_n|refine zO ?_|refine vZ ?_|refine blZ ?_|refine gTZ ?_|fail)) <;> (try clear zz)
 refine bX ev0 ev0 lK (ao (bl (n:=2) (len:=2) (l:=[0,1]) (by exact rfl) rfl rfl) aa) ?_
 (have zz:=aI @h3 (aI @aA (aI @ax (aI @au @am))); repeat' (first|apply a_n|refine zO ?_|refine blZ ?_|refine gTZ ?_|fail)) <;> (try clear zz)
 refine bX ev0 ev0 pT (ao (bl (n:=2) (len:=2) (l:=[2,3]) (by exact rfl) rfl rfl) aa) ?_
 (have zz:=aI @h3 (aI @aA (aI @ax (aI @au @am))); repeat' (first|apply a_n|refine zO ?_|refine blZ ?_|refine gTZ ?_|fail)) <;> (try clear zz)
 refine bP ev0 ev0 (pA exS ⟨by decide,by decide⟩) (ac (ao (aC _ _) (ao (gb (b:=24) (n:=2) (by exact rfl) (by exact rfl)) aa)) rfl) ?_
 (have zz:=aI @h3 (aI @aA (aI @ax (aI @au @am))); repeat' (first|refine zW ?_|apply a_n|refine zO ?_|refine vZ ?_|refine cZ ?_ (hp:=by first | exact AE | exact yk | exact ym | exact zE) (hs:=by (first | refine ac ?_ rfl | apply ag); (repeat' (first | exact aa | apply an | apply ai | exact aC _ | exact bA _)); first | done | fail)|refine alZ ?_|refine stZ ?_|refine blZ ?_|refine gTZ ?_|(refine zGZ ?_ ?_ <;> (intro _hg; try (exfalso; omega)))|refine cFZ ?_|fail)) <;> (try clear zz)
 refine bP ev0 ev0 (oe 4 [[0,1],[0,2],[1,2,3],[3]] (by decide) (by decide)) (ac (ao ((show Dat (.agg [.int .i64 4,bi [[0,1],[0,2],[1,2,3],[3]]]) from cH 4 [[0,1],[0,2],[1,2,3],[3]]) _) (ao (nK (ao (.int _ _) (ao (ql (b:=31) (n:=4) (cs:=[.msl 27 2 1 0 2,.msl 28 2 1 0 2,.msl 29 3 1 0 3,.msl 30 1 1 0 1]) (by exact rfl) (by exact rfl) (ao (bl (b:=27) (n:=2) (len:=2) (l:=[0,1]) (by exact rfl) rfl rfl) (ao (bl (b:=28) (n:=2) (len:=2) (l:=[0,2]) (by exact rfl) rfl rfl) (ao (bl (b:=29) (n:=3) (len:=3) (l:=[1,2,3]) (by exact rfl) rfl rfl) (ao (bl (b:=30) (n:=1) (len:=1) (l:=[3]) (by exact rfl) rfl rfl) aa))))) aa))) aa)) rfl) ?_
 (have zz:=aI @h3 (aI @aA (aI @ax (aI @au @am))); repeat' (first|apply a_n|refine zO ?_|refine vZ ?_|refine blZ ?_|refine gTZ ?_|fail)) <;> (try clear zz)
 refine bP ev0 ev0 (oe 1 [[0],[0],[0],[]] (by decide) (by decide)) (ac (ao ((show Dat (.agg [.int .i64 1,bi [[0],[0],[0],[]]]) from cH 1 [[0],[0],[0],[]]) _) (ao (nK (ao (.int _ _) (ao (ql (b:=35) (n:=4) (cs:=[.msl 32 1 1 0 1,.msl 33 1 1 0 1,.msl 34 1 1 0 1,.esl]) (by exact rfl) (by exact rfl) (ao (bl (b:=32) (n:=1) (len:=1) (l:=[0]) (by exact rfl) rfl rfl) (ao (bl (b:=33) (n:=1) (len:=1) (l:=[0]) (by exact rfl) rfl rfl) (ao (bl (b:=34) (n:=1) (len:=1) (l:=[0]) (by exact rfl) rfl rfl) (ao (.eslsl 1) aa))))) aa))) aa)) rfl) ?_
 (have zz:=aI @h3 (aI @aA (aI @ax (aI @au @am))); repeat' (first|apply a_n|refine zO ?_|refine vZ ?_|refine blZ ?_|refine gTZ ?_|fail)) <;> (try clear zz)
 refine bP ev0 ev0 zI (ac (ao (dr _ _) (ao (bl (b:=36) (n:=2) (len:=2) (l:=[0,3]) (by exact rfl) rfl rfl) aa)) rfl) ?_
 (have zz:=aI @h3 (aI @aA (aI @ax (aI @au @am))); repeat' (first|apply a_n|refine zO ?_|refine vZ ?_|refine ak rfl ?_|refine r1Z ?_|fail)) <;> (try clear zz)
 exact .bool _
end Go.Proofs.Ytfcenbapjhecfaa
namespace Go.Proofs.Ytfcenbapjhecfaa
open Go Go.Abs
attribute [local irreducible] aD aj aX aP aH aK az aL aR bd Go.Abs.Fn aO Go.Abs.Pure av aF Yl
end Go.Proofs.Ytfcenbapjhecfaa
namespace Go.Proofs.Ytfcenbapjhecfaa
open Go Go.Abs
attribute [local irreducible] aD aj aX aP aH aK az aL aR bd Go.Abs.Fn aO Go.Abs.Pure av aF Yl
end Go.Proofs.Ytfcenbapjhecfaa
namespace Go.Proofs.Ytfcenbapjhecfaa
open Go Go.Abs
open Nat (reduceEqDiff reduceAdd reduceLeDiff)
theorem sT {x:Int} {l:List Int}:ip 1 (bg (x :: l)) (some (.int .i64 1)) none none=some (bg l):=eF (l:=x :: l) (k:=1) (by simp)
theorem yt {x:Int} {l:List Int}:cR 1 (bg (x :: l)) (.int .i64 0)=some (.iptr [.int .i64 x] 0):=by
 rw [fy,if_pos ⟨Int.le_refl _,by simp only [List.length_cons]; omega⟩]; rfl
theorem ke {P:Program} {T:Tm} {H:Hp} {nx:Nat} {dm:DM} {K:SP} {l:List Op2} {d:Option Nat} {bytes b N len n:Nat} {s x:Opd} {v:AV} {new C cs:List AV} (hd:dm2 dm T (.app 1 bytes s x)=true) (hs:ov T s=.msl b N 1 0 len) (hb:H b=some C) (hN:C.length=N) (htk:C.take len=cs) (hcl:cs.length=len) (hx:ov T x=v) (hsrc:dl 1 H v=some (n,new)) (ho:AV.ones new=true) (hnl:new.length=n) (hle:len + n ≤ N) (h1:N * bytes ≤ 140737488355328) (h2:N ≤ 9223372036854775807)
    (next:∀ C':List AV,C'.length=N→C'.take (len + n)=cs ++ new→aj P dm l (aE T d (.msl b N 1 0 (len + n))) (aq H b C') nx K) :
    aj P dm (⟨d,none,.app 1 bytes s x⟩ :: l) T H nx K:=by
 by_cases e:len=N
 ·obtain rfl:n=0:=by omega
  obtain rfl:new=[]:=List.eq_nil_of_length_eq_zero hnl
  subst e
  refine wO hd hs hb hx hsrc ho hN (Nat.mul_one _).symm h1 (by omega) ?_
  rw [Nat.add_zero,Nat.mul_one]
  exact next _ (by rw [List.append_nil]; exact hN) (by rw [List.append_nil,List.append_nil,Nat.add_zero]; exact htk)
 ·refine so hd hs hb hx hsrc ho hN (fun _=>by omega) (by omega) (by omega) ?_
  refine next _ ?_ ?_
  ·rw [d7 (by rw [hnl,hN]; omega)]; exact hN
  ·simp only [br,Nat.zero_add,Nat.mul_one]
   rw [htk,List.take_append_of_le_length (by rw [List.length_append,hcl,hnl]; omega),List.take_of_length_le (by rw [List.length_append,hcl,hnl]; omega)]
theorem oL {H:Hp} {b N len:Nat} {C:List AV} {R:List Int} (hb:H b=some C) (hN:C.length=N) (hle:len ≤ N) (hR:R.length=len) (h:C.take len=R.map (AV.int .i64)):Snap H (.msl b N 1 0 len) (bg R):=by
 refine fK (l:=R.map (AV.int .i64)) hb hN (by omega) (by simp [hR]) (fun y hy=>?_) (fun i a c ha hc=>?_)
 ·obtain ⟨z,_,rfl⟩:=List.mem_map.1 hy; rfl
 ·have hin:i < len:=by have:=(List.getElem?_eq_some_iff.1 hc).1; rw [List.length_map] at this; omega
  rw [← h,List.getElem?_take,if_pos hin] at hc
  rw [Nat.zero_add,hc] at ha; cases ha
  have hm:a ∈ R.map (AV.int .i64):=by
   rw [← h]
   exact List.mem_of_getElem? (i:=i) (by rw [List.getElem?_take,if_pos hin]; exact hc)
  obtain ⟨z,_,rfl⟩:=List.mem_map.1 hm
  exact .int _ _
def ed:List Int→List Int→List Int
 | [],b=>b
 | x :: a,[]=>x :: a
 | x :: a,y :: b=>if x < y then x :: ed a (y :: b) else if y < x then y :: ed (x :: a) b else ed a b
termination_by a b=>a.length + b.length
theorem nr {b:List Int}:ed [] b=b:=by rw [ed]
theorem pn {a:List Int}:ed a []=a:=by cases a <;> rw [ed]
theorem pV {x y:Int} {a b:List Int}:ed (x :: a) (y :: b)=if x < y then x :: ed a (y :: b) else if y < x then y :: ed (x :: a) b else ed a b:=by rw [ed]
theorem jl:∀ (n:Nat) (a b:List Int),a.length + b.length ≤ n→(ed a b).length ≤ a.length + b.length
 | _,[],b,_=>by rw [nr]; simp
 | _,x :: a,[],_=>by rw [pn]; simp
 | 0,x :: a,y :: b,h=>by simp only [List.length_cons] at h; omega
 | n + 1,x :: a,y :: b,h=>by
  simp only [List.length_cons] at h ⊢
  rw [pV]
  have h1:=jl n a (y :: b) (by simp only [List.length_cons]; omega)
  have h2:=jl n (x :: a) b (by simp only [List.length_cons]; omega)
  have h3:=jl n a b (by omega)
  simp only [List.length_cons] at h1 h2
  split
  ·simp only [List.length_cons]; omega
  split
  ·simp only [List.length_cons]; omega
  ·omega
attribute [local irreducible] aD aj aX aP aH aK az aL aR bd Go.Abs.Fn aO Go.Abs.Pure av aF Yl
theorem t5 (x:List Int) (n:Int) (hx:x.length ≤ 1000000) (hr:∀ v ∈ x,0 ≤ v∧v < n) (ha:∀ i,i + 1 < x.length→x.getD i default < x.getD (i + 1) default):Pure Try.prog 62 [bg x,.int .i64 n] (.int .i64 0):=by
 refine Pure.of_c2 follows Be (Nat.le_of_ble_eq_true rfl) ?_
 simp only [b62,cO,cG,cN,cM,cD,cF,cB,aB,aS]
 (have zz:=and_self; repeat' (first|refine zW ?_|apply a_n|refine zO ?_|refine vZ ?_|fail)) <;> (try clear zz)
 refine jH (X:=Nat) (fun k=>[(0,bg x),(1,.int .i64 n),(7,bg x),(8,.int .i64 x.length),(9,.int .i64 k)]) (fun k=>k ≤ x.length) (fun k=>x.length - k) 0 (Nat.zero_le _) ag0 ?_
 intro k hk
 by_cases hk2:k < x.length
 rotate_left
 ·(have zz:=and_self; repeat' (first|refine zW ?_|apply a_n|apply a_x|refine zO ?_|refine vZ ?_|(refine zGZ ?_ ?_ <;> (intro _hg; try (exfalso; omega)))|refine ak rfl ?_|refine r1Z ?_|fail)) <;> (try clear zz)
  exact .int _ _
 have h1:=hr _ (aJ hk2)
 have z1:decide (x.getD k default < 0)=false:=decide_eq_false (by omega)
 have z2:decide (n ≤ x.getD k default)=false:=decide_eq_false (by omega)
 by_cases hk0:0 < k
 rotate_left
 ·have zk:decide (0 < (k:Int))=false:=decide_eq_false (by omega)
  (have zz:=aI @z1 (aI @z2 @zk); repeat' (first|refine zW ?_|apply a_n|refine zO ?_|refine vZ ?_|refine gTZ ?_|refine gFZ ?_|refine cFZ ?_|(refine zGZ ?_ ?_ <;> (intro _hg; try (exfalso; omega)))|fail)) <;> (try clear zz)
  exact ⟨k + 1,by omega,by omega,ag0,rfl,rfl⟩
 have zk:decide (0 < (k:Int))=true:=decide_eq_true (by omega)
 have h2:=ha (k - 1) (by omega)
 rw [show k - 1 + 1=k by omega] at h2
 have iy:cR 1 (bg x) (.int .i64 ((k:Int) - 1))=some (.iptr [.int .i64 (x.getD (k - 1) default)] 0):=by
  rw [fy,if_pos ⟨by omega,by omega⟩,show ((k:Int) - 1).toNat=k - 1 by omega]
 have z3:decide (x.getD k default ≤ x.getD (k - 1) default)=false:=decide_eq_false (by omega)
 (have zz:=aI @z1 (aI @z2 (aI @zk (aI @iy @z3))); repeat' (first|refine zW ?_|apply a_n|refine zO ?_|refine vZ ?_|refine gTZ ?_|refine cFZ ?_|(refine zGZ ?_ ?_ <;> (intro _hg; try (exfalso; omega)))|fail)) <;> (try clear zz)
 exact ⟨k + 1,by omega,by omega,ag0,rfl,rfl⟩
def rY (c:Int) (R:List (List Int)):Prop:=0 ≤ c∧c ≤ 4096∧R.length ≤ 4096∧∀ r ∈ R,(∀ v ∈ r,0 ≤ v∧v < c)∧r.length ≤ 4096∧∀ i,i + 1 < r.length→r.getD i default < r.getD (i + 1) default
theorem i6 (c:Int) (R:List (List Int)) (h:rY c R):Pure Try.prog 61 [.agg [.int .i64 c,bi R]] (.int .i64 0):=by
 refine Pure.of_c2 follows Bp (Nat.le_of_ble_eq_true rfl) ?_
 simp only [b61,cO,cG,cN,cM,cD,cF,cB,aB,aS]
 obtain ⟨h1,h2,h3,h4⟩:=h
 have z1:decide (c < 0)=false:=decide_eq_false (by omega)
 have z2:decide (4096 < c)=false:=decide_eq_false (by omega)
 have z3:decide ((4096:Int) < R.length)=false:=decide_eq_false (by omega)
 (have zz:=aI @z1 (aI @z2 @z3); repeat' (first|refine zW ?_|apply a_n|refine zO ?_|refine vZ ?_|refine bxZ ?_|refine gTZ ?_|refine cFZ ?_|fail)) <;> (try clear zz)
 refine jH (X:=Nat) (fun k=>[(1,.ptr 0 2 0),(21,bi R),(22,.int .i64 R.length),(23,.int .i64 k)]) (fun k=>k ≤ R.length) (fun k=>R.length - k) 0 (Nat.zero_le _) (by (iterate 4 refine And.intro rfl ?_); trivial) ?_
 intro k hk
 by_cases hk2:k < R.length
 rotate_left
 ·(have zz:=and_self; repeat' (first|refine zW ?_|apply a_n|apply a_x|refine zO ?_|refine vZ ?_|(refine zGZ ?_ ?_ <;> (intro _hg; try (exfalso; omega)))|refine ak rfl ?_|refine r1Z ?_|fail)) <;> (try clear zz)
  exact .int _ _
 obtain ⟨r1,r2,r3⟩:=h4 _ (aJ hk2)
 have hv:=t5 (R.getD k default) c (by omega) r1 r3
 have z0:decide ((0:Int) ≠ 0)=false:=rfl
 (have zz:=@z0; repeat' (first|refine zW ?_|apply a_n|refine zO ?_|refine vZ ?_|refine cZ ?_ (hp:=hv) (hs:=by (first | refine ac ?_ rfl | apply ag); (repeat' (first | exact aa | apply an | apply ai | exact dr _)); first | done | fail)|refine cFZ ?_|(refine zGZ ?_ ?_ <;> (intro _hg; try (exfalso; omega)))|fail)) <;> (try clear zz)
 exact ⟨k + 1,by omega,by omega,ag0,rfl,rfl⟩
theorem xN (c d:Int) (R S:List (List Int)) (hr:rY c R) (hs:rY d S):Pure Try.prog 64 [.agg [.int .i64 c,bi R],.agg [.int .i64 d,bi S]] (.int .i64 0):=by
 refine Pure.of_c2 follows A7 (Nat.le_of_ble_eq_true rfl) ?_
 simp only [b64,cO,cG,cN,cM,cD,cF,cB,aB,aS]
 have h1:=i6 c R hr
 have h2:=i6 d S hs
 have z0:decide ((0:Int) ≠ 0)=false:=rfl
 have d1:Dat (.agg [.int .i64 c,bi R]):=cH c R
 have d2:Dat (.agg [.int .i64 d,bi S]):=cH d S
 (have zz:=@z0; repeat' (first|refine zW ?_|apply a_n|refine zO ?_|refine vZ ?_|refine cZ ?_ (hp:=by first | exact h1 | exact h2)|refine bxZ ?_|refine cFZ ?_|refine ak rfl ?_|refine r1Z ?_|fail)) <;> (try clear zz)
 exact .int _ _
theorem AH (a b:List Int) (ha:a.length ≤ 1000000000000) (hb:b.length ≤ 1000000000000):Pure Try.prog 85 [bg a,bg b] (bg (ed a b)):=by
 refine Pure.of_c2 follows B7 (Nat.le_of_ble_eq_true rfl) ?_
 simp only [b85,cO,cG,cN,cM,cD,cF,cB,aB,aS]
 (have zz:=and_self; repeat' (first|refine zW ?_|apply a_n|refine zO ?_|refine vZ ?_|fail)) <;> (try clear zz)
 refine sP (k1:=.i64) (k2:=.i64) (n:=0) (m:=(a.length:Int) + b.length) rfl ev0 ev0 (Int.le_refl _) (by omega) (by omega) (by omega) ?_
 rw [show ((a.length:Int) + b.length).toNat=a.length + b.length by omega]
 have hz:(aY (AV.agg [AV.int .i64 0]) (a.length + b.length)).length=a.length + b.length:=by simp [aY,AV.cells]
 generalize hN:a.length + b.length=N at *
 (have zz:=and_self; repeat' (first|refine zW ?_|apply a_n|refine zO ?_|refine vZ ?_|fail)) <;> (try clear zz)
 refine ba (X:=List Int × List Int × List Int × Nat) (fun x=>[(0,bg x.1),(1,bg x.2.1),(5,.msl 0 N 1 0 x.2.2.2)]) (fun x H nx=>1 ≤ nx∧x.2.2.1.length=x.2.2.2∧x.2.2.2 + x.1.length + x.2.1.length ≤ N∧x.2.2.1 ++ ed x.1 x.2.1=ed a b∧∃ C,H 0=some C∧C.length=N∧C.take x.2.2.2=x.2.2.1.map (AV.int .i64)) (fun x=>x.1.length + x.2.1.length) (a,b,[],0) ⟨Nat.le_refl _,rfl,by dsimp only; omega,rfl,_,ah,hz,rfl⟩ (by refine ⟨rfl,rfl,?_,trivial⟩; ((try simp only [bR,ZA,reduceEqDiff,↓reduceIte,reduceAdd,reduceLeDiff]); (try with_reducible rfl)); rfl) ?_
 rintro ⟨a',b',D,k⟩ H nx ⟨h1,h2,h3,h4,C,h5,h6,h7⟩
 dsimp only at h1 h2 h3 h4 h7 ⊢
 have hDl:(D.map (AV.int .i64)).length=k:=by rw [List.length_map]; exact h2
 have hfin:(a'=[] ∨ b'=[])→D ++ (a' ++ b')=ed a b:=fun h=>by
  rcases h with rfl | rfl
  ·rw [nr] at h4; exact h4
  ·rw [pn] at h4; rw [List.append_nil]; exact h4
 by_cases hne:a'=[] ∨ b'=[]
 ·have h4:=hfin hne
  clear hfin
  have y1:decide ((0:Int) < a'.length)=false ∨ decide ((0:Int) < a'.length)=true∧decide ((0:Int) < b'.length)=false:=by
   rcases hne with rfl | rfl
   ·exact .inl rfl
   ·by_cases h:a'=[]
    ·subst h; exact .inl rfl
    ·exact .inr ⟨decide_eq_true (by have:=List.length_pos_iff.2 h; omega),rfl⟩
  rcases y1 with y1 | ⟨y1,y2⟩
  ·(have zz:=@y1; repeat' (first|refine zW ?_|apply a_n|apply a_x|refine zO ?_|refine vY ?_|refine gFY ?_|refine cFY ?_|fail)) <;> (try clear zz)
   refine ke (b:=0) (N:=N) (len:=k) (n:=a'.length) (new:=a'.map (AV.int .i64)) rfl ev0 h5 h6 h7 hDl ev0 il jy (by rw [List.length_map]) (by omega) (by omega) (by omega) fun C2 c1 c2=>?_
   (have zz:=and_self; repeat' (first|apply a_n|refine zO ?_|refine vY ?_|fail)) <;> (try clear zz)
   refine ke (b:=0) (N:=N) (len:=k + a'.length) (n:=b'.length) (new:=b'.map (AV.int .i64)) rfl ev0 ah c1 c2 (by rw [List.length_append,hDl,List.length_map]) ev0 il jy (by rw [List.length_map]) (by omega) (by omega) (by omega) fun C3 c3 c4=>?_
   (have zz:=and_self; repeat' (first|apply a_n|refine zO ?_|refine vY ?_|refine ak rfl ?_|refine r1Y ?_|fail)) <;> (try clear zz)
   rw [← h4]
   exact oL ah c3 (by omega) (by simp only [List.length_append]; omega) (by rw [← Nat.add_assoc,c4,List.map_append,List.map_append,List.append_assoc])
  ·(have zz:=aI @y1 @y2; repeat' (first|refine zW ?_|apply a_n|apply a_x|refine zO ?_|refine vY ?_|refine gTY ?_|refine cFY ?_|fail)) <;> (try clear zz)
   refine ke (b:=0) (N:=N) (len:=k) (n:=a'.length) (new:=a'.map (AV.int .i64)) rfl ev0 h5 h6 h7 hDl ev0 il jy (by rw [List.length_map]) (by omega) (by omega) (by omega) fun C2 c1 c2=>?_
   (have zz:=and_self; repeat' (first|apply a_n|refine zO ?_|refine vY ?_|fail)) <;> (try clear zz)
   refine ke (b:=0) (N:=N) (len:=k + a'.length) (n:=b'.length) (new:=b'.map (AV.int .i64)) rfl ev0 ah c1 c2 (by rw [List.length_append,hDl,List.length_map]) ev0 il jy (by rw [List.length_map]) (by omega) (by omega) (by omega) fun C3 c3 c4=>?_
   (have zz:=and_self; repeat' (first|apply a_n|refine zO ?_|refine vY ?_|refine ak rfl ?_|refine r1Y ?_|fail)) <;> (try clear zz)
   rw [← h4]
   exact oL ah c3 (by omega) (by simp only [List.length_append]; omega) (by rw [← Nat.add_assoc,c4,List.map_append,List.map_append,List.append_assoc])
 have ha0:a' ≠ []:=fun h=>hne (.inl h)
 have hb0:b' ≠ []:=fun h=>hne (.inr h)
 clear hfin hne
 obtain ⟨x,a2,rfl⟩:=List.exists_cons_of_ne_nil ha0
 obtain ⟨y,b2,rfl⟩:=List.exists_cons_of_ne_nil hb0
 rw [pV] at h4
 have la:(x :: a2).length=a2.length + 1:=rfl
 have lb:(y :: b2).length=b2.length + 1:=rfl
 have i1:=yt (x:=x) (l:=a2)
 have i2:=yt (x:=y) (l:=b2)
 have s1:=sT (x:=x) (l:=a2)
 have s2:=sT (x:=y) (l:=b2)
 generalize hA:x :: a2=A at *
 generalize hB:y :: b2=B at *
 have y1:decide ((0:Int) < A.length)=true:=decide_eq_true (by omega)
 have y2:decide ((0:Int) < B.length)=true:=decide_eq_true (by omega)
 by_cases g1:x < y
 ·rw [if_pos g1] at h4
  have z1:decide (x < y)=true:=decide_eq_true g1
  (have zz:=aI @i1 (aI @i2 (aI @y1 (aI @y2 @z1))); repeat' (first|refine zW ?_|apply a_n|refine zO ?_|refine vY ?_|refine blY ?_|refine gTY ?_|refine cTY ?_|fail)) <;> (try clear zz)
  refine ke (b:=0) (N:=N) (len:=k) (n:=1) (new:=[.int .i64 x]) rfl ev0 (by rw [af (by omega)]; exact h5) h6 h7 hDl ev0 bC rfl rfl (by omega) (by omega) (by omega) fun C2 c1 c2=>?_
  (have zz:=@s1; repeat' (first|apply a_n|refine zO ?_|refine vY ?_|fail)) <;> (try clear zz)
  exact ⟨(a2,B,D ++ [x],k + 1),by dsimp only; omega,⟨by omega,by simp [h2],by dsimp only; omega,by simpa using h4,C2,ah,c1,by rw [c2,List.map_append]; rfl⟩,ag0⟩
 rw [if_neg g1] at h4
 have z1:decide (x < y)=false:=decide_eq_false g1
 by_cases g2:y < x
 ·rw [if_pos g2] at h4
  have z2:decide (y < x)=true:=decide_eq_true g2
  (have zz:=aI @i1 (aI @i2 (aI @y1 (aI @y2 (aI @z1 @z2)))); repeat' (first|refine zW ?_|apply a_n|refine zO ?_|refine vY ?_|refine blY ?_|refine gTY ?_|refine cTY ?_|refine cFY ?_|fail)) <;> (try clear zz)
  refine ke (b:=0) (N:=N) (len:=k) (n:=1) (new:=[.int .i64 y]) rfl ev0 (by rw [af (by omega)]; exact h5) h6 h7 hDl ev0 bC rfl rfl (by omega) (by omega) (by omega) fun C2 c1 c2=>?_
  (have zz:=@s2; repeat' (first|apply a_n|refine zO ?_|refine vY ?_|fail)) <;> (try clear zz)
  exact ⟨(A,b2,D ++ [y],k + 1),by dsimp only; omega,⟨by omega,by simp [h2],by dsimp only; omega,by simpa using h4,C2,ah,c1,by rw [c2,List.map_append]; rfl⟩,ag0⟩
 rw [if_neg g2] at h4
 have z2:decide (y < x)=false:=decide_eq_false g2
 (have zz:=aI @i1 (aI @i2 (aI @s1 (aI @s2 (aI @y1 (aI @y2 (aI @z1 @z2)))))); repeat' (first|refine zW ?_|apply a_n|refine zO ?_|refine vY ?_|refine gTY ?_|refine cTY ?_|refine cFY ?_|fail)) <;> (try clear zz)
 exact ⟨(a2,b2,D,k),by dsimp only; omega,⟨by omega,h2,by dsimp only; omega,h4,C,h5,h6,h7⟩,ag0⟩
end Go.Proofs.Ytfcenbapjhecfaa
namespace Go.Proofs.Ytfcenbapjhecfaa
open Go Go.Abs
def c9 (S:List (List Int)) (r:List Int):List Int:=r.foldl (fun x j=>ed x (S.getD j.toNat default)) []
theorem mW {S:List (List Int)} {l:List Int} {j:Int}:c9 S (l ++ [j])=ed (c9 S l) (S.getD j.toNat default):=by
 unfold c9; rw [List.foldl_append]; rfl
theorem rp {S:List (List Int)} (hS:∀ s ∈ S,s.length ≤ 4096):∀ (l:List Int) (x:List Int),(l.foldl (fun x j=>ed x (S.getD j.toNat default)) x).length ≤ x.length + l.length * 4096
 | [],x=>by simp
 | j :: l,x=>by
  have h1:=rp hS l (ed x (S.getD j.toNat default))
  have h2:=jl _ x (S.getD j.toNat default) (Nat.le_refl _)
  have h3:(S.getD j.toNat default).length ≤ 4096:=by
   by_cases h:j.toNat < S.length
   ·exact hS _ (aJ h)
   ·unfold List.getD; rw [List.getElem?_eq_none (by omega)]; exact Nat.zero_le _
  rw [List.foldl_cons,List.length_cons]
  omega
theorem uI {S:List (List Int)} (hS:∀ s ∈ S,s.length ≤ 4096) {l:List Int}:(c9 S l).length ≤ l.length * 4096:=by
 have:=rp hS l []
 unfold c9
 simpa using this
attribute [local irreducible] aD aj aX aP aH aK az aL aR bd Go.Abs.Fn aO Go.Abs.Pure av aF Yl
theorem qU {y ab bb:Nat} {c d:Int} {R S:List (List Int)} {H:Hp} {nx:Nat} (hRl:R.length ≤ 4096) (hSl:S.length ≤ 4096) (hR:∀ r ∈ R,(∀ v ∈ r,0 ≤ v∧v < (S.length:Int))∧r.length ≤ 4096) (hS:∀ s ∈ S,s.length ≤ 4096) (I:List (List Int)→Hp→Nat→Prop)
    (hp:∀ D H nx,I D H nx→H ab=some [.int .i64 c,bi R]∧H bb=some [.int .i64 d,bi S])
    (rnd:∀ D f H nx1,I D H nx1→D.length < R.length→Yl Try.prog y [bg f] H nx1 fun r H' nx'=>r=.bool true∧I (D ++ [f]) H' nx')
    (h0:I [] H nx) :
    Abs.Fn Try.prog 86 [.yld y,.ptr ab 2 0,.ptr bb 2 0] H nx fun _ H' nx'=>I (R.map (c9 S)) H' nx':=by
 refine Abs.Fn.of_c2 follows Bt (Nat.le_of_ble_eq_true rfl) ?_
 simp only [b86,cO,cG,cN,cM,cD,cF,cB,aB,aS]
 obtain ⟨g1,g2⟩:=hp _ _ _ h0
 (have zz:=aI @g1 @g2; repeat' (first|refine zW ?_|apply a_n|refine zO ?_|refine vY ?_|fail)) <;> (try clear zz)
 refine ba (X:=Nat) (fun k=>[(0,.yld y),(1,.ptr ab 2 0),(2,.ptr bb 2 0),(10,bi R),(11,.int .i64 R.length),(12,.int .i64 k)]) (fun k H' nx'=>k ≤ R.length∧I ((R.take k).map (c9 S)) H' nx') (fun k=>R.length - k) 0 ⟨Nat.zero_le _,h0⟩ ag0 ?_
 rintro k H1 nx1 ⟨h1,hI⟩
 obtain ⟨q1,q2⟩:=hp _ _ _ hI
 by_cases hk:k < R.length
 rotate_left
 ·rw [List.take_of_length_le (by omega)] at hI
  (have zz:=and_self; repeat' (first|refine zW ?_|apply a_n|apply a_x|refine zO ?_|refine vY ?_|(refine zGY ?_ ?_ <;> (intro _hg; try (exfalso; omega)))|refine ak rfl ?_|fail)) <;> (try clear zz)
  exact hI
 obtain ⟨r1,r2⟩:=hR _ (aJ hk)
 have ix:cR 1 (bi R) (.int .i64 (k:Int))=some (.iptr [bg (R.getD k default)] 0):=by
  rw [gd,if_pos ⟨by omega,by omega⟩,Int.toNat_natCast]
 have hft:(R.take (k + 1)).map (c9 S)=(R.take k).map (c9 S) ++ [c9 S (R.getD k default)]:=by rw [bB hk,List.map_append]; rfl
 generalize R.getD k default=r at *
 (have zz:=@ix; repeat' (first|refine zW ?_|apply a_n|refine zO ?_|refine vY ?_|(refine zGY ?_ ?_ <;> (intro _hg; try (exfalso; omega)))|fail)) <;> (try clear zz)
 refine wv (X:=Nat) (fun j=>[(0,.yld y),(1,.ptr ab 2 0),(2,.ptr bb 2 0),(10,bi R),(11,.int .i64 R.length),(12,.int .i64 k),(16,bg r),(17,.int .i64 r.length),(18,.int .i64 j),(6,bg (c9 S (r.take j)))]) (fun j H' nx'=>j ≤ r.length∧H'=H1∧nx'=nx1) (fun j=>r.length - j) 0 ⟨_,_,Fz.none,⟨Nat.zero_le _,rfl,rfl⟩,⟨.inl rfl,.inl rfl,.inl rfl,.inl rfl,.inl rfl,.inl rfl,.inl rfl,.inl rfl,.inl rfl,.inr (.eslsl 1),trivial⟩⟩ ?_
 rintro j _ _ ⟨j1,rfl,rfl⟩
 by_cases hj:j < r.length
 rotate_left
 ·rw [List.take_of_length_le (by omega)]
  (have zz:=and_self; repeat' (first|refine zW ?_|apply a_n|apply a_x|refine zO ?_|refine vY ?_|(refine zGY ?_ ?_ <;> (intro _hg; try (exfalso; omega)))|fail)) <;> (try clear zz)
  refine pR ev0 ev0 (Yl.mono (rnd _ _ _ _ hI (by rw [List.length_map,List.length_take]; omega)) ?_)
  rintro v H3 nx3 ⟨rfl,e1⟩
  (have zz:=and_self; repeat' (first|apply a_n|refine zO ?_|refine vY ?_|refine cFY ?_|fail)) <;> (try clear zz)
  exact ⟨k + 1,by omega,⟨by omega,by rw [hft]; exact e1⟩,ag0⟩
 have hjr:=r1 _ (aJ hj)
 have hsn:c9 S (r.take (j + 1))=ed (c9 S (r.take j)) (S.getD (r.getD j default).toNat default):=by rw [bB hj,mW]
 have ix2:cR 1 (bg r) (.int .i64 (j:Int))=some (.iptr [.int .i64 (r.getD j default)] 0):=by
  rw [fy,if_pos ⟨by omega,by omega⟩,Int.toNat_natCast]
 generalize r.getD j default=v at *
 have ix3:cR 1 (bi S) (.int .i64 v)=some (.iptr [bg (S.getD v.toNat default)] 0):=by
  rw [gd,if_pos hjr]
 have hl1:=uI hS (l:=r.take j)
 rw [List.length_take] at hl1
 have hs:=AH (c9 S (r.take j)) (S.getD v.toNat default) (by omega) (by have:=hS _ (aJ (k:=v.toNat) (by omega)); omega)
 rw [← hsn] at hs
 (have zz:=aI @ix2 (aI @ix3 (aI @q1 @q2)); repeat' (first|refine zW ?_|apply a_n|refine zO ?_|refine vY ?_|refine cY ?_ (hp:=hs) (hs:=by (first | refine ac ?_ rfl | apply ag); (repeat' (first | exact aa | apply an | apply ai | exact dr _)); first | done | fail)|(refine zGY ?_ ?_ <;> (intro _hg; try (exfalso; omega)))|fail)) <;> (try clear zz)
 exact ⟨j + 1,by omega,_,_,Fz.none,⟨by omega,rfl,rfl⟩,gZ ag0⟩
theorem qn (c d:Int) (R S:List (List Int)) (H:Hp) (nx:Nat):Abs.Fn Try.prog 65 [.agg [.int .i64 c,bi R],.agg [.int .i64 d,bi S]] H nx fun r H' nx'=>r=.func 86 [.ptr nx 2 0,.ptr (nx + 1) 2 0]∧H'=aq (aq H nx [.int .i64 c,bi R]) (nx + 1) [.int .i64 d,bi S]∧nx'=nx + 2:=by
 refine Abs.Fn.of_c2 follows Bn (Nat.le_of_ble_eq_true rfl) ?_
 simp only [b65,cO,cG,cN,cM,cD,cF,cB,aB,aS]
 (have zz:=and_self; repeat' (first|refine zW ?_|apply a_n|refine zO ?_|refine vY ?_|refine bxY ?_|refine ak rfl ?_|refine r1Y ?_|fail)) <;> (try clear zz)
 exact ⟨rfl,rfl,rfl⟩
theorem sx (c d:Int) (R S:List (List Int)) (hr:rY c R) (hs:rY d S) (hcs:c=S.length):Pure Try.prog 32 [.agg [.int .i64 c,bi R],.agg [.int .i64 d,bi S]] (.tup [fe d (R.map (c9 S)),.int .i64 0]):=by
 refine Pure.of_c2 follows Ba (Nat.le_of_ble_eq_true rfl) ?_
 simp only [b32,cO,cG,cN,cM,cD,cF,cB,aB,aS]
 have hb:=xN c d R S hr hs
 have d1:Dat (.agg [.int .i64 c,bi R]):=cH c R
 have d2:Dat (.agg [.int .i64 d,bi S]):=cH d S
 have z0:decide ((0:Int) ≠ 0)=false:=rfl
 have z1:decide (c ≠ (S.length:Int))=false:=by rw [hcs]; simp
 obtain ⟨m1,m2,m3,m4⟩:=hr
 obtain ⟨n1,n2,n3,n4⟩:=hs
 (have zz:=aI @z0 @z1; repeat' (first|refine zW ?_|apply a_n|refine zO ?_|refine vY ?_|refine cY ?_ (hp:=hb)|refine alY ?_|refine bxY ?_|refine stY ?_|refine cFY ?_|fail)) <;> (try clear zz)
 refine aV ev0 ev0 (qn c d R S _ _) ?_
 rintro _ H1 nx1 ⟨rfl,rfl,rfl⟩
 (have zz:=and_self; repeat' (first|refine zW ?_|apply a_n|refine zO ?_|fail)) <;> (try clear zz)
 refine ij 6 7 rfl rfl ev0 (fun c0 cj hy=>?_)
 refine Abs.Fn.mono (qU (nx:=7) (ab:=4) (bb:=5) (c:=c) (d:=d) (R:=R) (S:=S) m3 n3 (fun r h=>⟨hcs ▸ (m4 r h).1,(m4 r h).2.1⟩) (fun r h=>(n4 r h).2.1) (fun D H' nx'=>7 ≤ nx'∧H' 4=some [.int .i64 c,bi R]∧H' 5=some [.int .i64 d,bi S]∧H' 6=some [c0]∧H' 2=some [.int .i64 0,.esl]∧∃ sv,H' 3=some [.int .i64 d,sv]∧Row H' 1 sv (D.map bg)∧∀ b',bT sv=some b'→7 ≤ b'∧b' < nx') ?_ ?_ ?_) ?_
 ·rintro D H' nx' ⟨h1,h2,h3,h4,h5⟩
  exact ⟨h2,h3⟩
 ·rintro D f H' nx' ⟨h1,h2,h3,h4,h5,sv,h6,h7,h8⟩ hlt
  refine hy _ _ _ _ h4 rfl ?_
  clear hy
  (have zz:=and_self; repeat' (first|apply a_n|refine zO ?_|refine vZ ?_|fail)) <;> (try clear zz)
  refine ⟨h4,?_⟩
  have hdo:∀ x,x ≠ 6→bK H' 6 x=H' x:=fun x b=>bJ b
  generalize bK H' 6=H1 at *
  have g3:H1 3=some [.int .i64 d,sv]:=(hdo 3 (by omega)).trans h6
  (have zz:=@g3; repeat' (first|refine zW ?_|apply a_n|refine zO ?_|refine vY ?_|refine blY ?_|fail)) <;> (try clear zz)
  refine dK rfl ev0 (h7.same fun b' hb'=>?_) ev0 bC rfl rfl Nat.one_pos (by rw [List.length_map]; omega) (by rw [List.length_map]; omega) ?_
  ·have:=h8 b' hb'
   rw [af (by omega)]; exact hdo _ (by omega)
  rintro sv' H3 nx3 r1 r2 r3 r4 r5
  have zs:∀ x,x < 7→bT sv ≠ some x:=fun x hx e=>by have:=h8 x e; omega
  have z:∀ x,x < nx'→x ≠ 6→bT sv ≠ some x→H3 x=H' x:=fun x a1 a2 a3=>(r4 x (by omega) a3).trans (by rw [af (by omega)]; exact hdo x a2)
  have g4:H3 3=some [.int .i64 d,sv]:=(z 3 (by omega) (by omega) (zs _ (by omega))).trans h6
  obtain ⟨q1,q2⟩:=r1.one
  (have zz:=aI @g4 (aI @q1 @q2); repeat' (first|apply a_n|refine zO ?_|refine vY ?_|refine stY ?_|fail)) <;> (try clear zz)
  have w:∀ x,x ≠ 3→x ≠ 6→aq (aq H3 3 [.int .i64 d,sv']) 6 [c0] x=H3 x:=fun x a1 a2=>by rw [af a2,af a1]
  have u8:∀ b',bT sv'=some b'→7 ≤ b'∧b' < nx3:=fun b' hb'=>by
   rcases r5 b' hb' with e | ⟨e1,e2⟩
   ·have:=h8 b' e; omega
   ·omega
  refine ⟨rfl,by omega,(w 4 (by omega) (by omega)).trans ((z 4 (by omega) (by omega) (zs _ (by omega))).trans h2),(w 5 (by omega) (by omega)).trans ((z 5 (by omega) (by omega) (zs _ (by omega))).trans h3),ah,(w 2 (by omega) (by omega)).trans ((z 2 (by omega) (by omega) (zs _ (by omega))).trans h5),sv',?_,?_,u8⟩
  ·exact (af (by omega)).trans ah
  ·rw [List.map_append]
   exact r1.same fun b' hb'=>w b' (by have:=u8 b' hb'; omega) (by have:=u8 b' hb'; omega)
 ·refine ⟨Nat.le_refl _,?_,?_,ah,?_,.esl,?_,.nil,fun b' hb'=>(by cases hb')⟩
  ·rfl
  ·rfl
  ·rfl
  ·rfl
 ·rintro r H' nx' ⟨h1,h2,h3,h4,h5,sv,h6,h7,h8⟩
  refine .inl ⟨h4,?_⟩
  obtain ⟨q1,q2⟩:=h7.one
  (have zz:=aI @h5 (aI @h6 (aI @q1 @q2)); repeat' (first|refine zW ?_|apply a_n|refine zO ?_|refine vY ?_|refine stY ?_|refine ak rfl ?_|refine r2Y ?_|fail)) <;> (try clear zz)
  refine jP ?_ rfl
  have hw:Row (aq (bK H' 6) 2 [.int .i64 d,sv]) 1 sv ((R.map (c9 S)).map bg):=h7.same fun b' hb'=>by have:=h8 b' hb'; rw [af (by omega),bJ (by omega)]
  exact hw.snapV
end Go.Proofs.Ytfcenbapjhecfaa
namespace Go.Proofs.Ytfcenbapjhecfaa
open Go Go.Abs
attribute [local irreducible] aD aj aX aP aH aK az aL aR bd Go.Abs.Fn aO Go.Abs.Pure av aF Yl
end Go.Proofs.Ytfcenbapjhecfaa
namespace Go.Proofs.Ytfcenbapjhecfaa
open Go Go.Abs
attribute [local irreducible] aD aj aX aP aH aK az aL aR bd Go.Abs.Fn aO Go.Abs.Pure av aF Yl
end Go.Proofs.Ytfcenbapjhecfaa
namespace Go.Proofs.Ytfcenbapjhecfaa
open Go Go.Abs
attribute [local irreducible] aD aj aX aP aH aK az aL aR bd Go.Abs.Fn aO Go.Abs.Pure av aF Yl
end Go.Proofs.Ytfcenbapjhecfaa
namespace Go.Proofs.Ytfcenbapjhecfaa
open Go Go.Abs
def pB (l:List Int):Prop:=l.Pairwise (· < ·)
theorem jL:∀ (n:Nat) (a b:List Int),a.length + b.length ≤ n→pB a→pB b→pB (ed a b)∧∀ z,z ∈ ed a b ↔ (z ∈ a∧z ∉ b) ∨ (z ∈ b∧z ∉ a)
 | _,[],b,_,_,hb=>by rw [nr]; exact ⟨hb,fun z=>by simp⟩
 | _,x :: a,[],_,ha,_=>by rw [pn]; exact ⟨ha,fun z=>by simp⟩
 | 0,x :: a,y :: b,h,_,_=>by simp only [List.length_cons] at h; omega
 | n + 1,x :: a,y :: b,h,ha,hb=>by
  simp only [List.length_cons] at h
  obtain ⟨a1,a2⟩:=List.pairwise_cons.1 ha
  obtain ⟨b1,b2⟩:=List.pairwise_cons.1 hb
  rw [pV]
  by_cases g1:x < y
  ·rw [if_pos g1]
   obtain ⟨h1,h2⟩:=jL n a (y :: b) (by simp only [List.length_cons]; omega) a2 hb
   have hxb:∀ z ∈ y :: b,x < z:=fun z hz=>by
    rcases List.mem_cons.1 hz with rfl | hz
    ·exact g1
    ·have:=b1 z hz; omega
   refine ⟨List.pairwise_cons.2 ⟨fun z hz=>?_,h1⟩,fun z=>?_⟩
   ·rcases (h2 z).1 hz with ⟨q,_⟩ | ⟨q,_⟩
    ·exact a1 z q
    ·exact hxb z q
   ·rw [List.mem_cons,h2,List.mem_cons (a:=z) (b:=x)]
    by_cases hz:z=x
    ·subst hz
     have:z ∉ y :: b:=fun q=>by have:=hxb z q; omega
     simp [this]
    ·simp [hz]
  rw [if_neg g1]
  by_cases g2:y < x
  ·rw [if_pos g2]
   obtain ⟨h1,h2⟩:=jL n (x :: a) b (by simp only [List.length_cons]; omega) ha b2
   have hya:∀ z ∈ x :: a,y < z:=fun z hz=>by
    rcases List.mem_cons.1 hz with rfl | hz
    ·exact g2
    ·have:=a1 z hz; omega
   refine ⟨List.pairwise_cons.2 ⟨fun z hz=>?_,h1⟩,fun z=>?_⟩
   ·rcases (h2 z).1 hz with ⟨q,_⟩ | ⟨q,_⟩
    ·exact hya z q
    ·exact b1 z q
   ·rw [List.mem_cons,h2,List.mem_cons (a:=z) (b:=y)]
    by_cases hz:z=y
    ·subst hz
     have:z ∉ x :: a:=fun q=>by have:=hya z q; omega
     simp [this]
    ·simp [hz]
  rw [if_neg g2]
  obtain rfl:x=y:=by omega
  obtain ⟨h1,h2⟩:=jL n a b (by omega) a2 b2
  refine ⟨h1,fun z=>?_⟩
  rw [h2]
  by_cases hz:z=x
  ·subst hz
   have q1:z ∉ a:=fun q=>by have:=a1 z q; omega
   have q2:z ∉ b:=fun q=>by have:=b1 z q; omega
   simp [q1,q2]
  ·simp [hz]
theorem wW {l:List Int} (h:pB l) (i:Nat) (hi:i + 1 < l.length):l.getD i default < l.getD (i + 1) default:=by
 have:=(List.pairwise_iff_getElem.1 h) i (i + 1) (by omega) hi (by omega)
 simpa [List.getD,hi,show i < l.length by omega] using this
end Go.Proofs.Ytfcenbapjhecfaa
namespace Go.Proofs.Ytfcenbapjhecfaa
open Go Go.Abs
theorem pB.nodup {l:List Int} (h:pB l):l.Nodup:=List.Pairwise.imp (fun {x y} (h:x < y) e=>by omega) h
theorem kC {l:List Nat} {n:Nat}:(n:Int) ∈ cb l ↔ n ∈ l:=by
 unfold cb
 rw [List.mem_map]
 exact ⟨fun ⟨m,h1,h2⟩=>by rwa [← (by omega:m=n)],fun h=>⟨n,h,rfl⟩⟩
theorem oZ {l:List Nat} (h:l.Pairwise (· < ·)):pB (cb l):=by
 unfold cb pB
 rw [List.pairwise_map]
 exact List.Pairwise.imp (fun {a b} (h:a < b)=>by omega) h
theorem je {X Y:List Spx} {n i:Nat}:(e5 X Y n i).Pairwise (· < ·):=List.pairwise_lt_range.sublist List.filter_sublist
theorem dJ {X Y:List Spx} {n i j:Nat}:j ∈ e5 X Y n i ↔ j < n∧Y.getD i default ∈ a7 (X.getD j default):=by
 unfold e5
 simp only [List.mem_filter,List.mem_range,decide_eq_true_eq]
theorem fE {X Y:List Spx}:(cE X Y).length=Y.length:=by unfold cE; simp
theorem ns {X Y:List Spx} {i:Nat} (h:i < Y.length):(cE X Y).getD i default=cb (e5 X Y X.length i):=by
 unfold cE
 simp [List.getD,h]
theorem pI {X Y:List Spx} (hX:X.length ≤ 4096) (hY:Y.length ≤ 4096):rY X.length (cE X Y):=by
 refine ⟨by omega,by omega,by rw [fE]; exact hY,fun r hr=>?_⟩
 unfold cE at hr
 obtain ⟨i,hi,rfl⟩:=List.mem_map.1 hr
 refine ⟨fun v hv=>?_,?_,wW (oZ je)⟩
 ·unfold cb at hv
  obtain ⟨j,hj,rfl⟩:=List.mem_map.1 hv
  have:=(dJ.1 hj).1
  omega
 ·unfold cb
  rw [List.length_map]
  exact Nat.le_trans qi hX
theorem oW {Y:List Spx} {f:Spx} (h:f ∈ Y):Y.idxOf f < Y.length∧Y.getD (Y.idxOf f) default=f:=by
 have hl:=List.idxOf_lt_length_iff.2 h
 exact ⟨hl,by simp [List.getD,hl]⟩
theorem vj {X Y Z:List Spx} {i:Nat} (hi:i < Z.length) (hY:∀ s ∈ Y,bo bv s) (hX:∀ s ∈ X,bo bv s) (hYa:bo aM Y) (hin:∀ s ∈ X,∀ f ∈ a7 s,f ∈ Y):c9 (cE X Y) (cb (e5 Y Z Y.length i))=[]:=by
 have hkey:∀ (l:List Nat),l.Pairwise (· < ·)→(∀ j ∈ l,j < Y.length)→∀ k,k ≤ l.length→pB (c9 (cE X Y) (cb (l.take k)))∧∀ x:Nat,(x:Int) ∈ c9 (cE X Y) (cb (l.take k)) ↔ ((l.take k).filter fun j=>decide (x < X.length∧Y.getD j default ∈ a7 (X.getD x default))).length % 2=1:=by
  intro l hl hb k
  induction k with
  | zero=>exact fun _=>⟨List.Pairwise.nil,fun x=>⟨fun h=>(by cases h),fun h=>absurd h (by simp)⟩⟩
  | succ k ih =>
   intro hk
   obtain ⟨h1,h2⟩:=ih (by omega)
   rw [bB (by omega)]
   have hj:=hb _ (aJ (l:=l) (k:=k) (by omega))
   generalize l.getD k default=j at *
   rw [show cb (l.take k ++ [j])=cb (l.take k) ++ [(j:Int)] by unfold cb; simp,mW,Int.toNat_natCast,ns hj]
   obtain ⟨h3,h4⟩:=jL _ _ _ (Nat.le_refl _) h1 (oZ (je (X:=X) (Y:=Y) (n:=X.length) (i:=j)))
   refine ⟨h3,fun x=>?_⟩
   rw [h4,h2,kC,dJ,List.filter_append,List.length_append]
   by_cases hx:x < X.length∧Y.getD j default ∈ a7 (X.getD x default)
   ·rw [List.filter_cons_of_pos (by simpa using hx)]
    simp only [hx,not_true_eq_false,and_false,true_and,false_or,List.filter_nil,List.length_cons,List.length_nil,Nat.zero_add,and_self]
    omega
   ·rw [List.filter_cons_of_neg (by simpa using hx)]
    simp only [hx,not_false_eq_true,and_true,false_and,or_false,List.filter_nil,List.length_nil,Nat.add_zero]
 obtain ⟨r1,r2⟩:=hkey (e5 Y Z Y.length i) je (fun j hj=>(dJ.1 hj).1) _ (Nat.le_refl _)
 rw [List.take_length] at r1 r2
 refine List.eq_nil_iff_forall_not_mem.2 fun x hx=>?_
 have hnat:∀ (l:List Nat) (x:Int),(∀ j ∈ l,j < Y.length)→x ∈ c9 (cE X Y) (cb l)→∃ n:Nat,x=n:=by
  intro l
  have hS:∀ s ∈ cE X Y,∀ x ∈ s,∃ n:Nat,x=(n:Int):=fun s hs x hx=>by
   unfold cE at hs
   obtain ⟨i,_,rfl⟩:=List.mem_map.1 hs
   unfold cb at hx
   obtain ⟨n,_,rfl⟩:=List.mem_map.1 hx
   exact ⟨n,rfl⟩
  have hsum:∀ (n:Nat) (a b:List Int),a.length + b.length ≤ n→∀ x ∈ ed a b,x ∈ a ∨ x ∈ b:=by
   intro n
   induction n with
   | zero =>
    intro a b h x hx
    have ea:a=[]:=List.length_eq_zero_iff.1 (by omega)
    subst ea
    rw [nr] at hx; exact .inr hx
   | succ n ih =>
    intro a b h x hx
    match a,b with
    | [],b=>rw [nr] at hx; exact .inr hx
    | u :: a,[]=>rw [pn] at hx; exact .inl hx
    | u :: a,v :: b =>
     simp only [List.length_cons] at h
     rw [pV] at hx
     split at hx
     ·rcases List.mem_cons.1 hx with rfl | hx
      ·exact .inl List.mem_cons_self
      ·rcases ih a (v :: b) (by simp only [List.length_cons]; omega) x hx with q | q
       ·exact .inl (List.mem_cons_of_mem _ q)
       ·exact .inr q
     split at hx
     ·rcases List.mem_cons.1 hx with rfl | hx
      ·exact .inr List.mem_cons_self
      ·rcases ih (u :: a) b (by simp only [List.length_cons]; omega) x hx with q | q
       ·exact .inl q
       ·exact .inr (List.mem_cons_of_mem _ q)
     ·rcases ih a b (by omega) x hx with q | q
      ·exact .inl (List.mem_cons_of_mem _ q)
      ·exact .inr (List.mem_cons_of_mem _ q)
  have hfold:∀ (l:List Int) (acc:List Int),(∀ x ∈ acc,∃ n:Nat,x=(n:Int))→∀ x ∈ l.foldl (fun x j=>ed x ((cE X Y).getD j.toNat default)) acc,∃ n:Nat,x=(n:Int):=by
   intro l
   induction l with
   | nil=>exact fun acc h=>h
   | cons j l ih =>
    intro acc h
    refine ih _ fun x hx=>?_
    rcases hsum _ _ _ (Nat.le_refl _) x hx with q | q
    ·exact h x q
    ·by_cases hj:j.toNat < (cE X Y).length
     ·exact hS _ (aJ hj) x q
     ·rw [show (cE X Y).getD j.toNat default=[] by unfold List.getD; rw [List.getElem?_eq_none (by omega)]; rfl] at q
      cases q
  intro x _ hx
  exact hfold _ [] (fun _ h=>(by cases h)) x hx
 obtain ⟨n,rfl⟩:=hnat _ x (fun j hj=>(dJ.1 hj).1) hx
 have hodd:=(r2 n).1 hx
 by_cases hn:n < X.length
 rotate_left
 ·rw [List.filter_eq_nil_iff.2 (fun j _=>by simp [hn])] at hodd
  exact absurd hodd (by decide)
 have hXs:=hX _ (aJ hn)
 have hfin:=hin _ (aJ hn)
 have hdd:=dd1 (X.getD n default) (Z.getD i default)
 generalize X.getD n default=s at *
 generalize hZg:Z.getD i default=g at *
 have hcnt:∀ L:List Spx,(∀ f ∈ L,bo bv f)→(L.map fun f=>(a7 f).count g).sum=(L.filter fun f=>decide (g ∈ a7 f)).length:=fun L hL=>by
  induction L with
  | nil=>rfl
  | cons f L ih =>
   have ih:=ih fun t ht=>hL t (List.mem_cons_of_mem _ ht)
   have hnd:=eH (hL f List.mem_cons_self)
   rw [List.map_cons,List.sum_cons,ih]
   by_cases hf:g ∈ a7 f
   ·have h1:=List.count_pos_iff.2 hf
    have h2:=List.nodup_iff_count.1 hnd g
    rw [List.filter_cons_of_pos (by simpa using hf),List.length_cons]; omega
   ·rw [List.filter_cons_of_neg (by simpa using hf),List.count_eq_zero_of_not_mem hf,Nat.zero_add]
 rw [hcnt _ fun f hf=>hXs.sublist (eV.1 hf).2.1] at hdd
 have hperm:(((e5 Y Z Y.length i).filter fun j=>decide (n < X.length∧Y.getD j default ∈ a7 s)).map fun j=>Y.getD j default).Perm ((a7 s).filter fun f=>decide (g ∈ a7 f)):=by
  refine (List.perm_ext_iff_of_nodup ?_ ((eH hXs).sublist List.filter_sublist)).2 fun f=>?_
  ·refine List.nodup_iff_pairwise_ne.2 ?_
   rw [List.pairwise_map]
   refine List.Pairwise.imp_of_mem (fun {j j'} hj hj' hlt e=>?_) (je.sublist List.filter_sublist)
   have h2:=(dJ.1 (List.mem_filter.1 hj').1).1
   have:=ce hYa hlt h2
   rw [e,de] at this
   omega
  ·rw [List.mem_map,List.mem_filter,decide_eq_true_eq]
   constructor
   ·rintro ⟨j,hj,rfl⟩
    obtain ⟨h1,h2⟩:=List.mem_filter.1 hj
    exact ⟨(of_decide_eq_true h2).2,hZg ▸ (dJ.1 h1).2⟩
   ·rintro ⟨h1,h2⟩
    obtain ⟨h3,h4⟩:=oW (hfin f h1)
    exact ⟨Y.idxOf f,List.mem_filter.2 ⟨dJ.2 ⟨h3,by rw [h4,hZg]; exact h2⟩,decide_eq_true ⟨hn,by rw [h4]; exact h1⟩⟩,h4⟩
 have:=hperm.length_eq
 rw [List.length_map] at this
 omega
end Go.Proofs.Ytfcenbapjhecfaa
namespace Go.Proofs.Ytfcenbapjhecfaa
open Go Go.Abs
attribute [local irreducible] aD aj aX aP aH aK az aL aR bd Go.Abs.Fn aO Go.Abs.Pure av aF Yl
theorem zu {l:List (List Int)} {k:Nat} (h:k < l.length):cR 1 (bi l) (.int .i64 (k:Int))=some (.iptr [bg (l.getD k default)] 0):=by
 rw [gd,if_pos ⟨by omega,by omega⟩,Int.toNat_natCast]
theorem ju {l:List (List Int)}:bE (bi l)=some (.int .i64 l.length):=kX
end Go.Proofs.Ytfcenbapjhecfaa
namespace Go.Proofs.Ytfcenbapjhecfaa
open Go Go.Abs
def trF (R:List (List Int)) (n q:Nat):List Nat:=(List.range n).filter fun i=>decide ((q:Int) ∈ R.getD i default)
theorem vU {R:List (List Int)} {n q:Nat}:trF R (n + 1) q=trF R n q ++ if (q:Int) ∈ R.getD n default then [n] else []:=by
 unfold trF
 rw [List.range_succ,List.filter_append]
 congr 1
 by_cases h:(q:Int) ∈ R.getD n default
 ·rw [if_pos h,List.filter_cons_of_pos (by simpa using h)]; rfl
 ·rw [if_neg h,List.filter_cons_of_neg (by simpa using h)]; rfl
theorem xP {R:List (List Int)} {n q:Nat}:(trF R n q).length ≤ n:=by
 unfold trF
 exact Nat.le_trans (List.length_filter_le _ _) (by simp)
def trL (c:Nat) (R:List (List Int)):List (List Int):=(List.range c).map fun q=>cb (trF R R.length q)
attribute [local irreducible] aD aj aX aP aH aK az aL aR bd Go.Abs.Fn aO Go.Abs.Pure av aF Yl
set_option maxHeartbeats 2000000 in
theorem qM (c:Nat) (R:List (List Int)) (hm:rY c R):Pure Try.prog 33 [fe c R] (.tup [fe R.length (trL c R),.int .i64 0]):=by
 refine Pure.of_c2 follows B6 (Nat.le_of_ble_eq_true rfl) ?_
 simp only [b33,cO,cG,cN,cM,cD,cF,cB,aB,aS]
 have h1:=i6 c R hm
 have z0:decide ((0:Int) ≠ 0)=false:=rfl
 have dm:Dat (.agg [.int .i64 c,bi R]):=cH c R
 obtain ⟨m1,m2,m3,m4⟩:=hm
 have hzc:aY (AV.agg [AV.esl]) c=List.replicate c .esl:=by simp [aY,AV.cells]
 unfold fe
 (have zz:=aI @z0 @ju; repeat' (first|refine zW ?_|apply a_n|refine zO ?_|refine vY ?_|refine cY ?_ (hp:=h1)|refine alY ?_|refine bxY ?_|refine cFY ?_|fail)) <;> (try clear zz)
 refine sP (k1:=.i64) (k2:=.i64) (n:=c) (m:=c) rfl ev0 ev0 (by omega) (Int.le_refl _) (by omega) (by omega) ?_
 rw [Int.toNat_natCast,hzc,Nat.mul_one]
 (have zz:=@ju; repeat' (first|refine zW ?_|apply a_n|refine zO ?_|refine vY ?_|refine alY ?_|refine stY ?_|fail)) <;> (try clear zz)
 refine ba (X:=Nat × List AV) (fun x=>[(2,.ptr 1 2 0),(5,.ptr 3 2 0),(24,bi R),(25,.int .i64 R.length),(26,.int .i64 x.1)]) (fun x H' nx'=>x.1 ≤ R.length∧4 ≤ nx'∧H' 1=some [.int .i64 0,.esl]∧H' 3=some [.int .i64 R.length,.msl 2 c 1 0 c]∧MatOk H' 2 4 nx' c (trF R x.1) x.2) (fun x=>R.length - x.1) (0,List.replicate c .esl) ⟨Nat.zero_le _,Nat.le_refl _,by (repeat rw [af (by omega)]); rw [ah],by rw [ah]; rfl,MatOk.new (by (repeat rw [af (by omega)]); rw [ah]) (fun j _=>rfl)⟩ (by (iterate 5 refine And.intro rfl ?_); trivial) ?_
 rintro ⟨i,vs⟩ H nx ⟨i1,i2,g1,g3,hmat⟩
 dsimp only at i1 i2 g1 g3 hmat ⊢
 by_cases hi:i < R.length
 rotate_left
 ·obtain rfl:i=R.length:=by omega
  have hst:Snap (aq H 1 [.int .i64 R.length,.msl 2 c 1 0 c]) (.msl 2 c 1 0 c) (bi (trL c R)):=(hmat.same (hi':=nx) (G:=trF R R.length) (af (by omega)) (fun x x1 x2 x3=>af (by omega)) (Nat.le_refl _) (fun j _=>rfl)).snap
  (have zz:=aI @g1 @g3; repeat' (first|refine zW ?_|apply a_n|apply a_x|refine zO ?_|refine vY ?_|refine stY ?_|(refine zGY ?_ ?_ <;> (intro _hg; try (exfalso; omega)))|refine ak rfl ?_|refine r2Y ?_|fail)) <;> (try clear zz)
  exact jP hst rfl
 have ix:=zu hi
 have hrow:=m4 _ (aJ hi)
 have hF:∀ q,trF R (i + 1) q=trF R i q ++ if (q:Int) ∈ R.getD i default then [i] else []:=fun q=>vU
 generalize R.getD i default=r at *
 have hrasc:∀ j,j < r.length→r.getD j default ∉ r.take j:=fun j hj hm=>by
  have hchain:∀ b a,a < b→b < r.length→r.getD a default < r.getD b default:=fun b=>by
   induction b with
   | zero=>intro a ha; omega
   | succ b ih =>
    intro a ha hb
    have q:=hrow.2.2 b hb
    rcases (by omega:a < b ∨ a=b) with h | rfl
    ·have:=ih a h (by omega); omega
    ·exact q
  obtain ⟨a,ha,e⟩:=List.getElem_of_mem hm
  rw [List.length_take] at ha
  have h5:=hchain j a (by omega) hj
  have e2:r.getD a default=r.getD j default:=by rw [← e]; simp [List.getD,show a < r.length by omega]
  omega
 (have zz:=@ix; repeat' (first|refine zW ?_|apply a_n|refine zO ?_|refine vY ?_|(refine zGY ?_ ?_ <;> (intro _hg; try (exfalso; omega)))|fail)) <;> (try clear zz)
 refine ba (X:=Nat × List AV) (fun x=>[(2,.ptr 1 2 0),(5,.ptr 3 2 0),(6,.int .i64 i),(24,bi R),(25,.int .i64 R.length),(26,.int .i64 i),(31,bg r),(32,.int .i64 r.length),(33,.int .i64 x.1)]) (fun x H' nx'=>x.1 ≤ r.length∧nx ≤ nx'∧H' 1=some [.int .i64 0,.esl]∧H' 3=some [.int .i64 R.length,.msl 2 c 1 0 c]∧MatOk H' 2 4 nx' c (fun q=>trF R i q ++ if (q:Int) ∈ r.take x.1 then [i] else []) x.2) (fun x=>r.length - x.1) (0,vs) ⟨Nat.zero_le _,Nat.le_refl _,g1,g3,hmat.same rfl (fun _ _ _ _=>rfl) (Nat.le_refl _) (fun j _=>by simp)⟩ (by (iterate 9 refine And.intro rfl ?_); trivial) ?_
 clear hmat g1 g3
 rintro ⟨j,vs⟩ H' nx' ⟨j1,j2,g1,g3,hmat⟩
 dsimp only at j1 g1 g3 hmat ⊢
 by_cases hj:j < r.length
 rotate_left
 ·rw [List.take_of_length_le (by omega)] at hmat
  (have zz:=and_self; repeat' (first|refine zW ?_|apply a_n|apply a_x|refine zO ?_|refine vY ?_|(refine zGY ?_ ?_ <;> (intro _hg; try (exfalso; omega)))|fail)) <;> (try clear zz)
  exact ⟨(i + 1,vs),by dsimp only; omega,⟨by dsimp only; omega,by omega,g1,g3,hmat.same rfl (fun _ _ _ _=>rfl) (Nat.le_refl _) (fun q _=>hF q)⟩,ag0⟩
 have iy:=ixV hj
 have hjr:=hrow.1 _ (aJ hj)
 have htk:=bB hj
 have hnm:=hrasc j hj
 generalize r.getD j default=v at *
 obtain ⟨p,rfl⟩:∃ p:Nat,v=p:=⟨v.toNat,by omega⟩
 have p1:p < c:=by omega
 (have zz:=@iy; repeat' (first|refine zW ?_|apply a_n|refine zO ?_|refine vY ?_|(refine zGY ?_ ?_ <;> (intro _hg; try (exfalso; omega)))|fail)) <;> (try clear zz)
 refine mb 3 2 g3 hmat.box (by omega) fun S0 hS1 hS2 hsub=>?_
 have hFp:trF R i p ++ (if (p:Int) ∈ r.take j then [i] else [])=trF R i p:=by rw [if_neg hnm,List.append_nil]
 have hrow2:=hmat.row p p1
 rw [hFp] at hrow2
 have hvs:vs[p]?=some (vs.getD p .undef):=by
  have:=hmat.len
  simp [List.getD,show p < vs.length by omega]
 have hlen:=hmat.len
 have hb3:∀ b,bT (vs.getD p .undef)=some b→4 ≤ b∧b < nx'∧b ≠ 2:=fun b hb=>hmat.bnd p b p1 hb
 have hFl:=xP (R:=R) (n:=i) (q:=p)
 generalize hrv:vs.getD p .undef=rv at *
 (have zz:=aI @hS1 (aI @hS2 (aI @hvs @hlen)); repeat' (first|apply a_n|refine zO ?_|refine nvY ?_|fail)) <;> (try clear zz)
 refine fw ?_
 (have zz:=and_self; repeat' (first|apply a_n|refine zO ?_|refine blY ?_|fail)) <;> (try clear zz)
 refine ⟨hsub _ (by rw [af (by omega)]; exact g3) (by rw [af (by omega)]; exact hmat.box),?_⟩
 refine fw ?_
 refine dK rfl ev0 (hrow2.same fun b hb=>?_) ev0 bC rfl rfl Nat.one_pos (by rw [List.length_map]; omega) (by rw [List.length_map]; omega) ?_
 ·have:=hb3 b hb; rw [af (by omega)]
 rintro s2 H4 nx4 hr2 k1 k2 k3 k4
 have lo:∀ x,x < nx'→bT rv ≠ some x→H4 x=H' x:=fun x x1 x2=>(k3 x (by omega) x2).trans (af (by omega))
 have l5:∀ x,x < 4→H4 x=H' x:=fun x hx=>lo x (by omega) (fun h=>by have:=hb3 _ h; omega)
 have q2:=(l5 2 (by omega)).trans hmat.box
 have q3:=(l5 3 (by omega)).trans g3
 obtain ⟨o1,o2⟩:=hr2.one
 refine lg ⟨hsub _ q3 q2,?_⟩
 have hlp:br vs p [s2]=vs.set p s2:=by
  simp only [br,List.length_cons,List.length_nil,Nat.zero_add]
  rw [List.set_eq_take_append_cons_drop,if_pos (by omega)]; simp
 (have zz:=aI @q2 (aI @o1 (aI @o2 (aI @hlen @hlp))); repeat' (first|apply a_n|refine zO ?_|refine vY ?_|refine nvY ?_|apply gr|refine stY ?_|fail)) <;> (try clear zz)
 refine ⟨(j + 1,vs.set p s2),by dsimp only; omega,⟨by dsimp only; omega,by omega,?_,?_,?_⟩,ag0⟩
 ·rw [af (by omega),l5 _ (by omega)]; exact g1
 ·rw [af (by omega)]; exact q3
 ·dsimp only
  refine hmat.put (sv:=s2) (x:=i) p1 (fun q hq=>?_) ?_ (fun b hb=>?_) (by rw [ah,hlp]) (fun x x1 x2 x3 x4=>?_) (by omega) (by omega)
  ·rw [htk]
   by_cases e:q=p
   ·subst e
    rw [if_pos rfl,if_neg hnm,if_pos (List.mem_append_right _ (List.mem_singleton.2 rfl)),List.append_nil]
   ·rw [if_neg e]
    congr 1
    refine pS ?_
    rw [List.mem_append,List.mem_singleton]
    exact ⟨fun h=>h.resolve_right (by omega),.inl⟩
  ·rw [hFp,List.map_append]
   exact hr2.same fun b hb=>af (by
    rcases k4 b hb with h | h
    ·have:=hb3 b h; omega
    ·omega)
  ·rw [hrv]
   rcases k4 b hb with h | h
   ·exact .inl h
   ·exact .inr ⟨by omega,by omega,by omega⟩
  ·rw [af x3,lo x x2 (by rw [hrv] at x4; exact x4)]
theorem yd {X Y:List Spx} {q:Nat} (hq:q < X.length) (hX:∀ s ∈ X,bo bv s) (hYa:bo aM Y) (hin:∀ f ∈ a7 (X.getD q default),f ∈ Y) (h2:2 ≤ (X.getD q default).length):(cb (trF (cE X Y) (cE X Y).length q)).length=(X.getD q default).length:=by
 have hXs:=hX _ (aJ hq)
 have hperm:((trF (cE X Y) (cE X Y).length q).map fun i=>Y.getD i default).Perm (a7 (X.getD q default)):=by
  refine (List.perm_ext_iff_of_nodup ?_ (eH hXs)).2 fun f=>?_
  ·refine List.nodup_iff_pairwise_ne.2 ?_
   rw [List.pairwise_map]
   refine List.Pairwise.imp_of_mem (fun {j j'} hj hj' hlt e=>?_) (List.pairwise_lt_range.sublist List.filter_sublist)
   have h3:=List.mem_range.1 (List.mem_filter.1 hj').1
   rw [fE] at h3
   have:=ce hYa hlt h3
   rw [e,de] at this
   omega
  ·rw [List.mem_map]
   constructor
   ·rintro ⟨j,hj,rfl⟩
    obtain ⟨h3,h4⟩:=List.mem_filter.1 hj
    have h3:=List.mem_range.1 h3
    rw [fE] at h3
    have h4:=of_decide_eq_true h4
    rw [ns h3,kC,dJ] at h4
    exact h4.2
   ·intro hf
    obtain ⟨h3,h4⟩:=oW (hin f hf)
    refine ⟨Y.idxOf f,List.mem_filter.2 ⟨List.mem_range.2 (by rw [fE]; exact h3),decide_eq_true ?_⟩,h4⟩
    rw [ns h3,kC,dJ,h4]
    exact ⟨hq,hf⟩
 have:=hperm.length_eq
 rw [List.length_map,← jd.length_eq,lI h2] at this
 unfold cb
 rw [List.length_map]; exact this
end Go.Proofs.Ytfcenbapjhecfaa
namespace Go.Proofs.Ytfcenbapjhecfaa
open Go Go.Abs
theorem A6 (m:Nat) {dm:Nat} (hm:0 < m):∀ tb tf,aZ .rem tb tf (.int .u8 (dm:Int)) (.int .u8 (m:Int))=some (.int .u8 ((dm % m:Nat):Int)):=fun _ _=>(xq (by omega) (by omega)).trans (by rw [Int.natCast_emod])
theorem AM {q:Nat} (h:q < 4):IntKind.wrap .i64 (q:Int)=q:=by
 rcases (by omega:q=0 ∨ q=1 ∨ q=2 ∨ q=3) with rfl | rfl | rfl | rfl <;> decide
attribute [local irreducible] aD aj aX aP aH aK az aL aR bd Go.Abs.Fn aO Go.Abs.Pure av aF Yl
set_option maxHeartbeats 2000000 in
theorem qG (c:List Spx) (dm:Nat) (hc:Shn c∧∀ s ∈ c,Shn s) (hd:dm < 256):Pure Try.prog 9 [fc c,.int .u8 dm] (.bool true):=by
 refine Pure.of_c2 follows is9 (Nat.le_of_ble_eq_true rfl) ?_
 simp only [b9,cO,cG,cN,cM,cD,cF,cB,aB,aS]
 have hrem:=A6 3 (dm:=dm) (by omega)
 have hk3:dm % 3 < 3:=Nat.mod_lt _ (by omega)
 have hw:=AM (q:=dm % 3) (by omega)
 have e3:((3:Nat):Int)=3:=rfl
 rw [e3] at hrem
 generalize dm % 3=k at *
 have f1:=xd c hc.1 hc.2
 have f2:=xx c hc.1 hc.2
 have z0:decide ((0:Int) ≠ 0)=false:=rfl
 cases e1:ia c
 ·rw [e1] at f1
  (have zz:=aI @au (aI @am (aI @hrem @hw)); repeat' (first|refine zW ?_|apply a_n|apply a_r|refine zO ?_|refine vY ?_|refine cY ?_ (hp:=by first | exact f1 | exact lS) (hs:=by (first | refine ac ?_ rfl | apply ag); (repeat' (first | exact aa | apply an | apply ai | exact bA _)); first | done | fail)|refine bxY ?_|refine gFY ?_|refine cTY ?_|refine ak rfl ?_|refine r1Y ?_|fail)) <;> (try clear zz)
  exact .bool _
 rw [e1] at f1
 obtain ⟨fc1,fc2⟩:=sd.1 e1
 by_cases he:be c=0
 rotate_left
 ·have z:decide (be c ≠ 0)=true:=decide_eq_true he
  (have zz:=aI @au (aI @am (aI @hrem (aI @hw @z))); repeat' (first|refine zW ?_|apply a_n|apply a_r|refine zO ?_|refine vY ?_|refine cY ?_ (hp:=by first | exact f1 | exact f2 | exact lS) (hs:=by (first | refine ac ?_ rfl | apply ag); (repeat' (first | exact aa | apply an | apply ai | exact bA _)); first | done | fail)|refine bxY ?_|refine gTY ?_|refine cTY ?_|refine ak rfl ?_|refine r1Y ?_|fail)) <;> (try clear zz)
  exact .bool _
 rw [he] at f2
 have s1:=p6 c ((k:Int) + 1) (by omega) hc.2
 have s2:=p6 c ((k:Int) + 1 + 1) (by omega) hc.2
 have eT:∀ d:Int,0 ≤ d→d < 8→kS c d=(((((b0 c (d + 1)).length:Nat):Int),cE (b0 c (d + 1)) (b0 c d)),0):=fun d h1 h2=>by
  unfold kS
  rw [if_neg (fun h=>h he),if_neg (by omega)]
 rw [eT _ (by omega) (by omega)] at s1 s2
 have hl8:=fun s hs=>(cz ((fT he).2.1 s hs)).2.1
 have a1:=wC c (k + 2) (by omega) hl8 (by omega)
 have a2:=wC c (k + 3) (by omega) hl8 (by omega)
 have eA:∀ m:Nat,0 < m→ir c m=b0 c (m:Int):=fun m h=>by unfold b0; rw [if_neg (by omega),Int.toNat_natCast]
 rw [eA _ (by omega),show ((k + 2:Nat):Int)=(k:Int) + 1 + 1 by omega] at a1
 rw [eA _ (by omega),show ((k + 3:Nat):Int)=(k:Int) + 1 + 2 by omega] at a2
 rw [show (k:Int) + 1 + 1 + 1=(k:Int) + 1 + 2 by omega] at s2
 have l0:=eP (d:=(k:Int) + 1) (show c.length ≤ 50 by omega) he
 have l1:=eP (d:=(k:Int) + 1 + 1) (show c.length ≤ 50 by omega) he
 have l2:=eP (d:=(k:Int) + 1 + 2) (show c.length ≤ 50 by omega) he
 have m1:=jf (ff (c:=c) (d:=(k:Int) + 1 + 1) he)
 have m2:=jf (ff (c:=c) (d:=(k:Int) + 1 + 2) he)
 have n0:=im (c:=c) (d:=(k:Int) + 1)
 have n1:=im (c:=c) (d:=(k:Int) + 1 + 1)
 have h1:=fun s f=>mL (c:=c) (d:=(k:Int) + 1) (s:=s) (f:=f)
 have h2:=fun s f=>mL (c:=c) (d:=(k:Int) + 1 + 1) (s:=s) (f:=f)
 have hlen:∀ s ∈ b0 c ((k:Int) + 1 + 1),s.length=k + 2:=fun s hs=>by have:=(hU.1 hs).2.1; omega
 rw [show (k:Int) + 1 + 1 + 1=(k:Int) + 1 + 2 by omega] at h2
 generalize b0 c ((k:Int) + 1)=Y at *
 generalize b0 c ((k:Int) + 1 + 1)=X at *
 generalize b0 c ((k:Int) + 1 + 2)=Z at *
 have s3:=sx (X.length:Nat) (Z.length:Nat) (cE X Y) (cE Z X) (pI (by omega) (by omega)) (pI (by omega) (by omega)) (by rw [fE])
 have s4:=qM X.length (cE X Y) (pI (by omega) (by omega))
 have hP:∀ r ∈ (cE X Y).map (c9 (cE Z X)),r=[]:=fun r hr=>by
  obtain ⟨u,u1,rfl⟩:=List.mem_map.1 hr
  unfold cE at u1
  obtain ⟨i,i1,rfl⟩:=List.mem_map.1 u1
  exact vj (List.mem_range.1 i1) m1 m2 n1 (fun s hs f hf=>h2 s f hs hf)
 have hT:∀ r ∈ trL X.length (cE X Y),r.length=k + 2:=fun r hr=>by
  unfold trL at hr
  obtain ⟨q,q1,rfl⟩:=List.mem_map.1 hr
  have hq:=List.mem_range.1 q1
  have hx:=aJ hq
  rw [yd hq m1 n0 (fun f hf=>h1 _ f hx hf) (by rw [hlen _ hx]; omega),hlen _ hx]
 have hTl:(trL X.length (cE X Y)).length=X.length:=by unfold trL; simp
 have hPl:((cE X Y).map (c9 (cE Z X))).length ≤ 4096:=by rw [List.length_map,fE]; omega
 have d1:=cH (X.length:Nat) (cE X Y)
 have d2:=cH (Z.length:Nat) (cE Z X)
 unfold fe at s1 s2 s3 s4 d1 d2
 have zX:decide (((X.length:Nat):Int) ≠ ((X.length:Nat):Int))=false:=by simp
 have zZ:decide (((Z.length:Nat):Int) ≠ ((Z.length:Nat):Int))=false:=by simp
 dsimp only at s1 s2
 generalize (cE X Y).map (c9 (cE Z X))=P at *
 generalize trL X.length (cE X Y)=T at *
 generalize cE X Y=M at *
 generalize cE Z X=N at *
 (have zz:=aI @au (aI @am (aI @ae (aI @ju (aI @hrem (aI @hw (aI @z0 (aI @zX (aI @zZ @hTl)))))))); repeat' (first|refine zW ?_|refine zM ?_|apply a_n|refine zO ?_|refine vY ?_|refine cY ?_ (hp:=by first | exact f1 | exact f2 | exact s1 | exact s2 | exact s3 | exact s4 | exact a1 | exact a2 | exact lS) (hs:=by (first | refine ac ?_ rfl | apply ag); (repeat' (first | exact aa | apply an | apply ai | exact bA _ | exact aC _ | exact d1 | exact d2)); first | done | fail)|refine alY ?_|refine bxY ?_|refine stY ?_|refine gTY ?_|(refine zGY ?_ ?_ <;> (intro _hg; try (exfalso; omega)))|refine cFY ?_|fail)) <;> (try clear zz)
 refine ba (X:=Nat) (fun i=>[(5,.int .i64 ((k:Int) + 1)),(12,.ptr 4 2 0),(85,bi P),(86,.int .i64 P.length),(87,.int .i64 i)]) (fun i H nx=>i ≤ P.length∧H 4=some [.int .i64 M.length,bi T]) (fun i=>P.length - i) 0 ⟨Nat.zero_le _,by rw [ah]; rfl⟩ (by (iterate 5 refine And.intro rfl ?_); trivial) ?_
 clear s1 s2 s3 s4 a1 a2
 rintro i H nx ⟨i1,g4⟩
 by_cases hi:i < P.length
 ·have ix:=zu hi
  rw [hP _ (aJ hi)] at ix
  have al:bE (bg [])=some (.int .i64 0):=rfl
  (have zz:=aI @ix @al; repeat' (first|refine zW ?_|apply a_n|refine zO ?_|refine vY ?_|(refine zGY ?_ ?_ <;> (intro _hg; try (exfalso; omega)))|fail)) <;> (try clear zz)
  exact ⟨i + 1,by omega,⟨by omega,g4⟩,ag0⟩
 (have zz:=aI @g4 (aI @ju @hTl); repeat' (first|refine zW ?_|apply a_n|apply a_x|refine zO ?_|refine vY ?_|(refine zGY ?_ ?_ <;> (intro _hg; try (exfalso; omega)))|fail)) <;> (try clear zz)
 refine ba (X:=Nat) (fun j=>[(5,.int .i64 ((k:Int) + 1)),(96,bi T),(97,.int .i64 X.length),(98,.int .i64 j)]) (fun j H nx=>j ≤ X.length) (fun j=>X.length - j) 0 (Nat.zero_le _) (by (iterate 4 refine And.intro rfl ?_); trivial) ?_
 rintro j H nx j1
 by_cases hj:j < X.length
 ·have ix:=zu (l:=T) (k:=j) (by omega)
  have hr:=hT _ (aJ (l:=T) (k:=j) (by omega))
  generalize T.getD j default=r at *
  have z:decide ((r.length:Int) ≠ (k:Int) + 1 + 1)=false:=decide_eq_false (by omega)
  (have zz:=aI @ix (aI @xe @z); repeat' (first|refine zW ?_|apply a_n|refine zO ?_|refine vY ?_|refine cFY ?_|(refine zGY ?_ ?_ <;> (intro _hg; try (exfalso; omega)))|fail)) <;> (try clear zz)
  exact ⟨j + 1,by omega,by omega,ag0⟩
 (have zz:=and_self; repeat' (first|refine zW ?_|apply a_n|apply a_x|refine zO ?_|refine vY ?_|refine cY ?_ (hp:=lS) (hs:=by (first | refine ac ?_ rfl | apply ag); (repeat' (first | exact aa | apply an | apply ai | exact dr _)); first | done | fail)|(refine zGY ?_ ?_ <;> (intro _hg; try (exfalso; omega)))|refine ak rfl ?_|refine r1Y ?_|fail)) <;> (try clear zz)
 exact .bool _
end Go.Proofs.Ytfcenbapjhecfaa
namespace Go.Proofs.Ytfcenbapjhecfaa
open Go Go.Abs Go.RowKit
section
variable {H:Type} {enc:TypeId × Value→H} {W:World}
theorem oi:cS enc Try.prog W 3 (AV.int .i64) (fun n=>(Lit.int .i64 n).wf=true):=oV Try.underlying3
set_option maxRecDepth 100000 in
theorem Bb:cS enc Try.prog W 101 bQ (fun _=>True) :=
 (i9 Try.underlying101 (by kernel_rfl) (gW (off:=0) (off':=1) rfl (by kernel_rfl) oi (gW (off:=1) (off':=2) rfl (by kernel_rfl) oi nI))).map
  (fun a=>(⟨a.1,a.2.1⟩:Vtx)) (fun _ _=>trivial) (fun _ _=>rfl)
theorem oXs:cS enc Try.prog W 52 aw Shn :=
 (ll Try.underlying52 (sz:=2) (by_:=16) (by kernel_rfl) (by kernel_rfl) (by omega) (fun _=>rfl) Bb).mono fun l h=>by have:=h.2.2; show _ ≤ _; omega
theorem Bl:cS enc Try.prog W 22 ar (fun l=>Shn l∧∀ x ∈ l,Shn x) :=
 (ll Try.underlying22 (sz:=1) (by_:=24) (by kernel_rfl) (by kernel_rfl) Nat.one_pos (fun _=>rfl) oXs).mono fun l h=>⟨by have:=h.2.2; show _ ≤ _; omega,h.1⟩
set_option maxRecDepth 100000 in
theorem oCx:cS enc Try.prog W 41 fc (fun l=>Shn l∧∀ x ∈ l,Shn x) :=
 (i9 Try.underlying41 (by kernel_rfl) (gW (off:=0) (off':=1) rfl (by kernel_rfl) Bl nI)).map
  (fun a=>a.1) (by rintro ⟨n,u⟩ ⟨h1,_⟩; exact h1) (fun _ _=>rfl)
end
theorem lU {f:FuncId} {xs:List AV} {vs:List Value} (h:Go.Abs.Pure Try.prog f xs (.bool true)) (w:World) (hv:bO (E0 (nT w)) w xs vs) :
    Calls Try.prog f vs.toArray w fun e w'=>e=.returned (.bool true)∧Below w.heap.size w w':=by
 refine (h.2 (nT w) w vs (fun _ h=>h) hv).mono ?_
 rintro e w' ⟨v,imm',rfl,hb,_,_,_,hr⟩
 cases hr
 exact ⟨rfl,hb⟩
theorem A1:laidOutB Try.prog=true:=by kernel_rfl
end Go.Proofs.Ytfcenbapjhecfaa
namespace Go.Proofs.Ytfcenbapjhecfaa
open Go Go.Abs Go.RowKit
section
variable {H:Type} {enc:TypeId × Value→H} {W:World}
end
end Go.Proofs.Ytfcenbapjhecfaa
namespace Go.Proofs.Ytfcenbapjhecfaa
open Go Go.Abs Go.RowKit
theorem wf8 {n:Int} (h:(Lit.int .u8 n).wf=true):0 ≤ n∧n < 256:=by
 simp only [Lit.wf,Bool.and_eq_true,decide_eq_true_eq] at h
 have h1:IntKind.min .u8=0:=by decide
 have h2:IntKind.max .u8=255:=by decide
 omega
section
variable {H:Type} {enc:TypeId × Value→H} {W:World}
theorem ou8:cS enc Try.prog W 5 (fun n:Nat=>AV.int .u8 (n:Int)) (fun n=>n < 256) :=
 (oV Try.underlying5).map (fun n=>n.toNat) (fun n h=>by
  have h2:=wf8 h
  omega) (fun n h=>by
  have h2:=wf8 h
  rw [Int.toNat_of_nonneg h2.1])
end
end Go.Proofs.Ytfcenbapjhecfaa
namespace Go.Proofs.Ytfcenbapjhecfaa
open Go Go.Abs Go.RowKit Go.ChangeShapes Go.WideShapes Go.ChangeAt
theorem nP {H:Type} {enc:TypeId × Value→H} {P:Program} {f:Func} {s:ChangeSpec} {apart fresh handsOn again:Bool} {W W':World} {args:Array Value} {v:Value} {ds gs:List (DataW H)} {before pa pv:List MemPlace}
    (hW:DataW.Whole enc P f.params.toList s.vars apart W args.toList ds gs before)
    (hres:∀ (b:Nat) (sp:Nat→Bool) (hd:Bool),DataW.TrodAll enc P W' b sp hd f.resultTypes.toList (v.resultList f.resultTypes.size) (s.fn H (ds ++ gs)).results [])
    (hargs:∀ sp:Nat→Bool,(∀ p ∈ before,sp p.block=true)→DataW.TrodAll enc P W' 0 sp true f.params.toList args.toList (s.fn H (ds ++ gs)).args pa)
    (hvars:∀ sp:Nat→Bool,(∀ p ∈ before,sp p.block=true)→DataW.TrodVars enc P W' sp s.vars (s.fn H (ds ++ gs)).vars pv)
    (hps:before=pa ++ pv) (hb:Below W.heap.size W W')
    (hok:∀ (j:Nat) (t:TypeId) (r:Value),f.resultTypes[j]?=some t→(v.resultList f.resultTypes.size)[j]?=some r→Value.okWide P W' .any 0 t r) :
    s.post enc P f apart fresh handsOn again W args v W':=by
 have hold:∀ p ∈ before,(fun b=>decide (b < W.heap.size)) p.block=true:=fun p hp=>by simpa using hW.lt p hp
 have hlt:=fun p hp=>hW.lt p hp
 refine ⟨ds,gs,before,[],pa,pv,hW,hres _ _ _,hargs _ hold,hvars _ hold,World.keptBut_mono (fun p hp=>⟨hp,?_⟩) (hb.frame _),fun _=>?_⟩
 ·rw [hps,List.mem_append] at hp
  exact Or.inr hp
 ·obtain ⟨_,_,_,_,_,hz,hn⟩:=hW
  refine ⟨hok,_,_,([] ++ pa) ++ pv,⟨[] ++ pa,pv,trodAll_append (hargs _ (fun _ _=>rfl)) (hres _ _ _),hvars _ (fun _ _=>rfl),rfl,?_,?_⟩,?_⟩
  ·intro b off hp
   have hp':MemPlace.cell b off ∈ before:=by rw [hps]; simpa using hp
   rw [hb.frozen (hlt _ hp')]
   exact hz b off hp'
  ·intro ha
   have:=hn ha
   rw [hps] at this
   simpa using this
  ·intro p hp _
   rw [hps]
   simpa using hp
theorem vL {E:Env} {w:World}:bO E w [] []:=⟨rfl,fun i x y h=>(by cases h)⟩
theorem oT {E:Env} {w:World} {x:AV} {y:Value} {xs:List AV} {ys:List Value} (h:Rel E w x y) (hs:bO E w xs ys):bO E w (x :: xs) (y :: ys):=by
 refine ⟨by simp [hs.1],fun i a b ha hb=>?_⟩
 cases i with
 | zero=>simp at ha hb; subst ha hb; exact h
 | succ i=>simp at ha hb; exact hs.2 i a b ha hb
theorem own:ownKnob Try.prog.godebug=none:=by kernel_rfl
end Go.Proofs.Ytfcenbapjhecfaa