/- Texts of this claim, one after the other: T173, T151, T139, T140, T141, T142, T171, T134, T146, T174, T175, T176, T177, T179, T143, T178, T180, T181, A33, T122, T133, T144, T147, T148, T182, T183, T118, T184, T121. -/
import Derived.Test.YtfcenbapjhecfaaXG5
import Derived.Test.YtfcenbapjhecfaaXG4
import Derived.Test.YtfcenbapjhecfaaXG3
import Derived.Test.YtfcenbapjhecfaaRows
import Derived.WalkKit
import Derived.ProofKit
import Derived.OpenShut

set_option linter.unusedSimpArgs false
set_option linter.unusedVariables false
namespace Go.Proofs.Ytfcenbapjhecfaa
open Go Go.Abs
theorem eI {x:Spx} {l:List Spx}:iu 1 (aq (x :: l)) (some (.int .i64 1)) none none=some (aq l):=fK (l:=x :: l) (k:=1) (by simp)
theorem qw {x:Spx} {l:List Spx}:cS 1 (aq (x :: l)) (.int .i64 0)=some (.iptr [ar x] 0):=pH (by simp)
attribute [local irreducible] aD am aZ aQ aH aL aB aM aR bf Go.Abs.Fn aP Go.Abs.Pure ax aF Yl
theorem oo (l:List Spx) (hl:l.length ≤ 100000) (hs:∀ x ∈ l,x.length ≤ 1000000):Pure Try.prog 58 [aq l] (aq l):=by
 refine Pure.of_c2 follows AZ (Nat.le_of_ble_eq_true rfl) ?_
 simp only [b58,cO,cG,cN,cM,cD,cF,cB,aA,aN]
 (have zz:=@ac; repeat' (first|refine zW ?_|apply a_n|refine zO ?_|refine vZ ?_|fail)) <;> (try clear zz)
 refine bb (X:=AV × Nat) (fun x=>[(3,x.1),(6,aq l),(7,.int .i64 l.length),(8,.int .i64 x.2)]) (fun x H nx=>x.2 ≤ l.length∧Row H 1 x.1 ((l.take x.2).map ar)∧∀ b,b4 x.1=some b→b < nx) (fun x=>l.length - x.2) (.esl,0) ⟨Nat.zero_le _,Row.nil,fun b hb=>(by cases hb)⟩ ag0 ?_
 rintro ⟨s,j⟩ H nx ⟨h1,h2,h3⟩
 dsimp only at h1 h2 h3 ⊢
 by_cases hj:j < l.length
 ·have hw:=aG hj
  have hcl:=uj _ (hs _ hw)
  have ix:=cA hj
  (have zz:=@ix; repeat' (first|refine zW ?_|apply a_n|refine zO ?_|refine vY ?_|(refine zGY ?_ ?_ <;> (intro _hg; try (exfalso; omega)))|fail)) <;> (try clear zz)
  refine bZ ev0 ev0 hcl (ap (aw _ _) aa) ?_
  (have zz:=aI @az @av; repeat' (first|apply a_n|refine zO ?_|refine blY ?_|fail)) <;> (try clear zz)
  refine dg rfl ev0 (h2.same fun b hb=>?_) ev0 bz rfl rfl Nat.one_pos (by simp; omega) (by simp; omega) ?_
  ·have:=h3 b hb
   rw [ah (by omega)]
  rintro s2 E e hrow hle1 hle2 hsame hb2
  (have zz:=and_self; repeat' (first|apply a_n|refine zO ?_|refine vY ?_|fail)) <;> (try clear zz)
  refine ⟨(s2,j + 1),by dsimp only; omega,⟨by dsimp only; omega,?_,fun b hb=>?_⟩,ag0⟩
  ·dsimp only
   rw [sd hj,List.map_append]
   exact hrow
  ·rcases hb2 b hb with h | h
   ·have:=h3 b h; omega
   ·omega
 ·(have zz:=and_self; repeat' (first|refine zW ?_|apply a_n|apply a_x|refine zO ?_|refine vY ?_|(refine zGY ?_ ?_ <;> (intro _hg; try (exfalso; omega)))|refine ai rfl ?_|refine r1Y ?_|fail)) <;> (try clear zz)
  rw [List.take_of_length_le (by omega)] at h2
  exact dq h2
theorem og (l:List Spx) (hl:Shn l) (hs:∀ x ∈ l,x.length ≤ 1000000):Pure Try.prog 38 [aq l] (.tup [aq (if 4096 < l.length then [] else l),.int .i64 (if 4096 < l.length then 5 else 0)]):=by
 refine Pure.of_c2 follows AD (Nat.le_of_ble_eq_true rfl) ?_
 simp only [b38,cO,cG,cN,cM,cD,cF,cB,aA,aN]
 have hl':l.length ≤ 17592186044416:=hl
 by_cases h:4096 < l.length
 ·have z:decide ((4096:Int) < l.length)=true:=decide_eq_true (by omega)
  rw [if_pos h,if_pos h]
  (have zz:=aI @ac @z; repeat' (first|refine zW ?_|apply a_n|apply a_r|refine zO ?_|refine vY ?_|refine cTY ?_|refine ai rfl ?_|refine r2Y ?_|fail)) <;> (try clear zz)
  exact bt (.eslsl _) rfl
 ·have z:decide ((4096:Int) < l.length)=false:=decide_eq_false (by omega)
  rw [if_neg h,if_neg h]
  have hc:=oo l (by omega) hs
  (have zz:=aI @ac @z; repeat' (first|refine zW ?_|apply a_n|refine zO ?_|refine vY ?_|refine cY ?_ (hp:=hc) (hs:=by (first | refine ab ?_ rfl | apply ae); (repeat' (first | exact aa | apply ak | apply af | exact ay _)); first | done | fail)|refine cFY ?_|refine ai rfl ?_|refine r2Y ?_|fail)) <;> (try clear zz)
  exact bt (ay _).snap rfl
theorem xD (a b:List Spx) (ha:a.length ≤ 1000000∧∀ s ∈ a,Shn s) (hb:b.length ≤ 1000000∧∀ s ∈ b,Shn s):Pure Try.prog 39 [aq a,aq b,.func 40 []] (aq (cU aJ a b)):=by
 refine Pure.of_c2 follows BN (Nat.le_of_ble_eq_true rfl) ?_
 simp only [b39,cO,cG,cN,cM,cD,cF,cB,aA,aN]
 (have zz:=and_self; repeat' (first|refine zW ?_|apply a_n|refine zO ?_|refine vZ ?_|fail)) <;> (try clear zz)
 refine bb (X:=List Spx × List Spx × List Spx × AV) (fun x=>[(0,aq x.1),(1,aq x.2.1),(2,.func 40 []),(7,x.2.2.2)]) (fun x H nx=>x.2.2.1.length + x.1.length + x.2.1.length ≤ a.length + b.length∧(∀ s ∈ x.1,Shn s)∧(∀ s ∈ x.2.1,Shn s)∧x.2.2.1 ++ cU aJ x.1 x.2.1=cU aJ a b∧Row H 1 x.2.2.2 (x.2.2.1.map ar)∧∀ b,b4 x.2.2.2=some b→b < nx) (fun x=>x.1.length + x.2.1.length) (a,b,[],.esl) ⟨by simp,ha.2,hb.2,rfl,Row.nil,fun b hb=>(by cases hb)⟩ ag0 ?_
 rintro ⟨a',b',D,sv⟩ H nx ⟨h2,ha2,hb2,h4,h5,h6⟩
 dsimp only at h2 ha2 hb2 h4 h5 h6 ⊢
 have key:∀ (x:Spx) {P:Program} {T:Tm} {dm:DM} {K:SP} {l:List Op2} {d:Option Nat} {s v:Opd},dm2 dm T (.app 1 24 s v)=true→ov T s=sv→ov T v=.msl nx 1 1 0 1 →
     (∀ (sv':AV) (H':Hp) (nx':Nat),Row H' 1 sv' ((D ++ [x]).map ar)→(∀ b,b4 sv'=some b→b < nx')→am P dm l (aC T d sv') H' nx' K) →
     D.length ≤ 2000000→am P dm (⟨d,none,.app 1 24 s v⟩ :: l) T (au H nx [ar x]) (nx + 1) K:=by
  intro x P T dm K l d s v k1 k2 k3 k4 k5
  refine dg k1 k2 (h5.same fun b hb=>?_) k3 bz rfl rfl Nat.one_pos (by rw [List.length_map]; omega) (by rw [List.length_map]; omega) ?_
  ·have:=h6 b hb
   rw [ah (by omega)]
  rintro s2 E e hrow hle1 hle2 hsame hb2
  refine k4 s2 E e (by rw [List.map_append]; exact hrow) fun b hb=>?_
  rcases hb2 b hb with h | h
  ·have:=h6 b h; omega
  ·omega
 match a',b',h2,ha2,hb2,h4 with
 | [],[],h2,ha2,hb2,h4 =>
  have al:bG (aq [])=some (.int .i64 0):=rfl
  (have zz:=@al; repeat' (first|refine zW ?_|apply a_n|apply a_x|refine zO ?_|refine vY ?_|refine gTY ?_|(refine zGY ?_ ?_ <;> (intro _hg; try (exfalso; omega)))|refine ai rfl ?_|refine r1Y ?_|fail)) <;> (try clear zz)
  rw [l7,List.append_nil] at h4
  rw [← h4]
  exact dq h5
 | x :: a2,[],h2,ha2,hb2,h4 =>
  have al:bG (aq [])=some (.int .i64 0):=rfl
  have al2:bG (aq (x :: a2))=some (.int .i64 ((a2.length:Int) + 1)):=by rw [ac,List.length_cons]; rfl
  have z1:decide ((0:Int) < (a2.length:Int) + 1)=true:=decide_eq_true (by omega)
  simp only [List.length_cons,List.length_nil] at h2
  (have zz:=aI @al (aI @al2 (aI @z1 (aI @qw (aI @eI (aI @az @av))))); repeat' (first|refine zW ?_|apply a_n|refine zO ?_|refine vY ?_|refine blY ?_|refine gFY ?_|refine cTY ?_|(refine zGY ?_ ?_ <;> (intro _hg; try (exfalso; omega)))|fail)) <;> (try clear zz)
  refine key x rfl ev0 ev0 (fun s2 H2 nx2 r1 r2=>?_) (by omega)
  (have zz:=@eI; repeat' (first|apply a_n|refine zO ?_|refine vY ?_|fail)) <;> (try clear zz)
  exact ⟨(a2,[],D ++ [x],s2),by simp,⟨by simp; omega,fun s h=>ha2 s (List.mem_cons_of_mem _ h),hb2,by dsimp only; rw [pi,List.append_assoc]; rw [pi] at h4; exact h4,r1,r2⟩,ag0⟩
 | [],y :: b2,h2,ha2,hb2,h4 =>
  have al:bG (aq [])=some (.int .i64 0):=rfl
  have al2:bG (aq (y :: b2))=some (.int .i64 ((b2.length:Int) + 1)):=by rw [ac,List.length_cons]; rfl
  have z1:decide ((0:Int) < (b2.length:Int) + 1)=true:=decide_eq_true (by omega)
  have z2:decide ((b2.length:Int) + 1=0)=false:=decide_eq_false (by omega)
  simp only [List.length_cons,List.length_nil] at h2
  (have zz:=aI @al (aI @al2 (aI @z1 (aI @z2 (aI @qw (aI @eI (aI @az @av)))))); repeat' (first|refine zW ?_|apply a_n|refine zO ?_|refine vY ?_|refine blY ?_|refine gTY ?_|refine cTY ?_|refine cFY ?_|(refine zGY ?_ ?_ <;> (intro _hg; try (exfalso; omega)))|fail)) <;> (try clear zz)
  refine key y rfl ev0 ev0 (fun s2 H2 nx2 r1 r2=>?_) (by omega)
  (have zz:=@eI; repeat' (first|apply a_n|refine zO ?_|refine vY ?_|fail)) <;> (try clear zz)
  exact ⟨([],b2,D ++ [y],s2),by simp,⟨by simp; omega,ha2,fun s h=>hb2 s (List.mem_cons_of_mem _ h),by dsimp only; rw [l7,List.append_assoc]; rw [l7] at h4; exact h4,r1,r2⟩,ag0⟩
 | x :: a2,y :: b2,h2,ha2,hb2,h4 =>
  have al1:bG (aq (x :: a2))=some (.int .i64 ((a2.length:Int) + 1)):=by rw [ac,List.length_cons]; rfl
  have al2:bG (aq (y :: b2))=some (.int .i64 ((b2.length:Int) + 1)):=by rw [ac,List.length_cons]; rfl
  have z1:decide ((0:Int) < (a2.length:Int) + 1)=true:=decide_eq_true (by omega)
  have z2:decide ((b2.length:Int) + 1=0)=false:=decide_eq_false (by omega)
  simp only [List.length_cons] at h2
  have hc:=dT x y (ha2 x List.mem_cons_self) (hb2 y List.mem_cons_self)
  rw [si] at h4
  have hsw:=gW x y
  by_cases g1:aJ x y < 0
  ·have z3:decide (aJ x y < 0)=true:=decide_eq_true g1
   rw [if_pos g1] at h4
   (have zz:=aI @al1 (aI @al2 (aI @z1 (aI @z2 (aI @z3 (aI @qw (aI @eI (aI @az @av))))))); repeat' (first|refine zW ?_|refine zM ?_|apply a_n|refine zO ?_|refine vY ?_|refine cY ?_ (hp:=hc) (hs:=by (first | refine ab ?_ rfl | apply ae); (repeat' (first | exact aa | apply ak | apply af | exact aw _)); first | done | fail)|refine blY ?_|refine gFY ?_|refine cTY ?_|refine cFY ?_|fail)) <;> (try clear zz)
   refine key x rfl ev0 ev0 (fun s2 H2 nx2 r1 r2=>?_) (by omega)
   (have zz:=@eI; repeat' (first|apply a_n|refine zO ?_|refine vY ?_|fail)) <;> (try clear zz)
   exact ⟨(a2,y :: b2,D ++ [x],s2),by simp,⟨by simp; omega,fun s h=>ha2 s (List.mem_cons_of_mem _ h),hb2,by dsimp only; rw [List.append_assoc]; exact h4,r1,r2⟩,ag0⟩
  have z3:decide (aJ x y < 0)=false:=decide_eq_false g1
  rw [if_neg g1] at h4
  by_cases g2:aJ y x < 0
  ·have z4:decide (0 < aJ x y)=true:=decide_eq_true (by omega)
   rw [if_pos g2] at h4
   (have zz:=aI @al1 (aI @al2 (aI @z1 (aI @z2 (aI @z3 (aI @z4 (aI @qw (aI @eI (aI @az @av)))))))); repeat' (first|refine zW ?_|refine zM ?_|apply a_n|refine zO ?_|refine vY ?_|refine cY ?_ (hp:=hc) (hs:=by (first | refine ab ?_ rfl | apply ae); (repeat' (first | exact aa | apply ak | apply af | exact aw _)); first | done | fail)|refine blY ?_|refine gFY ?_|refine cTY ?_|refine cFY ?_|fail)) <;> (try clear zz)
   refine key y rfl ev0 ev0 (fun s2 H2 nx2 r1 r2=>?_) (by omega)
   (have zz:=@eI; repeat' (first|apply a_n|refine zO ?_|refine vY ?_|fail)) <;> (try clear zz)
   exact ⟨(x :: a2,b2,D ++ [y],s2),by simp,⟨by simp; omega,ha2,fun s h=>hb2 s (List.mem_cons_of_mem _ h),by dsimp only; rw [List.append_assoc]; exact h4,r1,r2⟩,ag0⟩
  ·have z4:decide (0 < aJ x y)=false:=decide_eq_false (by omega)
   rw [if_neg g2] at h4
   (have zz:=aI @al1 (aI @al2 (aI @z1 (aI @z2 (aI @z3 (aI @z4 (aI @qw (aI @eI (aI @az @av)))))))); repeat' (first|refine zW ?_|refine zM ?_|apply a_n|refine zO ?_|refine vY ?_|refine cY ?_ (hp:=hc) (hs:=by (first | refine ab ?_ rfl | apply ae); (repeat' (first | exact aa | apply ak | apply af | exact aw _)); first | done | fail)|refine gFY ?_|refine cTY ?_|refine cFY ?_|fail)) <;> (try clear zz)
   exact ⟨(a2,b2,D,sv),by simp; omega,⟨by simp; omega,fun s h=>ha2 s (List.mem_cons_of_mem _ h),fun s h=>hb2 s (List.mem_cons_of_mem _ h),h4,h5,h6⟩,ag0⟩
def wJ (a b:List Spx):List Spx × Int:=if cf a ≠ 0 then ([],cf a) else if cf b ≠ 0 then ([],cf b) else if 0 < a.length∧0 < b.length∧(a.getD 0 default).length ≠ (b.getD 0 default).length then ([],15) else if 4096 < (cU aJ a b).length then ([],5) else (cU aJ a b,0)
theorem go {a:List Spx} (h:∀ s ∈ a,bd s=0):∀ s ∈ a,Shn s:=fun s hs=>by have:=(cm (h s hs)).2.1; show _ ≤ _; omega
theorem mV {a:List Spx} (h:∀ s ∈ a,bd s=0):∀ s ∈ a,s.length ≤ 1000000:=fun s hs=>by have:=(cm (h s hs)).2.1; omega
theorem fA {H:Hp} {b:Nat} {x y:List Spx} (h:H b=some [aq x,aq y]):aF H [.msl b 2 1 0 2] [du [x,y]] :=
 ap (jE (l:=[aq x,aq y]) h rfl rfl (by
  intro z hz
  simp only [List.mem_cons,List.not_mem_nil,or_false] at hz
  rcases hz with rfl | rfl
  ·exact ⟨rfl,ay _⟩
  ·exact ⟨rfl,ay _⟩)) aa
theorem uP {a:List Spx} (h:cf a=0):a.length ≤ 1000000∧∀ s ∈ a,Shn s:=⟨by have:=(dY h).1; omega,go (dY h).2.1⟩
theorem xA {a b:List Spx} (ha:cf a=0) (hb:cf b=0):∀ s ∈ cU aJ a b,bd s=0:=uR (dY ha).2.2.1 (dY hb).2.2.1 _ (dY ha).2.1 (dY hb).2.1
theorem xx (a b:List Spx) (ha:ShC a) (hb:ShC b):Pure Try.prog 12 [aq a,aq b] (.tup [aq (wJ a b).1,.int .i64 (wJ a b).2]):=by
 refine Pure.of_c2 follows Bw (Nat.le_of_ble_eq_true rfl) ?_
 simp only [b12,cO,cG,cN,cM,cD,cF,cB,aA,aN]
 have f1:=wM [a,b] (show _ ≤ _ by simp) (fun x hx=>by
  rcases List.mem_cons.1 hx with rfl | hx
  ·exact ha
  ·rw [List.mem_singleton.1 hx]; exact hb)
 have ef:iI [a,b]=if cf a ≠ 0 then cf a else if cf b ≠ 0 then cf b else 0:=rfl
 rw [ef] at f1
 unfold wJ
 by_cases h1:cf a=0
 rotate_left
 ·rw [if_pos h1]
  rw [if_pos h1] at f1
  have z:decide (cf a ≠ 0)=true:=decide_eq_true h1
  (have zz:=aI @an @ag; repeat' (first|refine zW ?_|apply a_n|refine zO ?_|refine vY ?_|refine blY ?_|fail)) <;> (try clear zz)
  refine bI ev0 ev0 f1 (ab (fA (by rw [aj])) rfl) ?_
  (have zz:=@z; repeat' (first|refine zW ?_|apply a_n|apply a_r|refine zO ?_|refine vY ?_|refine cTY ?_|refine ai rfl ?_|refine r2Y ?_|fail)) <;> (try clear zz)
  exact bt (.eslsl _) rfl
 rw [if_neg (fun q=>q h1)]
 rw [if_neg (fun q=>q h1)] at f1
 by_cases h2:cf b=0
 rotate_left
 ·rw [if_pos h2]
  rw [if_pos h2] at f1
  have z:decide (cf b ≠ 0)=true:=decide_eq_true h2
  (have zz:=aI @an @ag; repeat' (first|refine zW ?_|apply a_n|refine zO ?_|refine vY ?_|refine blY ?_|fail)) <;> (try clear zz)
  refine bI ev0 ev0 f1 (ab (fA (by rw [aj])) rfl) ?_
  (have zz:=@z; repeat' (first|refine zW ?_|apply a_n|apply a_r|refine zO ?_|refine vY ?_|refine cTY ?_|refine ai rfl ?_|refine r2Y ?_|fail)) <;> (try clear zz)
  exact bt (.eslsl _) rfl
 rw [if_neg (fun q=>q h2)]
 rw [if_neg (fun q=>q h2)] at f1
 have z:decide ((0:Int) ≠ 0)=false:=rfl
 have hm:=xD a b (uP h1) (uP h2)
 have hml:=sx (K:=aJ) (a:=a) (b:=b)
 have h14:=(dY h1).1
 have h24:=(dY h2).1
 have hlim:=og (cU aJ a b) (show _ ≤ _ by omega) (mV (xA h1 h2))
 have hfin:(if 4096 < (cU aJ a b).length then (([]:List Spx),(5:Int)) else (cU aJ a b,0))=(if 4096 < (cU aJ a b).length then [] else cU aJ a b,if 4096 < (cU aJ a b).length then 5 else 0):=by
  split <;> rfl
 rw [hfin]
 generalize (if 4096 < (cU aJ a b).length then ([]:List Spx) else cU aJ a b)=L at *
 generalize (if 4096 < (cU aJ a b).length then (5:Int) else 0)=E at *
 generalize cU aJ a b=M at *
 by_cases h3:0 < a.length∧0 < b.length∧(a.getD 0 default).length ≠ (b.getD 0 default).length
 ·rw [if_pos h3]
  have i1:=pH h3.1
  have i2:=pH h3.2.1
  have z1:decide ((0:Int) < a.length)=true:=decide_eq_true (by omega)
  have z2:decide ((0:Int) < b.length)=true:=decide_eq_true (by omega)
  have z3:decide (((a.getD 0 default).length:Int) ≠ (b.getD 0 default).length)=true:=decide_eq_true (by omega)
  (have zz:=aI @an @ag; repeat' (first|refine zW ?_|apply a_n|refine zO ?_|refine vY ?_|refine blY ?_|fail)) <;> (try clear zz)
  refine bI ev0 ev0 f1 (ab (fA (by rw [aj])) rfl) ?_
  (have zz:=aI @z (aI @z1 (aI @z2 (aI @z3 (aI @i1 (aI @i2 (aI @ac @ao)))))); repeat' (first|refine zW ?_|apply a_n|apply a_r|refine zO ?_|refine vY ?_|refine gTY ?_|refine cTY ?_|refine cFY ?_|refine ai rfl ?_|refine r2Y ?_|fail)) <;> (try clear zz)
  exact bt (.eslsl _) rfl
 ·rw [if_neg h3]
  have dc:Dat (AV.func 40 []):=Dat.func DatL.nil
  by_cases h4:0 < a.length
  ·have z1:decide ((0:Int) < a.length)=true:=decide_eq_true (by omega)
   by_cases h5:0 < b.length
   ·have i1:=pH h4
    have i2:=pH h5
    have z2:decide ((0:Int) < b.length)=true:=decide_eq_true (by omega)
    have z3:decide (((a.getD 0 default).length:Int) ≠ (b.getD 0 default).length)=false:=decide_eq_false (by omega)
    (have zz:=aI @an @ag; repeat' (first|refine zW ?_|apply a_n|refine zO ?_|refine vY ?_|refine blY ?_|fail)) <;> (try clear zz)
    refine bI ev0 ev0 f1 (ab (fA (by rw [aj])) rfl) ?_
    (have zz:=aI @z (aI @z1 (aI @z2 (aI @z3 (aI @i1 (aI @i2 (aI @ac @ao)))))); repeat' (first|refine zW ?_|apply a_n|refine zO ?_|refine vY ?_|refine cY ?_ (hp:=by first | exact hm | exact hlim) (hs:=by (first | refine ab ?_ rfl | apply ae); (repeat' (first | exact aa | apply ak | apply af | exact ay _ | exact dc)); first | done | fail)|refine gTY ?_|refine cFY ?_|refine ai rfl ?_|refine r2Y ?_|fail)) <;> (try clear zz)
    exact bt (ay _).snap rfl
   ·have z2:decide ((0:Int) < b.length)=false:=decide_eq_false (by omega)
    (have zz:=aI @an @ag; repeat' (first|refine zW ?_|apply a_n|refine zO ?_|refine vY ?_|refine blY ?_|fail)) <;> (try clear zz)
    refine bI ev0 ev0 f1 (ab (fA (by rw [aj])) rfl) ?_
    (have zz:=aI @z (aI @z1 (aI @z2 (aI @ac @ao))); repeat' (first|refine zW ?_|apply a_n|refine zO ?_|refine vY ?_|refine cY ?_ (hp:=by first | exact hm | exact hlim) (hs:=by (first | refine ab ?_ rfl | apply ae); (repeat' (first | exact aa | apply ak | apply af | exact ay _ | exact dc)); first | done | fail)|refine gTY ?_|refine gFY ?_|refine cFY ?_|refine ai rfl ?_|refine r2Y ?_|fail)) <;> (try clear zz)
    exact bt (ay _).snap rfl
  ·have z1:decide ((0:Int) < a.length)=false:=decide_eq_false (by omega)
   (have zz:=aI @an @ag; repeat' (first|refine zW ?_|apply a_n|refine zO ?_|refine vY ?_|refine blY ?_|fail)) <;> (try clear zz)
   refine bI ev0 ev0 f1 (ab (fA (by rw [aj])) rfl) ?_
   (have zz:=aI @z (aI @z1 (aI @ac @ao)); repeat' (first|refine zW ?_|apply a_n|refine zO ?_|refine vY ?_|refine cY ?_ (hp:=by first | exact hm | exact hlim) (hs:=by (first | refine ab ?_ rfl | apply ae); (repeat' (first | exact aa | apply ak | apply af | exact ay _ | exact dc)); first | done | fail)|refine gFY ?_|refine cFY ?_|refine ai rfl ?_|refine r2Y ?_|fail)) <;> (try clear zz)
   exact bt (ay _).snap rfl
end Go.Proofs.Ytfcenbapjhecfaa
namespace Go.Proofs.Ytfcenbapjhecfaa
open Go Go.Abs
section
variable {α:Type} [DecidableEq α] {K:α→α→Int}
end
section
variable {g:Vtx→Vtx}
end
end Go.Proofs.Ytfcenbapjhecfaa
namespace Go.Proofs.Ytfcenbapjhecfaa
open Go Go.Abs
open Nat (reduceEqDiff reduceAdd reduceLeDiff)
attribute [local irreducible] aD am aZ aQ aH aL aB aM aR bf Go.Abs.Fn aP Go.Abs.Pure ax aF Yl
theorem wA (l:List Spx) (k:Nat) (hl:l.length ≤ 50) (hs:∀ s ∈ l,bd s=0) (hk:1 ≤ k∧k ≤ 8):Pure Try.prog 81 [aq l,.int .i64 k] (.tup [aq (fM l k),.int .i64 0]):=by
 refine Pure.of_c2 follows AL (Nat.le_of_ble_eq_true rfl) ?_
 simp only [b81,cO,cG,cN,cM,cD,cF,cB,aA,aN]
 have h8:∀ s ∈ l,s.length ≤ 8:=fun s h=>(cm (hs s h)).2.1
 have hgood:∀ s ∈ l.flatMap (fun s=>bn s k),gy s:=fun s h=>by
  obtain ⟨t,t1,t2⟩:=gq.1 h
  exact vW (wZ (hs t t1)) hk.1 t2
 have hfl:=eP (k:=k) h8
 have z0:decide ((0:Int) ≠ 0)=false:=rfl
 (have zz:=@ac; repeat' (first|refine zW ?_|apply a_n|refine zO ?_|refine vY ?_|fail)) <;> (try clear zz)
 refine xL ?_
 (have zz:=@ac; repeat' (first|refine zW ?_|apply a_n|refine zO ?_|refine vY ?_|fail)) <;> (try clear zz)
 refine bb (X:=Nat × AV × List Spx) (fun x=>[(1,.int .i64 k),(6,.mp 0),(7,x.2.1),(15,aq l),(16,.int .i64 l.length),(17,.int .i64 x.1)]) (fun x H nx=>x.1 ≤ l.length∧1 ≤ nx∧H 0=some [.omap ((x.2.2.map kK).map eK) (x.2.2.map fun _=>.bool true)]∧Row H 1 x.2.1 (x.2.2.map ar)∧(∀ b,b4 x.2.1=some b→1 ≤ b∧b < nx)∧x.2.2.Nodup∧∀ s,s ∈ x.2.2 ↔ s ∈ (l.take x.1).flatMap fun s=>bn s k) (fun x=>l.length - x.1) (0,.esl,[]) ⟨Nat.zero_le _,by omega,aj,Row.nil,fun b h=>(by cases h),List.nodup_nil,fun s=>by simp⟩ (by (iterate 6 refine And.intro rfl ?_); trivial) ?_
 rintro ⟨i,sv,O⟩ H nx ⟨h1,hnx,g0,hrow,hbd,hnd,hmem⟩
 dsimp only at h1 g0 hrow hbd hnd hmem ⊢
 obtain ⟨o1,o2⟩:=hrow.one
 by_cases hi:i < l.length
 rotate_left
 ·rw [List.take_of_length_le (by omega)] at hmem
  have hOl:O.length ≤ 3500:=by
   have:=List.Nodup.length_le_of_subset hnd (l₂:=l.flatMap fun s=>bn s k) (fun s h=>(hmem s).1 h)
   omega
  have hsort:Abs.Fn Try.prog 73 [sv,.func 40 []] H nx fun _ H' nx'=>Row H' 1 sv ((fM l k).map ar):=by
   generalize hcs:O.map ar=cs at hrow
   cases hrow with
   | nil =>
    have hO0:O=[]:=List.map_eq_nil_iff.1 hcs
    refine Abs.Fn.mono (jg rfl) ?_
    rintro _ _ _ ⟨rfl,rfl⟩
    have:fM l k=[]:=by
     unfold fM
     rw [qo,List.eq_nil_iff_forall_not_mem]
     intro s h
     have:=(hmem s).2 h
     rw [hO0] at this; cases this
    rw [this]; exact Row.nil
   | box b len cs k1 k2 =>
    obtain rfl:len=O.length:=by rw [← hcs,List.length_map] at k2; omega
    have hb:=hbd b rfl
    subst hcs
    by_cases h0:O.length=0
    ·have hO0:O=[]:=List.length_eq_zero_iff.1 h0
     subst hO0
     refine Abs.Fn.mono (jg rfl) ?_
     rintro _ _ _ ⟨rfl,rfl⟩
     have:fM l k=[]:=by
      unfold fM
      rw [qo,List.eq_nil_iff_forall_not_mem]
      intro s h
      have:=(hmem s).2 h
      cases this
     rw [this]; exact Row.box b 0 _ k1 rfl
    ·have hg:∀ s ∈ O,Shn s:=fun s h=>show s.length ≤ _ by have:=(hgood s ((hmem s).1 h)).2.1; omega
     have hsf:=sC y8 (L:=O) (b:=b) (nx:=nx) (n:=O.length) k1 hb.2 rfl (by omega) hg (by omega)
     rw [Nat.mul_one]
     refine Abs.Fn.mono hsf ?_
     rintro _ H' nx' ⟨L',ps,p1,p2⟩
     have hlen:=p1.length_eq
     have:=kP p1 (by rw [hlen]; exact p2) hnd hmem
     unfold fM
     rw [← this,← hlen]
     have:=Row.box (H:=H') (sz:=1) b L'.length (L'.map ar) ps.at_ (by simp)
     rwa [Nat.mul_one] at this
  (have zz:=and_self; repeat' (first|refine zW ?_|apply a_n|apply a_x|refine zO ?_|refine vY ?_|(refine zGY ?_ ?_ <;> (intro _hg; try (exfalso; omega)))|fail)) <;> (try clear zz)
  refine aU ev0 ev0 hsort ?_
  rintro r H' nx' hr
  (have zz:=aI @o1 @o2; repeat' (first|refine zW ?_|apply a_n|refine zO ?_|refine vY ?_|refine ai rfl ?_|refine r2Y ?_|fail)) <;> (try clear zz)
  exact bt (dq hr) rfl
 have ix:=cA hi
 have hft:=nY (k:=k) hi
 have hpm:∀ s ∈ (l.take (i + 1)).flatMap (fun s=>bn s k),s ∈ l.flatMap fun s=>bn s k:=fun s h=>by
  obtain ⟨t,t1,t2⟩:=gq.1 h
  exact gq.2 ⟨t,List.mem_of_mem_take t1,t2⟩
 have hsi:=hs _ (aG hi)
 have h8i:=h8 _ (aG hi)
 have hfx:=vh (l.getD i default) k (show _ ≤ _ by omega)
 have hfe:(l.getD i default).length < k ∨ lN (l.getD i default) k=(bn (l.getD i default) k,0):=by
  by_cases h:(l.getD i default).length < k
  ·exact .inl h
  ·refine .inr ?_
   unfold lN
   rw [if_neg (fun h=>h hsi),if_neg (by omega),Int.toNat_natCast]
 have hcar:∀ s ∈ bn (l.getD i default) k,gy s:=fun s h=>hgood s (hpm s (by rw [hft]; exact List.mem_append_right _ h))
 by_cases hlt:(l.getD i default).length < k
 ·have z:decide (((l.getD i default).length:Int) < k)=true:=decide_eq_true (by omega)
  rw [fT hlt,List.append_nil] at hft
  generalize l.getD i default=s at *
  (have zz:=aI @ao (aI @ix (aI @z (aI @o1 @o2))); repeat' (first|refine zW ?_|apply a_n|apply a_x|refine zO ?_|refine vY ?_|refine cTY ?_|(refine zGY ?_ ?_ <;> (intro _hg; try (exfalso; omega)))|fail)) <;> (try clear zz)
  exact ⟨(i + 1,sv,O),by dsimp only; omega,⟨by dsimp only; omega,hnx,g0,hrow,hbd,hnd,by dsimp only; rw [hft]; exact hmem⟩,ag0⟩
 have z:decide (((l.getD i default).length:Int) < k)=false:=decide_eq_false (by omega)
 rw [hfe.resolve_left hlt] at hfx
 clear hfe
 have hgP:∀ s ∈ (l.take i).flatMap (fun s=>bn s k),gy s:=fun s h=>hgood s (hpm s (by rw [hft]; exact List.mem_append_left _ h))
 have hPl:((l.take i).flatMap (fun s=>bn s k) ++ bn (l.getD i default) k).length ≤ 3500:=by
  rw [← hft]
  have:=eP (k:=k) (c:=l.take (i + 1)) (fun s h=>h8 s (List.mem_of_mem_take h))
  rw [List.length_take] at this; omega
 generalize l.getD i default=s at *
 generalize bn s k=R at *
 generalize (l.take i).flatMap (fun s=>bn s k)=P at *
 have hRl:R.length ≤ 3500:=by rw [List.length_append] at hPl; omega
 (have zz:=aI @ao (aI @ac (aI @ix (aI @z (aI @z0 (aI @o1 @o2))))); repeat' (first|refine zW ?_|apply a_n|refine zO ?_|refine vY ?_|refine cY ?_ (hp:=hfx) (hs:=by (first | refine ab ?_ rfl | apply ae); (repeat' (first | exact aa | apply ak | apply af | exact aw _)); first | done | fail)|refine cFY ?_|(refine zGY ?_ ?_ <;> (intro _hg; try (exfalso; omega)))|fail)) <;> (try clear zz)
 refine bb (X:=Nat × AV × List Spx) (fun x=>[(1,.int .i64 k),(6,.mp 0),(7,x.2.1),(15,aq l),(16,.int .i64 l.length),(17,.int .i64 i),(34,aq R),(35,.int .i64 R.length),(36,.int .i64 x.1)]) (fun x H nx=>x.1 ≤ R.length∧1 ≤ nx∧H 0=some [.omap ((x.2.2.map kK).map eK) (x.2.2.map fun _=>.bool true)]∧Row H 1 x.2.1 (x.2.2.map ar)∧(∀ b,b4 x.2.1=some b→1 ≤ b∧b < nx)∧x.2.2.Nodup∧∀ s,s ∈ x.2.2 ↔ s ∈ P ++ R.take x.1) (fun x=>R.length - x.1) (0,sv,O) ⟨Nat.zero_le _,hnx,g0,hrow,hbd,hnd,by dsimp only; rw [List.take_zero,List.append_nil]; exact hmem⟩ ag0 ?_
 clear g0 hrow hbd hnd hmem hnx o1 o2
 rintro ⟨j,sv,O⟩ H nx ⟨j1,hnx,g0,hrow,hbd,hnd,hmem⟩
 dsimp only at j1 g0 hrow hbd hnd hmem ⊢
 obtain ⟨o1,o2⟩:=hrow.one
 have hOl:O.length ≤ 3500:=by
  have:=List.Nodup.length_le_of_subset hnd (l₂:=P ++ R.take j) (fun s h=>(hmem s).1 h)
  rw [List.length_append,List.length_take] at this
  rw [List.length_append] at hPl
  omega
 by_cases hj:j < R.length
 rotate_left
 ·rw [List.take_of_length_le (by omega)] at hmem
  have hls:bG sv=some (.int .i64 O.length):=hrow.lenS (by rw [List.length_map,Nat.mul_one]) Nat.one_pos
  have z1:decide ((4096:Int) < O.length)=false:=decide_eq_false (by omega)
  (have zz:=aI @hls (aI @z1 (aI @o1 @o2)); repeat' (first|refine zW ?_|apply a_n|apply a_x|refine zO ?_|refine vY ?_|refine cFY ?_|(refine zGY ?_ ?_ <;> (intro _hg; try (exfalso; omega)))|fail)) <;> (try clear zz)
  exact ⟨(i + 1,sv,O),by dsimp only; omega,⟨by dsimp only; omega,hnx,g0,hrow,hbd,hnd,by dsimp only; rw [hft]; exact hmem⟩,ag0⟩
 have iy:=cA hj
 have hgf:=hcar _ (aG hj)
 have hgO:∀ s ∈ O,gy s:=fun s h=>by
  rcases List.mem_append.1 ((hmem s).1 h) with h | h
  ·exact hgP s h
  ·exact hcar s (List.mem_of_mem_take h)
 have hkey:=xi (R.getD j default) hgf.1 hgf.2.1
 have hts:R.take (j + 1)=R.take j ++ [R.getD j default]:=bQ hj
 have hmf:=wE (kK (R.getD j default)) (O.map kK)
 have hmk:=yr hgO hgf
 generalize R.getD j default=f at *
 by_cases hf:f ∈ O
 ·rw [if_pos (hmk.2 hf)] at hmf
  have hlt2:(O.map kK).idxOf (kK f) < (O.map kK).length:=List.idxOf_lt_length_iff.2 (hmk.2 hf)
  have hgv:mget (.bool false) false (some ((O.map kK).idxOf (kK f))) (O.map fun _=>AV.bool true)=.bool true:=by
   rw [List.length_map] at hlt2
   simp [mget,List.getD,hlt2]
  (have zz:=aI @iy (aI @o1 @o2); repeat' (first|refine zW ?_|apply a_n|refine zO ?_|refine vY ?_|refine cY ?_ (hp:=hkey) (hs:=by (first | refine ab ?_ rfl | apply ae); (repeat' (first | exact aa | apply ak | apply af | exact aw _)); first | done | fail)|(refine zGY ?_ ?_ <;> (intro _hg; try (exfalso; omega)))|fail)) <;> (try clear zz)
  refine rG ev0 g0 (by ((try simp only [bT,ZA,reduceEqDiff,↓reduceIte,reduceAdd,reduceLeDiff]); (try with_reducible rfl)); rfl) (sW (kK f)) hmf ?_
  rw [hgv]
  (have zz:=aI @o1 @o2; repeat' (first|apply a_n|refine zO ?_|refine vY ?_|refine cFY ?_|fail)) <;> (try clear zz)
  refine ⟨(j + 1,sv,O),by dsimp only; omega,⟨by dsimp only; omega,hnx,g0,hrow,hbd,hnd,fun s=>?_⟩,ag0⟩
  dsimp only
  rw [hts,← List.append_assoc,List.mem_append,← hmem,List.mem_singleton]
  exact ⟨.inl,fun h=>h.elim id fun e=>by rw [e]; exact hf⟩
 ·rw [if_neg (fun h=>hf (hmk.1 h))] at hmf
  have hgv:mget (.bool false) false none (O.map fun _=>AV.bool true)=.bool false:=rfl
  (have zz:=aI @iy (aI @o1 @o2); repeat' (first|refine zW ?_|apply a_n|refine zO ?_|refine vY ?_|refine cY ?_ (hp:=hkey) (hs:=by (first | refine ab ?_ rfl | apply ae); (repeat' (first | exact aa | apply ak | apply af | exact aw _)); first | done | fail)|(refine zGY ?_ ?_ <;> (intro _hg; try (exfalso; omega)))|fail)) <;> (try clear zz)
  refine rG ev0 g0 (by ((try simp only [bT,ZA,reduceEqDiff,↓reduceIte,reduceAdd,reduceLeDiff]); (try with_reducible rfl)); rfl) (sW (kK f)) hmf ?_
  rw [hgv]
  (have zz:=aI @o1 @o2; repeat' (first|refine zW ?_|apply a_n|refine zO ?_|refine vY ?_|refine cY ?_ (hp:=hkey) (hs:=by (first | refine ab ?_ rfl | apply ae); (repeat' (first | exact aa | apply ak | apply af | exact aw _)); first | done | fail)|refine cTY ?_|fail)) <;> (try clear zz)
  refine yb ev0 g0 (by ((try simp only [bT,ZA,reduceEqDiff,↓reduceIte,reduceAdd,reduceLeDiff]); (try with_reducible rfl)); rfl) ev0 (sW (kK f)) hmf ?_
  (have zz:=aI @o1 (aI @o2 (aI @az @av)); repeat' (first|apply a_n|refine zO ?_|refine vY ?_|refine blY ?_|fail)) <;> (try clear zz)
  refine dg rfl ev0 (hrow.same fun b hb=>?_) ev0 bz rfl rfl Nat.one_pos (by rw [List.length_map]; omega) (by rw [List.length_map]; omega) ?_
  ·have:=hbd b hb
   rw [ah (by omega),ah (by omega)]
  rintro s2 H2 nx2 hr2 i1 i2 i3 i4
  obtain ⟨o3,o4⟩:=hr2.one
  (have zz:=aI @o3 @o4; repeat' (first|apply a_n|refine zO ?_|refine vY ?_|fail)) <;> (try clear zz)
  refine ⟨(j + 1,s2,O ++ [f]),by dsimp only; omega,⟨by dsimp only; omega,by omega,?_,?_,fun b hb=>?_,?_,fun s=>?_⟩,ag0⟩
  ·rw [i3 0 (by omega) (fun h=>by have:=hbd 0 h; omega),ah (by omega),aj]
   simp [bv,dG]
  ·dsimp only
   rw [List.map_append]; exact hr2
  ·rcases i4 b hb with h | h
   ·have:=hbd b h; omega
   ·omega
  ·exact List.nodup_append.2 ⟨hnd,by simp,fun a ha c hc=>by simp at hc; subst hc; intro e; subst e; exact hf ha⟩
  ·dsimp only
   rw [hts,← List.append_assoc,List.mem_append,List.mem_append,← hmem]
end Go.Proofs.Ytfcenbapjhecfaa
namespace Go.Proofs.Ytfcenbapjhecfaa
open Go Go.Abs
theorem mH (K:Nat→Int):∀ n,(∀ i j,i < j→j < n→K j < 0→K i < 0)→∃ b,b ≤ n∧(∀ i,i < b→K i < 0)∧∀ i,b ≤ i→i < n→0 ≤ K i
 | 0,_=>⟨0,Nat.le_refl _,fun i h=>absurd h (by omega),fun i _ h=>absurd h (by omega)⟩
 | n + 1,hm=>by
  by_cases h:K n < 0
  ·refine ⟨n + 1,Nat.le_refl _,fun i hi=>?_,fun i h1 h2=>absurd h1 (by omega)⟩
   by_cases e:i=n
   ·subst e; exact h
   ·exact hm i n (by omega) (by omega) h
  ·obtain ⟨b,h1,h2,h3⟩:=mH K n (fun i j hi hj=>hm i j hi (by omega))
   refine ⟨b,by omega,h2,fun i hi hi2=>?_⟩
   by_cases e:i=n
   ·subst e; omega
   ·exact h3 i hi (by omega)
theorem xR {tb tf:Bool} {i j:Nat}:aY .shr tb tf (.int .u64 ((i:Int) + (j:Int))) (.int .u64 1)=some (.int .u64 (((i + j) / 2:Nat):Int)):=by
 have:=oU (k:=.u64) (a:=i + j) (b:=1) (tb:=tb) (tf:=tf) (k':=.u64) (by decide)
 simpa using this
attribute [local irreducible] aD am aZ aQ aH aL aB aM aR bf Go.Abs.Fn aP Go.Abs.Pure ax aF Yl
theorem ja (c:List Spx) (k:Int) (hc:c.length ≤ 50) (hs:∀ s ∈ c,Shn s):Pure Try.prog 56 [dM c,.int .i64 k] (.tup [aq (bU c k).1,.int .i64 (bU c k).2]):=by
 refine Pure.of_c2 follows BA (Nat.le_of_ble_eq_true rfl) ?_
 simp only [b56,cO,cG,cN,cM,cD,cF,cB,aA,aN]
 have hcc:=jq c (show _ ≤ _ by omega) hs
 unfold bU
 by_cases he:aW c=0
 rotate_left
 ·rw [if_pos he]
  have z:decide (aW c ≠ 0)=true:=decide_eq_true he
  (have zz:=aI @an (aI @ag @z); repeat' (first|refine zW ?_|apply a_n|apply a_r|refine zO ?_|refine vY ?_|refine cY ?_ (hp:=hcc) (hs:=by (first | refine ab ?_ rfl | apply ae); (repeat' (first | exact aa | apply ak | apply af | exact aV _)); first | done | fail)|refine bxY ?_|refine cTY ?_|refine ai rfl ?_|refine r2Y ?_|fail)) <;> (try clear zz)
  exact bt (.eslsl _) rfl
 rw [if_neg (fun h=>h he)]
 rw [he] at hcc
 have z0:decide ((0:Int) ≠ 0)=false:=rfl
 obtain ⟨p1,p2,p3,p4⟩:=fI he
 by_cases hk:k < 1 ∨ 8 < k
 ·rw [if_pos hk]
  (have zz:=aI @an (aI @ag @z0); repeat' (first|refine zW ?_|apply a_n|apply a_r|refine zO ?_|refine vY ?_|refine cY ?_ (hp:=hcc) (hs:=by (first | refine ab ?_ rfl | apply ae); (repeat' (first | exact aa | apply ak | apply af | exact aV _)); first | done | fail)|refine bxY ?_|refine gTY ?_|refine gFY ?_|refine cTY ?_|refine cFY ?_|(refine zGY ?_ ?_ <;> (intro _hg; try (exfalso; omega)))|refine ai rfl ?_|refine r2Y ?_|fail)) <;> (try clear zz)
  all_goals first | exact bt (.eslsl _) rfl | (exfalso; omega)
 rw [if_neg hk]
 obtain ⟨n,rfl⟩:∃ n:Nat,k=n:=⟨k.toNat,by omega⟩
 rw [Int.toNat_natCast]
 have ha:=wA c n hc p2 ⟨by omega,by omega⟩
 (have zz:=aI @an (aI @ag (aI @ac @z0)); repeat' (first|refine zW ?_|apply a_n|refine zO ?_|refine vY ?_|refine cY ?_ (hp:=by first | exact hcc | exact ha) (hs:=by (first | refine ab ?_ rfl | apply ae); (repeat' (first | exact aa | apply ak | apply af | exact aV _ | exact ay _)); first | done | fail)|refine bxY ?_|refine gTY ?_|refine cFY ?_|(refine zGY ?_ ?_ <;> (intro _hg; try (exfalso; omega)))|refine ai rfl ?_|refine r2Y ?_|fail)) <;> (try clear zz)
 exact bt (ay _).snap rfl
theorem rB (l:List Spx) (v:Spx) (hl:Shn l) (hs:∀ c ∈ l,Shn c) (hv:Shn v) {b:Nat} (hb:b ≤ l.length) (h1:∀ i,i < b→aJ (l.getD i default) v < 0) (h2:∀ i,b ≤ i→i < l.length→0 ≤ aJ (l.getD i default) v) :
    Pure Try.prog 80 [aq l,ar v,.func 40 []] (.tup [.int .i64 b,.bool (decide (b < l.length) && decide (aJ (l.getD b default) v=0))]):=by
 refine Pure.of_c2 follows Bh (Nat.le_of_ble_eq_true rfl) ?_
 simp only [b80,cO,cG,cN,cM,cD,cF,cB,aA,aN]
 have hl':l.length ≤ 17592186044416:=hl
 (have zz:=aI @az (aI @av @ac); repeat' (first|refine zW ?_|apply a_n|refine zO ?_|refine vZ ?_|fail)) <;> (try clear zz)
 refine gJ (X:=Nat × Nat) (fun x=>[(0,aq l),(1,ar v),(2,.func 40 []),(8,.int .i64 l.length),(9,.int .i64 x.1),(10,.int .i64 x.2)]) (fun x=>x.1 ≤ b∧b ≤ x.2∧x.2 ≤ l.length) (fun x=>x.2 - x.1) (0,l.length) ⟨Nat.zero_le _,hb,Nat.le_refl _⟩ ag0 ?_
 rintro ⟨i,j⟩ ⟨g1,g2,g3⟩
 dsimp only at g1 g2 g3 ⊢
 by_cases hij:i < j
 ·have hh:(i + j) / 2 < l.length:=by omega
  have hc:=dT (l.getD ((i + j) / 2) default) v (hs _ (aG hh)) hv
  have ix:=cA hh
  by_cases hn:aJ (l.getD ((i + j) / 2) default) v < 0
  ·have hbb:(i + j) / 2 < b:=Nat.lt_of_not_le fun h=>by have:=h2 _ h hh; omega
   (have zz:=aI @az (aI @av (aI @ac (aI @e6 (aI @xR @ix)))); repeat' (first|refine zW ?_|apply a_n|refine zO ?_|refine vZ ?_|refine cZ ?_ (hp:=hc) (hs:=by (first | refine ab ?_ rfl | apply ae); (repeat' (first | exact aa | apply ak | apply af | exact aw _)); first | done | fail)|(refine zGZ ?_ ?_ <;> (intro _hg; try (exfalso; omega)))|fail)) <;> (try clear zz)
   exact ⟨((i + j) / 2 + 1,j),⟨by omega,by omega,by omega⟩,by dsimp only; omega,ag0,rfl,rfl⟩
  ·have hbb:b ≤ (i + j) / 2:=Nat.le_of_not_lt fun h=>hn (h1 _ h)
   (have zz:=aI @az (aI @av (aI @ac (aI @e6 (aI @xR @ix)))); repeat' (first|refine zW ?_|apply a_n|refine zO ?_|refine vZ ?_|refine cZ ?_ (hp:=hc) (hs:=by (first | refine ab ?_ rfl | apply ae); (repeat' (first | exact aa | apply ak | apply af | exact aw _)); first | done | fail)|(refine zGZ ?_ ?_ <;> (intro _hg; try (exfalso; omega)))|fail)) <;> (try clear zz)
   exact ⟨(i,(i + j) / 2),⟨by omega,by omega,by omega⟩,by dsimp only; omega,ag0,rfl,rfl⟩
 ·have ei:i=b:=by omega
  have ej:j=b:=by omega
  clear hij g1 g2 g3
  subst ei
  by_cases hlt:i < l.length
  ·have hc:=dT (l.getD i default) v (hs _ (aG hlt)) hv
   have ix:=cA hlt
   have dlt:decide ((i:Int) < (l.length:Int))=true:=decide_eq_true (by omega)
   have dij:decide ((i:Int) < (j:Int))=false:=decide_eq_false (by omega)
   (have zz:=aI @az (aI @av (aI @ac (aI @ix (aI @dlt @dij)))); repeat' (first|refine zW ?_|apply a_n|apply a_x|refine zO ?_|refine vZ ?_|refine cZ ?_ (hp:=hc) (hs:=by (first | refine ab ?_ rfl | apply ae); (repeat' (first | exact aa | apply ak | apply af | exact aw _)); first | done | fail)|refine gTZ ?_|refine cFZ ?_|refine ai rfl ?_|refine r2Z ?_|fail)) <;> (try clear zz)
   refine dK (ap (.int _ _) (ap (bg ?_) aa))
   rw [decide_eq_true hlt,Bool.true_and]
  ·have dlt:decide ((i:Int) < (l.length:Int))=false:=decide_eq_false (by omega)
   have dij:decide ((i:Int) < (j:Int))=false:=decide_eq_false (by omega)
   (have zz:=aI @az (aI @av (aI @ac (aI @dlt @dij))); repeat' (first|refine zW ?_|apply a_n|apply a_x|refine zO ?_|refine vZ ?_|refine gFZ ?_|refine cFZ ?_|refine ai rfl ?_|refine r2Z ?_|fail)) <;> (try clear zz)
   refine dK (ap (.int _ _) (ap (bg ?_) aa))
   rw [decide_eq_false hlt,Bool.false_and]
end Go.Proofs.Ytfcenbapjhecfaa
namespace Go.Proofs.Ytfcenbapjhecfaa
open Go Go.Abs
def ea (l:List Nat):List Int:=l.map fun (n:Nat)=>(n:Int)
def kp (c:Int) (rows:List (List Int)):AV:=.agg [.int .i64 c,cP rows]
theorem nc (c:Int) (rows:List (List Int)):Dat (kp c rows):=Dat.agg (DatL.cons .int (DatL.cons (nM _) DatL.nil))
structure MatOk (H:Hp) (b lo hi n:Nat) (F:Nat→List Nat) (vs:List AV):Prop where
 box:H b=some vs
 len:vs.length=n
 row:∀ j,j < n→Row H 1 (vs.getD j .undef) ((F j).map rz)
 bnd:∀ j B,j < n→b4 (vs.getD j .undef)=some B→lo ≤ B∧B < hi∧B ≠ b
 apart:∀ i j B,i < n→j < n→i ≠ j→b4 (vs.getD i .undef)=some B→b4 (vs.getD j .undef) ≠ some B
theorem MatOk.same {H H':Hp} {b lo hi hi' n:Nat} {F G:Nat→List Nat} {vs:List AV} (h:MatOk H b lo hi n F vs) (hb:H' b=H b) (hs:∀ x,lo ≤ x→x < hi→x ≠ b→H' x=H x) (hh:hi ≤ hi') (hG:∀ j,j < n→G j=F j):MatOk H' b lo hi' n G vs :=
 ⟨hb.trans h.box,h.len,fun j hj=>by rw [hG j hj]; exact (h.row j hj).same fun B hB=>by have:=h.bnd j B hj hB; exact hs B this.1 this.2.1 this.2.2,fun j B hj hB=>by have:=h.bnd j B hj hB; exact ⟨this.1,by omega,this.2.2⟩,h.apart⟩
theorem MatOk.put {H H':Hp} {b lo hi hi' n i x:Nat} {F G:Nat→List Nat} {vs:List AV} {sv:AV} (h:MatOk H b lo hi n F vs) (hin:i < n) (hG:∀ j,j < n→G j=if j=i then F j ++ [x] else F j) (hrow:Row H' 1 sv ((F i ++ [x]).map rz)) (hB:∀ B,b4 sv=some B→b4 (vs.getD i .undef)=some B ∨ hi ≤ B∧B < hi'∧B ≠ b) (hb:H' b=some (vs.set i sv))
    (hs:∀ x,lo ≤ x→x < hi→x ≠ b→b4 (vs.getD i .undef) ≠ some x→H' x=H x) (hh:hi ≤ hi') (hlo:lo ≤ hi):MatOk H' b lo hi' n G (vs.set i sv):=by
 have hl:=h.len
 have hg:∀ j,(vs.set i sv).getD j .undef=if i=j then sv else vs.getD j .undef:=fun j=>ki (by omega)
 refine ⟨hb,by simp [hl],fun j hj=>?_,fun j B hj=>?_,fun p q B hp hq hpq=>?_⟩
 ·rw [hg,hG j hj]
  by_cases e:i=j
  ·rw [if_pos e,if_pos e.symm,← e]; exact hrow
  ·rw [if_neg e,if_neg (fun h=>e h.symm)]
   exact (h.row j hj).same fun B hB'=>by
    have:=h.bnd j B hj hB'
    exact hs B this.1 this.2.1 this.2.2 fun h'=>h.apart i j B hin hj e h' hB'
 ·rw [hg]
  by_cases e:i=j
  ·rw [if_pos e]
   intro hB'
   rcases hB B hB' with h' | h'
   ·have:=h.bnd _ B hin h'; exact ⟨this.1,by omega,this.2.2⟩
   ·exact ⟨by omega,h'.2⟩
  ·rw [if_neg e]
   intro hB'
   have:=h.bnd j B hj hB'
   exact ⟨this.1,by omega,this.2.2⟩
 ·rw [hg,hg]
  by_cases e1:i=p
  ·rw [if_pos e1,if_neg (by omega)]
   intro h1 h2
   rcases hB B h1 with h' | h'
   ·exact h.apart i q B hin hq (by omega) h' h2
   ·have:=h.bnd q B hq h2; omega
  ·rw [if_neg e1]
   by_cases e2:i=q
   ·rw [if_pos e2]
    intro h1 h2
    rcases hB B h2 with h' | h'
    ·exact h.apart p i B hp hin (by omega) h1 h'
    ·have:=h.bnd p B hp h1; omega
   ·rw [if_neg e2]; exact h.apart p q B hp hq hpq
theorem MatOk.snap {H:Hp} {b lo hi n:Nat} {F:Nat→List Nat} {vs:List AV} (h:MatOk H b lo hi n F vs):Snap H (.msl b n 1 0 n) (cP ((List.range n).map fun i=>ea (F i))):=by
 refine gu (l:=((List.range n).map fun i=>ea (F i)).map bm) h.box h.len (by omega) (by simp) (fun y hy=>?_) (fun i a c ha hc=>?_)
 ·obtain ⟨z,_,rfl⟩:=List.mem_map.1 hy; rfl
 ·have hin:i < n:=by
    have:=(List.getElem?_eq_some_iff.1 hc).1
    simpa using this
  have hr:=h.row i hin
  rw [Nat.zero_add] at ha
  have e1:vs.getD i .undef=a:=by rw [List.getD_eq_getElem?_getD,ha]; rfl
  rw [e1] at hr
  have e2:c=bm (ea (F i)):=by
   rw [List.getElem?_map,List.getElem?_map,List.getElem?_range hin] at hc
   simpa using hc.symm
  rw [e2]
  exact vM hr
theorem MatOk.new {H:Hp} {b lo hi n:Nat} {F:Nat→List Nat} (hb:H b=some (List.replicate n .esl)) (hF:∀ j,j < n→F j=[]):MatOk H b lo hi n F (List.replicate n .esl):=by
 have hg:∀ j,j < n→(List.replicate n AV.esl).getD j .undef=.esl:=fun j hj=>by simp [List.getD,List.getElem?_replicate,hj]
 refine ⟨hb,by simp,fun j hj=>?_,fun j B hj h=>?_,fun i j B hi hj _ h=>?_⟩
 ·rw [hg j hj,hF j hj]; exact Row.nil
 ·rw [hg j hj] at h; cases h
 ·rw [hg i hi] at h; cases h
end Go.Proofs.Ytfcenbapjhecfaa
namespace Go.Proofs.Ytfcenbapjhecfaa
open Go Go.Abs
theorem pz {H:Hp} {s:AV} {c:Int} {l:List (List Int)} {e f:Int} (h:Snap H s (cP l)) (he:e=f):Snap H (.tup [.agg [.int .i64 c,s],.int .i64 e]) (.tup [kp c l,.int .i64 f]):=by
 subst he; exact dK (ap (nq (ap (.int _ _) (ap h aa))) (ap (.int _ _) aa))
theorem uQ {c:List Spx} {k:Nat} {s:Spx}:s ∈ fM c k ↔ ∃ t ∈ c,s ∈ bn t k:=by
 unfold fM; rw [gF,gq]
theorem vF {c:List Spx} {k:Nat}:br aJ (fM c k):=lV gb _
theorem uL {c:List Spx} {k:Nat} (h:c.length ≤ 50) (h8:∀ s ∈ c,s.length ≤ 8):(fM c k).length ≤ 3500:=Nat.le_trans my (Nat.le_trans (eP h8) (by omega))
attribute [local irreducible] aD am aZ aQ aH aL aB aM aR bf Go.Abs.Fn aP Go.Abs.Pure ax aF Yl
end Go.Proofs.Ytfcenbapjhecfaa
namespace Go.Proofs.Ytfcenbapjhecfaa
open Go Go.Abs
def fcs (s:Spx):List Spx:=if s.length < 2 then [] else fc0 s
theorem lY {s:Spx}:(fcs s).Perm (bE s):=by
 unfold fcs bE
 split
 ·exact List.Perm.refl _
 ·rename_i h
  exact (qG fun e=>by rw [e] at h; simp at h).symm
theorem s9 {s f:Spx}:f ∈ fcs s ↔ f ∈ bE s:=lY.mem_iff
theorem o7:∀ {s:Spx},(fc0 s).length=s.length
 | []=>rfl
 | x :: s=>by show ((fc0 s).map (x :: ·)).length + 1=_; rw [List.length_map,o7]; rfl
theorem sG:∀ {s:Spx} {i:Nat},i < s.length→(fc0 s).getD i default=s.take i ++ s.drop (i + 1)
 | [],_,h=>absurd h (by simp)
 | x :: s,0,_=>by simp [fc0]
 | x :: s,i + 1,h=>by
  have hi:i < s.length:=by simpa using h
  have:=sG hi
  show ((s :: (fc0 s).map (x :: ·)).getD (i + 1) default)=_
  have hl:i < (fc0 s).length:=by rw [o7]; exact hi
  simp only [List.getD,List.getElem?_cons_succ,List.getElem?_map,List.getElem?_eq_getElem hl,Option.map_some,Option.getD_some,List.take_succ_cons,List.drop_succ_cons,List.cons_append] at this ⊢
  rw [this]
theorem pu {s:Spx} (h:br bx s):(bE s).Nodup:=(mZ h).nodup gb
theorem ux {s:Spx} (h:br bx s):(fcs s).Nodup:=lY.nodup_iff.2 (pu h)
def hU (X Y:List Spx) (n i:Nat):List Nat:=(List.range n).filter fun k=>decide (Y.getD i default ∈ bE (X.getD k default))
theorem tZ {X Y:List Spx} {n i:Nat}:hU X Y (n + 1) i=hU X Y n i ++ if Y.getD i default ∈ bE (X.getD n default) then [n] else []:=by
 unfold hU
 rw [List.range_succ,List.filter_append]
 congr 1
 by_cases h:Y.getD i default ∈ bE (X.getD n default)
 ·rw [if_pos h,List.filter_cons_of_pos (by simpa using h)]; rfl
 ·rw [if_neg h,List.filter_cons_of_neg (by simpa using h)]; rfl
theorem uV {X Y:List Spx} {n i:Nat}:(hU X Y n i).length ≤ n:=by
 unfold hU
 exact Nat.le_trans (List.length_filter_le _ _) (by simp)
def zQ (X Y:List Spx):List (List Int):=(List.range Y.length).map fun i=>ea (hU X Y X.length i)
end Go.Proofs.Ytfcenbapjhecfaa
namespace Go.Proofs.Ytfcenbapjhecfaa
open Go Go.Abs
attribute [local irreducible] aD am aZ aQ aH aL aB aM aR bf Go.Abs.Fn aP Go.Abs.Pure ax aF Yl
end Go.Proofs.Ytfcenbapjhecfaa
namespace Go.Proofs.Ytfcenbapjhecfaa
open Go Go.Abs
open Nat (reduceEqDiff reduceAdd reduceLeDiff)
section
variable {P:Program} {T:Tm} {H:Hp} {nx:Nat}
theorem yX {dm:DM} {K:SP} {l:List Op2} {d:Option Nat} {sz bytes:Nat} {z:List AV} {s x:Opd} {k:IntKind} {n:Int} (hd:dm2 dm T (.apz sz bytes z s x)=true) (hs:ov T s=.esl) (hx:ov T x=.int k n) (h0:0 < n) (h1:n ≤ 9223372036854775807) (h2:n.toNat * bytes ≤ 140737488355328)
    (kk:am P dm l (aC T d (.msl nx (n.toNat * sz) sz 0 n.toNat)) (au H nx (a5 (.agg z) n.toNat)) (nx + 1) K):am P dm (⟨d,none,.apz sz bytes z s x⟩ :: l) T H nx K:=by
 refine iq rfl hd ?_ kk
 simp only [eT,hs,hx]
 rw [if_pos ⟨h0,h1,h2⟩]
end
theorem w9 (T:Tm) (H:Hp) (x:Opd):a8 T H (.capE x)=match ov T x with | .esl=>some (.int .i64 0) | _=>none:=rfl
theorem wP (n:Nat):(a5 (.agg [.int .i64 0,.int .i64 0]) n).length=n * 2:=by simp [a5,AV.cells]
attribute [local irreducible] aD am aZ aQ aH aL aB aM aR bf Go.Abs.Fn aP Go.Abs.Pure ax aF Yl
theorem wF (n:Nat) (h0:0 < n) (h1:n ≤ 1000000) (H:Hp) (nx:Nat):Abs.Fn Try.prog 94 [.esl,.int .i64 n] H nx fun r H' nx'=>r=.msl nx (n * 2) 2 0 0∧H'=au H nx (a5 (.agg [.int .i64 0,.int .i64 0]) n)∧nx'=nx + 1:=by
 refine Abs.Fn.of_c2 follows AW (Nat.le_of_ble_eq_true rfl) ?_
 simp only [b94,cO,cG,cN,cM,cD,cF,cB,aA,aN]
 have z1:decide ((n:Int) < 0)=false:=decide_eq_false (by omega)
 have z2:decide ((0:Int) < n)=true:=decide_eq_true (by omega)
 have s2:iu 2 .esl none (some (.int .i64 0)) none=some .esl:=rfl
 have s3:=rD (B:=nx) (n:=n * 2) (len:=n) (k:=0) (by omega) (by omega)
 rw [show ((0:Nat):Int)=0 from rfl] at s3
 (have zz:=aI @z1 (aI @z2 (aI @s2 (aI @Int.sub_zero (aI @Int.sub_self @w9)))); repeat' (first|refine zW ?_|apply a_n|refine zO ?_|refine vY ?_|refine cTY ?_|refine cFY ?_|fail)) <;> (try clear zz)
 refine yX rfl (have zz:=@s2; evY) ev0 (by omega) (by omega) (by omega) ?_
 (have zz:=@s3; repeat' (first|refine zW ?_|apply a_n|refine zO ?_|refine vY ?_|refine ai rfl ?_|refine r1Y ?_|fail)) <;> (try clear zz)
 exact ⟨rfl,rfl,rfl⟩
theorem pk {c:List Spx} {k:Nat} (hk:k < c.length):(c.take (k + 1)).flatten=(c.take k).flatten ++ c.getD k default:=by
 rw [bQ hk,List.flatten_append]; simp
end Go.Proofs.Ytfcenbapjhecfaa
namespace Go.Proofs.Ytfcenbapjhecfaa
open Go Go.Abs
open Nat (reduceEqDiff reduceAdd reduceLeDiff)
theorem yz {P:Program} {T:Tm} {H:Hp} {nx:Nat} {dm:DM} {K:SP} {l:List Op2} {d:Option Nat} {sz bytes b N len n:Nat} {s x:Opd} {v:AV} {new C:List AV} (hd:dm2 dm T (.app sz bytes s x)=true) (hs:ov T s=.msl b N sz 0 len) (hb:H b=some C) (hN:C.length=N) (hx:ov T x=v) (hsrc:dx sz H v=some (n,new)) (ho:AV.ones new=true) (hnl:new.length=n * sz) (hz:0 < sz) (h0:0 < N) (hle:(len + n) * sz ≤ N) (h1:(len + n) * bytes ≤ 140737488355328) (h2:len + n ≤ 9223372036854775807)
    (next:∀ C':List AV,C'.length=N→C'.take ((len + n) * sz)=C.take (len * sz) ++ new→am P dm l (aC T d (.msl b N sz 0 (len + n))) (au H b C') nx K) :
    am P dm (⟨d,none,.app sz bytes s x⟩ :: l) T H nx K:=by
 by_cases e:N=len * sz
 ·have hn:n=0:=by
    rcases Nat.eq_zero_or_pos n with h | h
    ·exact h
    ·have:len * sz + 1 * 1 ≤ len * sz + n * sz:=Nat.add_le_add_left (Nat.mul_le_mul h hz) _
     rw [Nat.add_mul] at hle; omega
  subst hn
  obtain rfl:new=[]:=List.eq_nil_of_length_eq_zero (by rw [hnl,Nat.zero_mul])
  refine xY hd hs hb hx hsrc ho hN e h1 h2 ?_
  rw [Nat.add_zero] at next ⊢
  rw [← e]
  exact next _ (by rw [List.append_nil]; exact hN) (by rw [List.append_nil,List.append_nil])
 ·refine vV hd hs hb hx hsrc ho hN (fun _=>e) h0 (by rw [Nat.zero_add]; exact hle) ?_
  have hlen:len * sz + new.length ≤ N:=by rw [hnl,← Nat.add_mul]; exact hle
  refine next _ ?_ ?_
  ·rw [e7 (by rw [hN]; omega)]; exact hN
  ·simp only [bq,Nat.zero_add]
   rw [List.take_append_of_le_length (by rw [List.length_append,List.length_take,hN,hnl,Nat.add_mul]; omega),List.take_of_length_le (by rw [List.length_append,List.length_take,hN,hnl,Nat.add_mul]; omega)]
attribute [local irreducible] aD am aZ aQ aH aL aB aM aR bf Go.Abs.Fn aP Go.Abs.Pure ax aF Yl
theorem uv (c:List Spx) (hpos:0 < c.flatten.length) (hl:c.flatten.length ≤ 1000000) (hc:c.length ≤ 1000000) (H:Hp) (nx:Nat) :
    Abs.Fn Try.prog 79 [aq c] H nx fun r H' nx'=>r=.msl nx (c.flatten.length * 2) 2 0 c.flatten.length∧H'=au H nx (cX c.flatten)∧nx'=nx + 1:=by
 refine Abs.Fn.of_c2 follows AS (Nat.le_of_ble_eq_true rfl) ?_
 simp only [b79,cO,cG,cN,cM,cD,cF,cB,aA,aN]
 have hle:∀ k,(c.take k).flatten.length ≤ c.flatten.length:=fun k=>by
  have:c.flatten=(c.take k).flatten ++ (c.drop k).flatten:=by rw [← List.flatten_append,List.take_append_drop]
  rw [this,List.length_append]; omega
 refine dH ?_
 (have zz:=and_self; repeat' (first|apply a_n|refine zO ?_|refine vY ?_|fail)) <;> (try clear zz)
 refine dH ?_
 (have zz:=and_self; repeat' (first|apply a_n|refine zO ?_|refine vY ?_|fail)) <;> (try clear zz)
 refine bu (fun T H' nx'=>T 0=aq c∧T 3=.int .i64 (c.flatten.length:Nat)∧H=H'∧nx=nx') ?_ ?_
 ·(have zz:=@ac; repeat' (first|refine zW ?_|apply a_n|refine zO ?_|refine vY ?_|fail)) <;> (try clear zz)
  refine gJ (X:=Nat) (fun k=>[(0,aq c),(3,.int .i64 ((c.take k).flatten.length:Nat)),(9,aq c),(10,.int .i64 c.length),(11,.int .i64 (k:Nat))]) (fun k=>k ≤ c.length) (fun k=>c.length - k) 0 (by omega) (by simp (disch:=omega) only [agr,ZG,reduceEqDiff,↓reduceIte,List.take_zero,List.flatten_nil,List.length_nil] <;> simp) ?_
  intro k hk
  by_cases hk2:k < c.length
  rotate_left
  ·rw [List.take_of_length_le (by omega)]
   (have zz:=and_self; repeat' (first|refine zW ?_|apply a_n|apply a_x|refine zO ?_|refine vY ?_|(refine zGY ?_ ?_ <;> (intro _hg; try (exfalso; omega)))|fail)) <;> (try clear zz)
   exact ⟨rfl,rfl,rfl,rfl⟩
  have ix:=cA hk2
  have hle2:=hle (k + 1)
  have e:(((c.take (k + 1)).flatten.length:Nat):Int)=((c.take k).flatten.length:Nat) + ((c.getD k default).length:Nat):=by rw [pk hk2,List.length_append]; omega
  rw [pk hk2,List.length_append] at hle2
  have z:decide ((((c.take k).flatten.length:Nat):Int) + ((c.getD k default).length:Nat) < 0)=false:=decide_eq_false (by omega)
  generalize c.getD k default=s at *
  (have zz:=aI @ix (aI @ao @z); repeat' (first|refine zW ?_|apply a_n|refine zO ?_|refine vY ?_|refine cFY ?_|(refine zGY ?_ ?_ <;> (intro _hg; try (exfalso; omega)))|fail)) <;> (try clear zz)
  exact ⟨k + 1,by omega,by omega,(have zz:=@e; agZ),rfl,rfl⟩
 rintro T _ _ ⟨t0,t3,rfl,rfl⟩
 (have zz:=@t3; repeat' (first|refine zW ?_|apply a_n|refine zO ?_|refine vY ?_|fail)) <;> (try clear zz)
 refine aU ev0 (have zz:=@t3; evY) (wF c.flatten.length (by omega) (by omega) H nx) ?_
 rintro _ _ _ ⟨rfl,rfl,rfl⟩
 (have zz:=aI @t0 @ac; repeat' (first|refine zW ?_|apply a_n|refine zO ?_|refine vY ?_|fail)) <;> (try clear zz)
 refine bb (X:=Nat) (fun k=>[(6,.msl nx (c.flatten.length * 2) 2 0 (c.take k).flatten.length),(25,aq c),(26,.int .i64 c.length),(27,.int .i64 (k:Nat))]) (fun k H' nx'=>k ≤ c.length∧(∃ C,H'=au H nx C∧C.length=c.flatten.length * 2∧C.take ((c.take k).flatten.length * 2)=cX (c.take k).flatten)∧nx'=nx + 1) (fun k=>c.length - k) 0 ⟨by omega,⟨_,rfl,wP _,rfl⟩,rfl⟩ (by simp (disch:=omega) only [agr,ZG,reduceEqDiff,↓reduceIte,List.take_zero,List.flatten_nil,List.length_nil]) ?_
 rintro k _ _ ⟨hk,⟨C,rfl,h1,h2⟩,rfl⟩
 by_cases hk2:k < c.length
 rotate_left
 ·have ek:c.take k=c:=List.take_of_length_le (by omega)
  rw [ek] at h2 ⊢
  rw [List.take_of_length_le (by omega)] at h2
  subst h2
  (have zz:=and_self; repeat' (first|refine zW ?_|apply a_n|apply a_x|refine zO ?_|refine vY ?_|(refine zGY ?_ ?_ <;> (intro _hg; try (exfalso; omega)))|refine ai rfl ?_|refine r1Y ?_|fail)) <;> (try clear zz)
  exact ⟨rfl,rfl,rfl⟩
 have ix:=cA hk2
 have hle2:=hle (k + 1)
 have e:=pk hk2
 rw [e,List.length_append] at hle2
 have hcl:=dU (c.getD k default)
 have hcp:=dU (c.take k).flatten
 generalize c.getD k default=s at *
 (have zz:=@ix; repeat' (first|refine zW ?_|apply a_n|refine zO ?_|refine vY ?_|(refine zGY ?_ ?_ <;> (intro _hg; try (exfalso; omega)))|fail)) <;> (try clear zz)
 refine yz (b:=nx) (N:=c.flatten.length * 2) (len:=(c.take k).flatten.length) (n:=s.length) (C:=C) rfl ev0 aj h1 ev0 nX (fJ _) (by rw [hcl]) (by omega) (by omega) (by omega) (by omega) (by omega) fun C2 c1 c2=>?_
 (have zz:=and_self; repeat' (first|apply a_n|refine zO ?_|refine vY ?_|fail)) <;> (try clear zz)
 refine ⟨k + 1,by omega,⟨by omega,⟨_,aK _ _ _ _,c1,?_⟩,rfl⟩,by simp (disch:=omega) only [agr,ZG,reduceEqDiff,↓reduceIte,e,List.length_append]⟩
 rw [e,gR,List.length_append,← h2]
 exact c2
theorem Bp {P:Program} {T:Tm} {H S:Hp} {nx n:Nat} {K:SP} {l:List (Op2 × Nat)} {d:Option Nat} {i:Ins} {t:Nat} {w:Bool} (h:T t=.bool w) (k:a7 P S ((⟨d,none,i⟩,n) :: l) T H nx K):a7 P S ((⟨d,some (t,w),i⟩,n) :: l) T H nx K:=by
 have e:g2 T (some (t,w))=some true:=by simp [g2,h]
 cases n with
 | zero=>show aM (g2 T (some (t,w))) _ _; rw [e]; exact k
 | succ n=>show aM (g2 T (some (t,w))) _ _; rw [e]; exact k
theorem tO (x y:Spx) (h:0 < (x ++ y).length) (hl:(x ++ y).length ≤ 1000000):dj Try.prog 79 [aq [x,y]] (ar (x ++ y)):=by
 refine dj.of_fn ?_
 have e:[x,y].flatten=x ++ y:=by simp
 have hc:=uv [x,y] (by rw [e]; exact h) (by rw [e]; exact hl) (by simp) bh 0
 rw [e] at hc
 refine Abs.Fn.mono hc ?_
 rintro _ _ _ ⟨rfl,rfl,rfl⟩
 exact li (Row.box _ (x ++ y).length (cX (x ++ y)) aj (dU _))
theorem n6 (s:Spx) (H:Hp) (nx:Nat):Abs.Fn Try.prog 51 [ar s] H nx fun r H' nx'=>r=.func 78 [.ptr nx 1 0]∧H'=au H nx [ar s]∧nx'=nx + 1:=by
 refine Abs.Fn.of_c2 follows AF (Nat.le_of_ble_eq_true rfl) ?_
 simp only [b51,cO,cG,cN,cM,cD,cF,cB,aA,aN]
 (have zz:=aI @az @av; repeat' (first|refine zW ?_|apply a_n|refine zO ?_|refine vY ?_|refine bxY ?_|refine ai rfl ?_|refine r1Y ?_|fail)) <;> (try clear zz)
 exact ⟨rfl,rfl,rfl⟩
theorem uK {H:Hp} {b:Nat} {x y:Spx} (h:H b=some [ar x,ar y]):aF H [.msl b 2 1 0 2] [aq [x,y]] :=
 ap (jE (l:=[ar x,ar y]) h rfl rfl (by
  intro z hz
  simp only [List.mem_cons,List.not_mem_nil,or_false] at hz
  rcases hz with rfl | rfl
  ·exact ⟨rfl,aw _⟩
  ·exact ⟨rfl,aw _⟩)) aa
theorem oJ {s:Spx} (h:2 ≤ s.length):(fcs s).length=s.length:=by
 unfold fcs; rw [if_neg (by omega),o7]
theorem sB {s:Spx} {i:Nat} (h:2 ≤ s.length) (hi:i < s.length):(fcs s).getD i default=s.take i ++ s.drop (i + 1):=by
 unfold fcs; rw [if_neg (by omega),sG hi]
theorem nR {y sb:Nat} {s:Spx} {H:Hp} {nx:Nat} (hs:s.length ≤ 1000) (I:List Spx→Hp→Nat→Prop)
    (hp:∀ D H nx,I D H nx→H sb=some [ar s])
    (stab:∀ D H H' nx1 nx',I D H nx1→nx1 ≤ nx'→(∀ i,i < nx1→H' i=H i)→I D H' nx')
    (rnd:∀ D f H nx1,I D H nx1→D.length < (fcs s).length→f=(fcs s).getD D.length default→D=(fcs s).take D.length→Yl Try.prog y [ar f] H nx1 fun r H' nx'=>r=.bool true∧I (D ++ [f]) H' nx')
    (h0:I [] H nx) :
    Abs.Fn Try.prog 78 [.yld y,.ptr sb 1 0] H nx fun _ H' nx'=>I (fcs s) H' nx':=by
 refine Abs.Fn.of_c2 follows Bx (Nat.le_of_ble_eq_true rfl) ?_
 simp only [b78,cO,cG,cN,cM,cD,cF,cB,aA,aN]
 have g1:=hp _ _ _ h0
 (have zz:=aI @g1 (aI @az (aI @av @ao)); repeat' (first|refine zW ?_|apply a_n|refine zO ?_|refine vY ?_|fail)) <;> (try clear zz)
 by_cases h2:2 ≤ s.length
 rotate_left
 ·have e:fcs s=[]:=by unfold fcs; rw [if_pos (by omega)]
  rw [e]
  refine bb (X:=Nat) (fun k=>[(0,.yld y),(1,.ptr sb 1 0),(5,.int .i64 s.length),(6,.int .i64 k)]) (fun k H' nx'=>k ≤ s.length∧I [] H' nx') (fun k=>s.length - k) 0 ⟨Nat.zero_le _,h0⟩ ag0 ?_
  rintro k H1 nx1 ⟨h1,hI⟩
  have q1:=hp _ _ _ hI
  by_cases hk:k < s.length
  rotate_left
  ·(have zz:=and_self; repeat' (first|refine zW ?_|apply a_n|apply a_x|refine zO ?_|refine vY ?_|(refine zGY ?_ ?_ <;> (intro _hg; try (exfalso; omega)))|refine ai rfl ?_|fail)) <;> (try clear zz)
   exact hI
  have z:decide ((1:Int) < s.length)=false:=decide_eq_false (by omega)
  (have zz:=aI @q1 (aI @az (aI @av (aI @ao @z))); repeat' (first|refine zW ?_|refine zM ?_|apply a_n|refine zO ?_|refine vY ?_|refine gFY ?_|refine cFY ?_|(refine zGY ?_ ?_ <;> (intro _hg; try (exfalso; omega)))|fail)) <;> (try clear zz)
  exact ⟨k + 1,by omega,⟨by omega,hI⟩,ag0⟩
 have z:decide ((1:Int) < s.length)=true:=decide_eq_true (by omega)
 have hfl:=oJ h2
 have hfg:=fun {i:Nat} (hi:i < s.length)=>sB (i:=i) h2 hi
 refine bb (X:=Nat) (fun k=>[(0,.yld y),(1,.ptr sb 1 0),(5,.int .i64 s.length),(6,.int .i64 k)]) (fun k H' nx'=>k ≤ s.length∧I ((fcs s).take k) H' nx') (fun k=>s.length - k) 0 ⟨Nat.zero_le _,h0⟩ ag0 ?_
 rintro k H1 nx1 ⟨h1,hI⟩
 have q1:=hp _ _ _ hI
 by_cases hk:k < s.length
 rotate_left
 ·rw [List.take_of_length_le (by omega)] at hI
  (have zz:=and_self; repeat' (first|refine zW ?_|apply a_n|apply a_x|refine zO ?_|refine vY ?_|(refine zGY ?_ ?_ <;> (intro _hg; try (exfalso; omega)))|refine ai rfl ?_|fail)) <;> (try clear zz)
  exact hI
 have a1:iu 2 (ar s) none (some (.int .i64 (k:Int))) none=some (ar (s.take k)):=pp (by omega)
 have a2:iu 2 (ar s) (some (.int .i64 ((k:Int) + 1))) none none=some (ar (s.drop (k + 1))):=ms (k:=k + 1) (by omega)
 have hc:=tO (s.take k) (s.drop (k + 1)) (by rw [List.length_append,List.length_take,List.length_drop]; omega) (by rw [List.length_append,List.length_take,List.length_drop]; omega)
 have hr:=rnd ((fcs s).take k) ((fcs s).getD k default) (au H1 nx1 [ar (s.take k),ar (s.drop (k + 1))]) (nx1 + 1) (stab _ _ _ _ _ hI (by omega) fun i hi=>ah (by omega)) (by rw [List.length_take]; omega) (by rw [List.length_take,Nat.min_eq_left (by omega)]) (by rw [List.length_take,Nat.min_eq_left (by omega)])
 rw [← bQ (by omega),hfg hk] at hr
 (have zz:=aI @q1 (aI @az (aI @av (aI @ao (aI @z (aI @a1 @a2))))); repeat' (first|refine zW ?_|apply a_n|refine zO ?_|refine vY ?_|(refine zGY ?_ ?_ <;> (intro _hg; try (exfalso; omega)))|fail)) <;> (try clear zz)
 refine mo sb q1 fun S0 hS1 hsub=>?_
 simp only [List.map_cons,List.map_nil,List.getD_cons_succ,List.getD_cons_zero]
 (have zz:=aI @hS1 (aI @az (aI @av (aI @ao (aI @z (aI @a1 @a2))))); repeat' (first|apply a_n|refine zO ?_|refine nvY ?_|apply ib|refine blY ?_|fail)) <;> (try clear zz)
 repeat (refine Bp ev0 ?_; skip)
 refine bZ ev0 ev0 hc (uK (by rw [aj])) ?_
 (have zz:=and_self; repeat' (first|apply a_n|refine zO ?_|apply ib|fail)) <;> (try clear zz)
 refine sV ev0 ev0 (Yl.mono hr ?_)
 rintro v H3 nx3 ⟨rfl,e1⟩
 (have zz:=and_self; repeat' (first|apply a_n|refine zO ?_|refine vY ?_|refine nvY ?_|refine cFY ?_|fail)) <;> (try clear zz)
 exact ⟨k + 1,by omega,⟨by omega,e1⟩,ag0⟩
end Go.Proofs.Ytfcenbapjhecfaa
namespace Go.Proofs.Ytfcenbapjhecfaa
open Go Go.Abs
open Nat (reduceEqDiff reduceAdd reduceLeDiff)
def d4:Nat→Spx→List Int
 | 0,_=>[]
 | n + 1,[]=>0 :: 0 :: d4 n []
 | n + 1,v :: l=>v.color :: v.label :: d4 n l
theorem jv:∀ {n:Nat} {s:Spx},(d4 n s).length=2 * n
 | 0,_=>rfl
 | n + 1,[]=>by show (d4 n []).length + 1 + 1=_; rw [jv]; omega
 | n + 1,v :: l=>by show (d4 n l).length + 1 + 1=_; rw [jv]; omega
theorem rk:∀ {n:Nat} {s t:Spx},s.length=t.length→t.length ≤ n→d4 n s=d4 n t→s=t
 | _,[],[],_,_,_=>rfl
 | _,[],w :: m,h,_,_=>absurd h (by simp)
 | _,v :: l,[],h,_,_=>absurd h (by simp)
 | 0,v :: l,w :: m,_,h,_=>absurd h (by simp)
 | n + 1,v :: l,w :: m,hl,hm,e=>by
  obtain ⟨e1,e2⟩:=List.cons.inj e
  obtain ⟨e2,e3⟩:=List.cons.inj e2
  have:=rk (n:=n) (by simpa using hl) (by simpa using hm) e3
  rw [this,iS.2 ⟨e1,e2⟩]
abbrev z16:List AV:=[.int .i64 0,.int .i64 0,.int .i64 0,.int .i64 0,.int .i64 0,.int .i64 0,.int .i64 0,.int .i64 0,.int .i64 0,.int .i64 0,.int .i64 0,.int .i64 0,.int .i64 0,.int .i64 0,.int .i64 0,.int .i64 0]
theorem yo:z16=(d4 8 []).map (AV.int .i64):=rfl
theorem pZ:∀ {n:Nat} {s:Spx},s.length ≤ n→cX s ++ ((d4 n []).map (AV.int .i64)).drop (s.length * 2)=(d4 n s).map (AV.int .i64)
 | n,[],_=>by simp [cX]
 | 0,_ :: _,h=>absurd h (by simp)
 | n + 1,v :: l,h=>by
  have:=pZ (n:=n) (s:=l) (by simp at h; omega)
  show [AV.int .i64 v.color,AV.int .i64 v.label] ++ cX l ++ _=AV.int .i64 v.color :: AV.int .i64 v.label :: (d4 n l).map (AV.int .i64)
  rw [← this,List.length_cons,show (l.length + 1) * 2=l.length * 2 + 1 + 1 by omega]
  rfl
def kZ (s:Spx):K16:=⟨d4 8 s,by rw [jv]⟩
theorem uX {s t:Spx} (h:s.length=t.length) (h8:t.length ≤ 8) (e:kZ s=kZ t):s=t:=rk h h8 (congrArg Subtype.val e)
theorem wj {O:List Spx} {f:Spx} {n:Nat} (hn:n ≤ 8) (hO:∀ s ∈ O,s.length=n) (hf:f.length=n):kZ f ∈ O.map kZ ↔ f ∈ O:=by
 rw [List.mem_map]
 exact ⟨fun ⟨s,h1,h2⟩=>by rw [← uX (by rw [hO s h1,hf]) (by omega) h2]; exact h1,fun h=>⟨f,h,rfl⟩⟩
theorem vv {f:Spx} {n:Nat} (hn:n ≤ 8) (hf:f.length=n):∀ {O:List Spx},(∀ s ∈ O,s.length=n)→(O.map kZ).idxOf (kZ f)=O.idxOf f
 | [],_=>rfl
 | g :: O,hO=>by
  have ih:=vv hn hf (O:=O) fun s hs=>hO s (List.mem_cons_of_mem _ hs)
  have hg:=hO g List.mem_cons_self
  rw [List.map_cons,List.idxOf_cons,List.idxOf_cons,ih]
  have e:(kZ g == kZ f)=(g == f):=by
   rw [Bool.eq_iff_iff,beq_iff_eq,beq_iff_eq]
   exact ⟨fun h=>uX (by rw [hg,hf]) (by omega) h,fun h=>by rw [h]⟩
  rw [e]
structure BOk (H:Hp) (n:Nat) (c:Spx→Nat) (O:List Spx) (bs:List Nat) (ck:Nat):Prop where
 box:H 0=some [.bmap ((O.map kZ).map eK) (O.map ar) bs ck]
 len:bs.length=O.length
 asc:bs.Pairwise (· < ·)
 below:∀ s ∈ bs,s < ck
 nd:O.Nodup
 all:∀ f ∈ O,f.length=n
 odd:∀ f,f ∈ O ↔ c f % 2=1
theorem BOk.same {H H':Hp} {n:Nat} {c c':Spx→Nat} {O:List Spx} {bs:List Nat} {ck:Nat} (h:BOk H n c O bs ck) (hs:H' 0=H 0) (hc:∀ f,c' f % 2=c f % 2):BOk H' n c' O bs ck :=
 ⟨hs.trans h.box,h.len,h.asc,h.below,h.nd,h.all,fun f=>by rw [hc]; exact h.odd f⟩
theorem BOk.put {H H':Hp} {n:Nat} {c c':Spx→Nat} {O:List Spx} {bs:List Nat} {ck:Nat} {f:Spx} (h:BOk H n c O bs ck) (hf:f ∉ O) (hl:f.length=n) (hH:H' 0=some [.bmap ((O.map kZ).map eK ++ [eK (kZ f)]) (O.map ar ++ [ar f]) (bs ++ [ck]) (ck + 1)]) (hc:∀ g,c' g=c g + if g=f then 1 else 0):BOk H' n c' (O ++ [f]) (bs ++ [ck]) (ck + 1):=by
 refine ⟨by rw [hH]; simp,by rw [List.length_append,List.length_append,h.len]; rfl,?_,fun s hs=>?_,?_,fun g hg=>?_,fun g=>?_⟩
 ·exact List.pairwise_append.2 ⟨h.asc,List.pairwise_singleton _ _,fun a ha b hb=>by rw [List.mem_singleton.1 hb]; exact h.below a ha⟩
 ·rcases List.mem_append.1 hs with q | q
  ·have:=h.below s q; omega
  ·rw [List.mem_singleton.1 q]; omega
 ·exact List.nodup_append.2 ⟨h.nd,by simp,fun a ha b hb e=>by rw [e,List.mem_singleton.1 hb] at ha; exact hf ha⟩
 ·rcases List.mem_append.1 hg with q | q
  ·exact h.all g q
  ·rw [List.mem_singleton.1 q]; exact hl
 ·rw [List.mem_append,List.mem_singleton,h.odd,hc]
  by_cases e:g=f
  ·subst e
   have:¬ c g % 2=1:=fun q=>hf ((h.odd g).2 q)
   rw [if_pos rfl]
   exact ⟨fun _=>by omega,fun _=>.inr rfl⟩
  ·rw [if_neg e]; simp [e]
theorem d7 {α β:Type} {f:α→β}:∀ {l:List α} {i:Nat},(l.map f).eraseIdx i=(l.eraseIdx i).map f
 | [],_=>rfl
 | a :: l,0=>rfl
 | a :: l,i + 1=>by show f a :: (l.map f).eraseIdx i=f a :: (l.eraseIdx i).map f; rw [d7]
theorem BOk.del {H H':Hp} {n:Nat} {c c':Spx→Nat} {O:List Spx} {bs:List Nat} {ck i:Nat} {f:Spx} (h:BOk H n c O bs ck) (hf:f ∈ O) (hi:O.idxOf f=i) (hH:H' 0=some [.bmap (((O.map kZ).map eK).eraseIdx i) ((O.map ar).eraseIdx i) (bs.eraseIdx i) ck]) (hc:∀ g,c' g=c g + if g=f then 1 else 0):BOk H' n c' (O.erase f) (bs.eraseIdx i) ck:=by
 have hil:i < O.length:=by rw [← hi]; exact List.idxOf_lt_length_iff.2 hf
 have he:O.erase f=O.eraseIdx i:=List.erase_eq_eraseIdx_of_idxOf hi
 refine ⟨?_,?_,h.asc.sublist (List.eraseIdx_sublist _ _),fun s hs=>h.below s ((List.eraseIdx_sublist _ _).subset hs),h.nd.erase _,fun g hg=>h.all g (List.mem_of_mem_erase hg),fun g=>?_⟩
 ·rw [hH,he]
  rw [d7,d7,d7]
 ·rw [he,List.length_eraseIdx_of_lt hil,List.length_eraseIdx_of_lt (by rw [h.len]; exact hil),h.len]
 ·rw [h.nd.mem_erase_iff,h.odd,hc]
  by_cases e:g=f
  ·subst e
   have:=(h.odd g).1 hf
   rw [if_pos rfl]
   constructor
   ·exact fun q=>absurd rfl q.1
   ·intro q; omega
  ·rw [if_neg e]; simp [e]
theorem gA {α:Type} [DecidableEq α] {a b:List α} (h:a.Nodup) (hs:∀ x ∈ a,x ∈ b):a.length ≤ b.length:=List.Nodup.length_le_of_subset h hs
theorem um {l:List Spx} {s f:Spx}:iH (l ++ [s]) f=iH l f + (bE s).count f:=by unfold iH; simp
theorem rQ {D:List Spx} {f g:Spx} {m:Nat}:m + (D ++ [f]).count g=m + D.count g + if g=f then 1 else 0:=by
 rw [List.count_append,List.count_singleton,Nat.add_assoc]
 congr 2
 by_cases e:g=f
 ·subst e; simp
 ·rw [if_neg e,if_neg]; simp only [beq_iff_eq]; exact fun h=>e h.symm
theorem n8 {O:List Spx} {i:Nat} (h:i < O.length):(O.map ar).getD i .undef=ar (O.getD i default):=by simp [List.getD,h]
attribute [local irreducible] aD am aZ aQ aH aL aB aM aR bf Go.Abs.Fn aP Go.Abs.Pure ax aF Yl
theorem wn {n:Nat} {c:Spx→Nat} {O:List Spx} {bs:List Nat} {ck:Nat} {f:Spx} {H:Hp} (hn:n ≤ 8) (h:BOk H n c O bs ck) (hf:f.length=n) :
    bC (.st [.int,.int,.int,.int,.int,.int,.int,.int,.int,.int,.int,.int,.int,.int,.int,.int]) (eK (kZ f)) ((O.map kZ).map eK)=some (if f ∈ O then some (O.idxOf f) else none):=by
 rw [wE,vv hn hf h.all]
 by_cases e:f ∈ O
 ·rw [if_pos e,if_pos ((wj hn h.all hf).2 e)]
 ·rw [if_neg e,if_neg fun q=>e ((wj hn h.all hf).1 q)]
set_option maxHeartbeats 1000000 in
theorem lL (a:List Spx) (n:Nat) (hn:n ≤ 8) (ha:a.length ≤ 4096) (hv:∀ s ∈ a,br bx s) (hl:∀ s ∈ a,s.length=n + 1 ∨ s.length < 2) (h8:∀ s ∈ a,s.length ≤ 8):Pure Try.prog 46 [aq a] (aq (cg a)):=by
 refine Pure.of_c2 follows AJ (Nat.le_of_ble_eq_true rfl) ?_
 simp only [b46,cO,cG,cN,cM,cD,cF,cB,aA,aN]
 refine dH ?_
 (have zz:=and_self; repeat' (first|apply a_n|refine zO ?_|refine vY ?_|fail)) <;> (try clear zz)
 refine dH ?_
 (have zz:=and_self; repeat' (first|apply a_n|refine zO ?_|fail)) <;> (try clear zz)
 refine ye ?_
 refine oW (cs:=[.nilm]) rfl rfl rfl ?_
 (have zz:=and_self; repeat' (first|apply a_n|refine zO ?_|refine stY ?_|fail)) <;> (try clear zz)
 refine bu (fun T H nx=>T 3=.ptr 1 1 0∧2 ≤ nx∧H 1=some [.mp 0]∧∃ O bs ck,BOk H n (iH a) O bs ck) ?_ ?_
 ·(have zz:=@ac; repeat' (first|refine zW ?_|apply a_n|refine zO ?_|refine vY ?_|fail)) <;> (try clear zz)
  refine bb (X:=Nat) (fun k=>[(3,.ptr 1 1 0),(14,aq a),(15,.int .i64 a.length),(16,.int .i64 k)]) (fun k H nx=>k ≤ a.length∧2 ≤ nx∧H 1=some [.mp 0]∧∃ O bs ck,BOk H n (iH (a.take k)) O bs ck) (fun k=>a.length - k) 0 ⟨Nat.zero_le _,Nat.le_refl _,by rw [aj]; rfl,[],[],0,⟨by rw [ah (by omega),ah (by omega),aj]; rfl,rfl,List.Pairwise.nil,fun s h=>(by cases h),List.nodup_nil,fun s h=>(by cases h),fun f=>⟨fun h=>(by cases h),fun h=>absurd h (by rw [List.take_zero]; exact (by decide:¬ (0:Nat) % 2=1))⟩⟩⟩ (by (iterate 4 refine And.intro rfl ?_); trivial) ?_
  rintro k H nx ⟨h1,h2,h3,O,bs,ck,h4⟩
  by_cases hk:k < a.length
  rotate_left
  ·rw [List.take_of_length_le (by omega)] at h4
   (have zz:=and_self; repeat' (first|refine zW ?_|apply a_n|apply a_x|refine zO ?_|refine vY ?_|(refine zGY ?_ ?_ <;> (intro _hg; try (exfalso; omega)))|fail)) <;> (try clear zz)
   exact ⟨rfl,h2,h3,O,bs,ck,h4⟩
  have ix:=cA hk
  have hts:=bQ hk
  have hvs:=hv _ (aG hk)
  have hls:=hl _ (aG hk)
  have h8s:=h8 _ (aG hk)
  generalize a.getD k default=s at *
  (have zz:=@ix; repeat' (first|refine zW ?_|apply a_n|refine zO ?_|refine vY ?_|(refine zGY ?_ ?_ <;> (intro _hg; try (exfalso; omega)))|fail)) <;> (try clear zz)
  refine aU ev0 ev0 (n6 s H nx) ?_
  rintro _ H1 nx1 ⟨rfl,rfl,rfl⟩
  (have zz:=and_self; repeat' (first|refine zW ?_|apply a_n|refine zO ?_|fail)) <;> (try clear zz)
  refine jQ (nx + 1) (nx + 2) rfl rfl ev0 (fun c0 cj hy=>?_)
  refine Abs.Fn.mono (nR (nx:=nx + 2) (y:=nx + 1) (sb:=nx) (s:=s) (by omega) (fun D H' nx'=>nx + 2 ≤ nx'∧H' nx=some [ar s]∧H' (nx + 1)=some [c0]∧H' 1=some [.mp 0]∧∃ O bs ck,BOk H' n (fun f=>iH (a.take k) f + D.count f) O bs ck) ?_ ?_ ?_ ?_) ?_
  ·rintro D H' nx' ⟨g1,g2,g3,g4⟩
   exact g2
  ·rintro D H' H'' n1 n2 ⟨g1,g2,g3,g4,O,bs,ck,g5⟩ hle hsm
   exact ⟨by omega,(hsm _ (by omega)).trans g2,(hsm _ (by omega)).trans g3,(hsm _ (by omega)).trans g4,O,bs,ck,g5.same (hsm _ (by omega)) fun _=>rfl⟩
  ·rintro D f H' nx' ⟨g1,g2,g3,g4,O,bs,ck,g5⟩ hlt hfe hDe
   refine hy _ _ _ _ g3 rfl ?_
   clear hy
   have h2s:2 ≤ s.length:=Nat.le_of_not_lt fun h=>by
    have:fcs s=[]:=by unfold fcs; rw [if_pos h]
    rw [this] at hlt; simp at hlt
   have hfl:f.length=n:=by
    rw [hfe,sB h2s (by rw [oJ h2s] at hlt; exact hlt),List.length_append,List.length_take,List.length_drop]
    rw [oJ h2s] at hlt
    omega
   clear hfe hDe
   (have zz:=and_self; repeat' (first|apply a_n|refine zO ?_|refine vY ?_|fail)) <;> (try clear zz)
   refine ⟨g3,?_⟩
   have hmf:=wn hn g5 hfl
   have q0:=(bO (H:=H') (b:=nx + 1) (x:=0) (by omega)).trans g5.box
   have q1:=(bO (H:=H') (b:=nx + 1) (x:=1) (by omega)).trans g4
   have q2:=(bO (H:=H') (b:=nx + 1) (x:=nx) (by omega)).trans g2
   generalize bM H' (nx + 1)=H2 at *
   (have zz:=and_self; repeat' (first|refine zW ?_|apply a_n|refine zO ?_|refine alY ?_|fail)) <;> (try clear zz)
   generalize hH3:au H2 nx' z16=H3
   have p0:H3 0=H2 0:=by rw [← hH3]; exact ah (by omega)
   have p1:H3 1=H2 1:=by rw [← hH3]; exact ah (by omega)
   have p2:H3 nx=H2 nx:=by rw [← hH3]; exact ah (by omega)
   have p3:H3 nx'=some z16:=by rw [← hH3]; exact aj
   clear hH3
   refine xZ rfl p3 rfl rfl ?_
   (have zz:=and_self; repeat' (first|apply a_n|refine zO ?_|refine vY ?_|fail)) <;> (try clear zz)
   refine xQ (n:=f.length) (H':=au H3 nx' ((d4 8 f).map (AV.int .i64))) ?_ ?_
   ·((try simp only [bT,ZA,reduceEqDiff,↓reduceIte,reduceAdd,reduceLeDiff]); (try with_reducible rfl))
    have hnn:dN (ar f)=some f.length:=by unfold ar e5; simp [dN]
    have htr:nV f.length (ar f)=ar f:=by unfold ar e5; simp [nV]; exact List.take_of_length_le (by simp)
    have hmin:min f.length 8=f.length:=Nat.min_eq_left (by omega)
    have hal:dN (.msl nx' 16 2 0 8)=some 8:=rfl
    have hlp:bq z16 0 (cX f)=(d4 8 f).map (AV.int .i64):=by
     rw [← pZ (n:=8) (s:=f) (by omega),yo]
     simp only [bq,List.take_zero,List.nil_append,Nat.zero_add,dU]
    by_cases hf0:f.length=0
    ·obtain rfl:=List.length_eq_zero_iff.1 hf0
     have e0:(d4 8 []).map (AV.int .i64)=z16:=rfl
     rw [e0,← tx p3]
     simp only [kD,hal,hnn,hmin]
     rfl
    ·simp only [kD,hal,hnn,hmin,if_neg hf0,p3,htr,nX]
     rw [if_pos (by refine ⟨?_,?_,?_,?_⟩ <;> first | rfl | trivial | omega | exact fJ f),hlp]
   have hl16:((d4 8 f).map (AV.int .i64)).length=16:=by rw [List.length_map,jv]
   have ht:((d4 8 f).map (AV.int .i64)).take 16=(d4 8 f).map (AV.int .i64):=List.take_of_length_le (by omega)
   have r0:=(ah (H:=H3) (b:=nx') (x:=0) (cs:=(d4 8 f).map (AV.int .i64)) (by omega)).trans (p0.trans q0)
   have r1:=(ah (H:=H3) (b:=nx') (x:=1) (cs:=(d4 8 f).map (AV.int .i64)) (by omega)).trans (p1.trans q1)
   have r2:=(ah (H:=H3) (b:=nx') (x:=nx) (cs:=(d4 8 f).map (AV.int .i64)) (by omega)).trans (p2.trans q2)
   have r3:au H3 nx' ((d4 8 f).map (AV.int .i64)) nx'=some ((d4 8 f).map (AV.int .i64)):=aj
   generalize au H3 nx' ((d4 8 f).map (AV.int .i64))=H4 at *
   have hek:eK (kZ f)=.agg ((d4 8 f).map (AV.int .i64)):=rfl
   have hkf:=sW (kZ f)
   rw [hek] at hmf hkf
   have hcnt:∀ g,iH (a.take k) g + (D ++ [f]).count g=iH (a.take k) g + D.count g + if g=f then 1 else 0:=fun g=>rQ
   by_cases hf:f ∈ O
   ·rw [if_pos hf] at hmf
    have hil:O.idxOf f < O.length:=List.idxOf_lt_length_iff.2 hf
    have hgv:mget .esl true (some (O.idxOf f)) (O.map ar)=.tup [ar (O.getD (O.idxOf f) default),.bool true]:=by
     rw [← n8 hil]; rfl
    generalize hKK:(d4 8 f).map (AV.int .i64)=KK at *
    (have zz:=aI @r1 (aI @r3 (aI @hl16 @ht)); repeat' (first|refine zW ?_|apply a_n|refine zO ?_|refine vY ?_|fail)) <;> (try clear zz)
    refine sE ev0 r0 ev0 hkf hmf ?_
    rw [hgv]
    (have zz:=aI @r1 (aI @r3 (aI @hl16 @ht)); repeat' (first|refine zW ?_|apply a_n|refine zO ?_|refine vY ?_|refine cTY ?_|fail)) <;> (try clear zz)
    refine yx ev0 r0 ev0 hkf hmf ?_
    (have zz:=and_self; repeat' (first|apply a_n|refine zO ?_|fail)) <;> (try clear zz)
    exact ⟨rfl,by omega,by rw [ah (by omega),ah (by omega)]; exact r2,aj,by rw [ah (by omega),ah (by omega)]; exact r1,O.erase f,bs.eraseIdx (O.idxOf f),ck,g5.del hf rfl (by rw [ah (by omega),aj]; rfl) hcnt⟩
   ·rw [if_neg hf] at hmf
    have hgv:mget .esl true none (O.map ar)=.tup [.esl,.bool false]:=rfl
    generalize hKK:(d4 8 f).map (AV.int .i64)=KK at *
    (have zz:=aI @r1 (aI @r3 (aI @hl16 @ht)); repeat' (first|refine zW ?_|apply a_n|refine zO ?_|refine vY ?_|fail)) <;> (try clear zz)
    refine sE ev0 r0 ev0 hkf hmf ?_
    rw [hgv]
    (have zz:=aI @r1 (aI @r3 (aI @hl16 @ht)); repeat' (first|refine zW ?_|apply a_n|refine zO ?_|refine vY ?_|refine cFY ?_|fail)) <;> (try clear zz)
    refine xz ev0 r0 ev0 ev0 hkf hmf ?_
    (have zz:=and_self; repeat' (first|apply a_n|refine zO ?_|fail)) <;> (try clear zz)
    exact ⟨rfl,by omega,by rw [ah (by omega),ah (by omega)]; exact r2,aj,by rw [ah (by omega),ah (by omega)]; exact r1,O ++ [f],bs ++ [ck],ck + 1,g5.put hf hfl (by rw [ah (by omega),aj,hek]; rfl) hcnt⟩
  ·exact ⟨Nat.le_refl _,by rw [ah (by omega),aj],aj,by rw [ah (by omega),ah (by omega)]; exact h3,O,bs,ck,h4.same (by rw [ah (by omega),ah (by omega)]) fun f=>by simp⟩
  ·rintro r H' nx' ⟨g1,g2,g3,g4,O,bs,ck,g5⟩
   refine .inl ⟨g3,?_⟩
   (have zz:=and_self; repeat' (first|apply a_n|refine zO ?_|refine vY ?_|fail)) <;> (try clear zz)
   exact ⟨k + 1,by omega,⟨by omega,by omega,by rw [bO (by omega)]; exact g4,O,bs,ck,g5.same (bO (by omega)) fun f=>by rw [hts,um,lY.count_eq]⟩,ag0⟩
 rintro T H nx ⟨t3,h2,h3,O,bs,ck,h4⟩
 have hO70:O.length ≤ 300000:=by
  have he:=fL hv
  have h5:O.length ≤ (cg a).length:=gA h4.nd fun f hf=>(he.2 f).2 ((h4.odd f).1 hf)
  have:=oE h8
  omega
 (have zz:=aI @t3 @h3; repeat' (first|refine zW ?_|apply a_n|refine zO ?_|refine vY ?_|fail)) <;> (try clear zz)
 refine xe ev0 h4.box ?_
 (have zz:=and_self; repeat' (first|refine zW ?_|apply a_n|refine zO ?_|fail)) <;> (try clear zz)
 have hbn:bs.Nodup:=List.Pairwise.imp (fun {x y} (h:x < y) e=>by omega) h4.asc
 refine bb (X:=List Nat × List Spx × AV) (fun x=>[(10,x.2.2),(40,.itr nx)]) (fun x H' nx'=>H' nx=some [.biter 0 ck x.1]∧nx < nx'∧BOk H' n (iH a) O bs ck∧x.1.Nodup∧(∀ s ∈ x.1,s ∈ bs)∧x.2.1=x.1.map (fun s=>O.getD (bs.idxOf s) default)∧Row H' 1 x.2.2 (x.2.1.map ar)∧∀ b,b4 x.2.2=some b→nx < b∧b < nx') (fun x=>bs.length - x.1.length) ([],[],.esl) ⟨aj,Nat.lt_succ_self _,h4.same (ah (by omega)) fun _=>rfl,List.nodup_nil,fun s h=>(by cases h),rfl,Row.nil,fun b h=>(by cases h)⟩ (by (iterate 2 refine And.intro rfl ?_); trivial) ?_
 rintro ⟨seen,D,sv⟩ H1 nx1 ⟨hit,hnx,k4,hsn,hsb,hD,hrow,hbd⟩
 dsimp only at hit hsn hsb hD hrow hbd ⊢
 have hsl:seen.length ≤ bs.length:=gA hsn hsb
 have hDl:D.length=seen.length:=by rw [hD,List.length_map]
 have hbl:=k4.len
 (have zz:=and_self; repeat' (first|refine zW ?_|apply a_n|refine zO ?_|fail)) <;> (try clear zz)
 refine w7 ev0 hit k4.box (fun i s hi hns=>?_) (fun hall=>?_)
 ·(have zz:=and_self; repeat' (first|refine zW ?_|apply a_n|refine zO ?_|refine vY ?_|refine cTY ?_|fail)) <;> (try clear zz)
  refine wK (i:=i) (s:=s) ev0 aj (by rw [ah (by omega)]; exact k4.box) (by simp) hi ?_
  obtain ⟨hil,his⟩:=List.getElem?_eq_some_iff.1 hi
  have hgx:=n8 (O:=O) (i:=i) (by omega)
  have hidx:bs.idxOf s=i:=by
   have h5:=List.idxOf_lt_length_iff.2 (show s ∈ bs by rw [← his]; exact List.getElem_mem hil)
   have h6:bs[bs.idxOf s]=bs[i]:=by rw [List.getElem_idxOf h5,his]
   exact (List.getElem_inj hbn).1 h6
  have hsnd:(seen ++ [s]).Nodup:=List.nodup_append.2 ⟨hsn,by simp,fun x hx y hy e=>by rw [e,List.mem_singleton.1 hy] at hx; exact hns hx⟩
  have hssb:∀ x ∈ seen ++ [s],x ∈ bs:=fun x hx=>by
   rcases List.mem_append.1 hx with q | q
   ·exact hsb x q
   ·rw [List.mem_singleton.1 q,← his]; exact List.getElem_mem hil
  have hsl2:=gA hsnd hssb
  rw [List.length_append,List.length_singleton] at hsl2
  (have zz:=aI @hgx (aI @az @av); repeat' (first|apply a_n|refine zO ?_|refine vY ?_|refine blY ?_|fail)) <;> (try clear zz)
  refine dg rfl ev0 (hrow.same fun b hb=>?_) ev0 bz rfl rfl Nat.one_pos (by rw [List.length_map]; omega) (by rw [List.length_map]; omega) ?_
  ·have:=hbd b hb
   rw [ah (by omega),ah (by omega)]
  rintro s2 H2 nx2 hr2 i1 i2 i3 i4
  have lo:∀ x,x ≤ nx→H2 x=au H1 nx [.biter 0 ck (seen ++ [s])] x:=fun x hx=>(i3 x (by omega) (fun h=>by have:=hbd x h; omega)).trans (ah (by omega))
  (have zz:=and_self; repeat' (first|apply a_n|refine zO ?_|refine vY ?_|fail)) <;> (try clear zz)
  refine ⟨(seen ++ [s],D ++ [O.getD i default],s2),by dsimp only; rw [List.length_append,List.length_singleton]; omega,⟨(lo nx (Nat.le_refl _)).trans aj,by omega,k4.same ((lo 0 (by omega)).trans (ah (by omega))) fun _=>rfl,hsnd,hssb,?_,?_,fun b hb=>?_⟩,ag0⟩
  ·dsimp only
   rw [hD,List.map_append,List.map_singleton,hidx]
  ·dsimp only
   rw [List.map_append]; exact hr2
  ·rcases i4 b hb with h | h
   ·have:=hbd b h; omega
   ·omega
 ·have hperm:seen.Perm bs:=(List.perm_ext_iff_of_nodup hsn hbn).2 fun x=>⟨hsb x,hall x⟩
  have hDO:D.Perm O:=by
   rw [hD]
   refine (hperm.map _).trans (List.Perm.of_eq ?_)
   refine List.ext_getElem (by rw [List.length_map]; exact hbl) fun j g1 g2=>?_
   rw [List.length_map] at g1
   have h5:bs.idxOf bs[j]=j:=by
    have h5:=List.idxOf_lt_length_iff.2 (List.getElem_mem g1)
    have h6:bs[bs.idxOf bs[j]]=bs[j]:=List.getElem_idxOf h5
    exact (List.getElem_inj hbn).1 h6
   rw [List.getElem_map,h5]
   simp [List.getD,g2]
  have hDn:D.Nodup:=hDO.nodup_iff.2 k4.nd
  have hDm:∀ s,s ∈ D ↔ s ∈ cg a:=fun s=>by rw [hDO.mem_iff,k4.odd,(fL hv).2]
  have hfin:=wO gb (ur hv)
  have hsort:Abs.Fn Try.prog 73 [sv,.func 40 []] H1 nx1 fun _ H' nx'=>Row H' 1 sv ((cg a).map ar):=by
   generalize hcs:D.map ar=cs at hrow
   cases hrow with
   | nil =>
    have hD0:D=[]:=List.map_eq_nil_iff.1 hcs
    refine Abs.Fn.mono (jg rfl) ?_
    rintro _ _ _ ⟨rfl,rfl⟩
    have:cg a=[]:=by
     rw [List.eq_nil_iff_forall_not_mem]
     intro s h
     have:=(hDm s).2 h
     rw [hD0] at this; cases this
    rw [this]; exact Row.nil
   | box b len cs k1 k2 =>
    obtain rfl:len=D.length:=by rw [← hcs,List.length_map] at k2; omega
    have hb:=hbd b rfl
    subst hcs
    by_cases h0:D.length=0
    ·have hD0:D=[]:=List.length_eq_zero_iff.1 h0
     have he:cg a=[]:=by
      rw [List.eq_nil_iff_forall_not_mem]
      intro s h
      have:=(hDm s).2 h
      rw [hD0] at this; cases this
     have hrw:Row H1 1 (.msl b (D.length * 1) 1 0 D.length) ((cg a).map ar):=by
      have:=Row.box (H:=H1) (sz:=1) b D.length _ k1 (by rw [List.length_map,Nat.mul_one])
      rw [he]; rwa [hD0] at this ⊢
     refine Abs.Fn.mono (jg (by rw [h0]; rfl)) ?_
     rintro _ _ _ ⟨_,e⟩
     rw [e]; exact hrw
    ·have hg:∀ s ∈ D,Shn s:=fun s h=>show s.length ≤ _ by have:=k4.all s (hDO.mem_iff.1 h); omega
     have hsf:=sC y8 (L:=D) (b:=b) (nx:=nx1) (n:=D.length) k1 hb.2 rfl (by omega) hg (by omega)
     rw [Nat.mul_one]
     refine Abs.Fn.mono hsf ?_
     rintro _ H' nx' ⟨L',ps,p1,p2⟩
     have hlen:=p1.length_eq
     have:=kP p1 (by rw [hlen]; exact p2) hDn hDm
     rw [hfin] at this
     rw [← this,← hlen]
     have:=Row.box (H:=H') (sz:=1) b L'.length (L'.map ar) ps.at_ (by simp)
     rwa [Nat.mul_one] at this
  (have zz:=and_self; repeat' (first|refine zW ?_|apply a_n|apply a_x|refine zO ?_|refine vY ?_|refine cFY ?_|fail)) <;> (try clear zz)
  refine aU ev0 ev0 hsort ?_
  rintro r H' nx' hr
  (have zz:=and_self; repeat' (first|refine zW ?_|apply a_n|refine zO ?_|refine vY ?_|refine ai rfl ?_|refine r1Y ?_|fail)) <;> (try clear zz)
  exact dq hr
end Go.Proofs.Ytfcenbapjhecfaa
namespace Go.Proofs.Ytfcenbapjhecfaa
open Go Go.Abs
theorem tN {s f:Spx} (hs:bd s=0) (hf:f ∈ bE s):bd f=0:=by
 obtain ⟨h1,h2,h3⟩:=mh.1 hf
 obtain ⟨p1,p2,p3,p4⟩:=cm hs
 exact qm ⟨by omega,by omega⟩ (p3.sublist h2) fun v hv=>p4 v (h2.subset hv)
theorem tM {a:List Spx} (ha:∀ s ∈ a,bd s=0):∀ f ∈ cg a,bd f=0:=fun f hf=>by
 obtain ⟨s,h1,h2⟩:=rV (qa ha) hf
 exact tN (ha s h1) h2
theorem vI {a:List Spx} (h:∀ s ∈ a,bd s=0):∀ s ∈ a,s.length ≤ 8:=fun s hs=>(cm (h s hs)).2.1
def nj (a:List Spx):List Spx × Int:=if cf a ≠ 0 then ([],cf a) else if 4096 < (cg a).length then ([],5) else (cg a,0)
def xw (a:List Spx):Bool × Int:=if cf a ≠ 0 then (false,cf a) else (decide (cg a=[]),0)
attribute [local irreducible] aD am aZ aQ aH aL aB aM aR bf Go.Abs.Fn aP Go.Abs.Pure ax aF Yl
theorem nL {a:List Spx} (h:cf a=0):Pure Try.prog 46 [aq a] (aq (cg a)):=by
 obtain ⟨h1,h2,h3,h4⟩:=dY h
 by_cases h0:a=[]
 ·subst h0
  exact lL [] 0 (by omega) (by simp) (by simp) (by simp) (by simp)
 ·have hm:a.getD 0 default ∈ a:=aG (List.length_pos_iff.2 h0)
  have h5:=cm (h2 _ hm)
  exact lL a ((a.getD 0 default).length - 1) (by omega) h1 (qa h2) (fun s hs=>.inl (by rw [h4 s hs]; omega)) (vI h2)
theorem qP {a:List Spx} (h:cf a=0):Shn (cg a)∧∀ s ∈ cg a,s.length ≤ 1000000:=by
 obtain ⟨h1,h2,h3,h4⟩:=dY h
 have:=oE (vI h2)
 exact ⟨show _ ≤ _ by omega,mV (tM h2)⟩
theorem sO (a:List Spx) (ha:ShC a):Pure Try.prog 17 [aq a] (.tup [aq (nj a).1,.int .i64 (nj a).2]):=by
 refine Pure.of_c2 follows Bc (Nat.le_of_ble_eq_true rfl) ?_
 simp only [b17,cO,cG,cN,cM,cD,cF,cB,aA,aN]
 have f1:=ju a ha
 unfold nj
 by_cases h:cf a=0
 rotate_left
 ·have z:decide (cf a ≠ 0)=true:=decide_eq_true h
  rw [if_pos h]
  (have zz:=@z; repeat' (first|refine zW ?_|apply a_n|apply a_r|refine zO ?_|refine vY ?_|refine cY ?_ (hp:=f1) (hs:=by (first | refine ab ?_ rfl | apply ae); (repeat' (first | exact aa | apply ak | apply af | exact ay _)); first | done | fail)|refine cTY ?_|refine ai rfl ?_|refine r2Y ?_|fail)) <;> (try clear zz)
  exact bt (.eslsl _) rfl
 rw [if_neg (fun q=>q h)]
 have f2:=nL h
 have f3:=og (cg a) (qP h).1 (qP h).2
 have z:decide ((0:Int) ≠ 0)=false:=rfl
 rw [h] at f1
 have hfin:(if 4096 < (cg a).length then (([]:List Spx),(5:Int)) else (cg a,0))=(if 4096 < (cg a).length then [] else cg a,if 4096 < (cg a).length then 5 else 0):=by
  split <;> rfl
 rw [hfin]
 (have zz:=@z; repeat' (first|refine zW ?_|apply a_n|refine zO ?_|refine vY ?_|refine cY ?_ (hp:=by first | exact f1 | exact f2 | exact f3) (hs:=by (first | refine ab ?_ rfl | apply ae); (repeat' (first | exact aa | apply ak | apply af | exact ay _)); first | done | fail)|refine cFY ?_|refine ai rfl ?_|refine r2Y ?_|fail)) <;> (try clear zz)
 exact bt (ay _).snap rfl
theorem zd (a:List Spx) (ha:ShC a):Pure Try.prog 19 [aq a] (.tup [.bool (xw a).1,.int .i64 (xw a).2]):=by
 refine Pure.of_c2 follows A5 (Nat.le_of_ble_eq_true rfl) ?_
 simp only [b19,cO,cG,cN,cM,cD,cF,cB,aA,aN]
 have f1:=ju a ha
 unfold xw
 by_cases h:cf a=0
 rotate_left
 ·have z:decide (cf a ≠ 0)=true:=decide_eq_true h
  rw [if_pos h]
  (have zz:=@z; repeat' (first|refine zW ?_|apply a_n|apply a_r|refine zO ?_|refine vY ?_|refine cY ?_ (hp:=f1) (hs:=by (first | refine ab ?_ rfl | apply ae); (repeat' (first | exact aa | apply ak | apply af | exact ay _)); first | done | fail)|refine cTY ?_|refine ai rfl ?_|refine r2Y ?_|fail)) <;> (try clear zz)
  exact vO rfl rfl
 rw [if_neg (fun q=>q h)]
 have f2:=nL h
 have z:decide ((0:Int) ≠ 0)=false:=rfl
 have z2:decide ((((cg a).length:Nat):Int)=0)=decide (cg a=[]):=decide_eq_decide.2 (by rw [← List.length_eq_zero_iff]; omega)
 rw [h] at f1
 (have zz:=aI @z (aI @z2 @ac); repeat' (first|refine zW ?_|apply a_n|refine zO ?_|refine vY ?_|refine cY ?_ (hp:=by first | exact f1 | exact f2) (hs:=by (first | refine ab ?_ rfl | apply ae); (repeat' (first | exact aa | apply ak | apply af | exact ay _)); first | done | fail)|refine cFY ?_|refine ai rfl ?_|refine r2Y ?_|fail)) <;> (try clear zz)
 exact vO rfl rfl
end Go.Proofs.Ytfcenbapjhecfaa
namespace Go.Proofs.Ytfcenbapjhecfaa
open Go Go.Abs
def on3 (b1:Nat) (c1:List AV) (b2:Nat) (c2:List AV) (b3:Nat) (c3:List AV):Hp:=fun x=>if x=b1 then some c1 else if x=b2 then some c2 else if x=b3 then some c3 else none
theorem yT {P:Program} {T:Tm} {H:Hp} {nx:Nat} (b1 b2 b3:Nat) {c1 c2 c3:List AV} {K:CP} {m:Nat} {l:List Op2} {C:List (Nat × Nat)} (h1:H b1=some c1) (h2:H b2=some c2) (h3:H b3=some c3) (n1:b2 ≠ b1) (n2:b3 ≠ b1) (n3:b3 ≠ b2) (k:∀ S:Hp,S b1=some c1→S b2=some c2→S b3=some c3→(∀ H':Hp,H' b1=some c1→H' b2=some c2→H' b3=some c3→Sub S H')→a7 P S (C.map fun k=>(l.getD k.1 ⟨none,none,.dead⟩,k.2)) T H nx fun T H nx=>K .normal T H nx):aD P (.mixS m l C) T H nx K:=by
 have hsub:∀ H':Hp,H' b1=some c1→H' b2=some c2→H' b3=some c3→Sub (on3 b1 c1 b2 c2 b3 c3) H':=fun H' a b c x cs h=>by
  unfold on3 at h
  split at h
  ·rename_i e; rw [e,a]; exact h
  split at h
  ·rename_i e; rw [e,b]; exact h
  split at h
  ·rename_i e; rw [e,c]; exact h
  ·cases h
 refine pg (on3 b1 c1 b2 c2 b3 c3) rfl (hsub H h1 h2 h3) (k _ ?_ ?_ ?_ hsub)
 ·unfold on3; rw [if_pos rfl]
 ·unfold on3; rw [if_neg n1,if_pos rfl]
 ·unfold on3; rw [if_neg n2,if_neg n3,if_pos rfl]
theorem rY {α:Type} {p q:Prop} [Decidable p] [Decidable q] (h:p ↔ q) {a b:α}:(if p then a else b)=if q then a else b:=by
 by_cases hq:q
 ·rw [if_pos hq,if_pos (h.2 hq)]
 ·rw [if_neg hq,if_neg fun x=>hq (h.1 x)]
def uM (c:List Spx) (d:Int):List Spx × Int:=if d < 0 then ([],0) else bU c (d + 1)
def bV (c:List Spx) (d:Int):List Spx:=if d ≤ 0 then [] else fM c d.toNat
def nU (c:List Spx) (d:Int):(Int × List (List Int)) × Int:=if aW c ≠ 0 then ((0,[]),aW c) else if d < 0 ∨ 8 ≤ d then ((0,[]),2) else ((((bV c (d + 1)).length:Nat),zQ (bV c (d + 1)) (bV c d)),0)
theorem tg {c:List Spx} {d:Int} (hc:aW c=0) (h1:-1 ≤ d) (h2:d < 8):uM c d=(bV c (d + 1),0):=by
 unfold uM bV bU
 by_cases h:d < 0
 ·rw [if_pos h,if_pos (by omega)]
 ·rw [if_neg h,if_neg (fun q=>q hc),if_neg (by omega),if_neg (by omega)]
theorem j0 {c:List Spx} {d:Int}:br aJ (bV c d):=by
 unfold bV; split
 ·exact br.nil
 ·exact vF
theorem eM {c:List Spx} {d:Int} (hc:c.length ≤ 50) (h:aW c=0):(bV c d).length ≤ 3500:=by
 unfold bV; split
 ·exact Nat.zero_le _
 ·exact uL hc (vI (fI h).2.1)
theorem tJ {c:List Spx} {d:Int} {s:Spx}:s ∈ bV c d ↔ 0 < d∧s.length=d.toNat∧∃ t ∈ c,s.Sublist t:=by
 unfold bV; split
 ·exact ⟨fun h=>(by cases h),fun h=>absurd h.1 (by omega)⟩
 ·rw [uQ]
  constructor
  ·rintro ⟨t,t1,t2⟩
   exact ⟨by omega,(cC.1 t2).2,t,t1,(cC.1 t2).1⟩
  ·rintro ⟨_,h1,t,t1,t2⟩
   exact ⟨t,t1,cC.2 ⟨t2,h1⟩⟩
theorem d5 {c:List Spx} {d:Int} (h:aW c=0):∀ s ∈ bV c d,bd s=0:=fun s hs=>by
 obtain ⟨h1,h2,t,t1,t2⟩:=tJ.1 hs
 obtain ⟨p1,p2,p3,p4⟩:=cm ((fI h).2.1 t t1)
 have:=t2.length_le
 exact qm ⟨by omega,by omega⟩ (p3.sublist t2) fun v hv=>p4 v (t2.subset hv)
attribute [local irreducible] aD am aZ aQ aH aL aB aM aR bf Go.Abs.Fn aP Go.Abs.Pure ax aF Yl
theorem qA (l:List Spx) (v:Spx) (hl:Shn l) (hs:∀ c ∈ l,Shn c) (hv:Shn v) (ha:br aJ l):∃ b:Nat,Pure Try.prog 52 [aq l,ar v] (.tup [.int .i64 b,.bool (decide (v ∈ l))])∧(v ∈ l→b < l.length∧l.getD b default=v):=by
 obtain ⟨b,hb,h1,h2⟩:=mH (fun i=>aJ (l.getD i default) v) l.length (fun i j hij hj h=>gb.trans (cz ha hij hj) h)
 have hc:=rB l v hl hs hv hb h1 h2
 have he:(decide (b < l.length) && decide (aJ (l.getD b default) v=0))=decide (v ∈ l)∧(v ∈ l→b < l.length∧l.getD b default=v):=by
  by_cases hm:v ∈ l
  ·obtain ⟨i,hi,e⟩:=List.getElem_of_mem hm
   have e':l.getD i default=v:=by simp [List.getD,hi,e]
   have hbi:b=i:=by
    rcases Nat.lt_trichotomy b i with h | h | h
    ·have h3:=h2 b (Nat.le_refl _) (by omega)
     have h4:=cz ha h hi
     rw [e'] at h4; omega
    ·exact h
    ·have h3:=h1 i h
     rw [e',dR] at h3; omega
   subst hbi
   rw [decide_eq_true hi,decide_eq_true hm,e',decide_eq_true (dR v)]
   exact ⟨rfl,fun _=>⟨hi,rfl⟩⟩
  ·rw [decide_eq_false hm]
   refine ⟨?_,fun h=>absurd h hm⟩
   by_cases hlt:b < l.length
   ·rw [decide_eq_true hlt,Bool.true_and,decide_eq_false]
    intro h
    exact hm (by rw [← lu h]; exact aG hlt)
   ·rw [decide_eq_false hlt,Bool.false_and]
 rw [he.1] at hc
 refine ⟨b,?_,he.2⟩
 refine Pure.of_c2 follows BM (Nat.le_of_ble_eq_true rfl) ?_
 simp only [b52,cO,cG,cN,cM,cD,cF,cB,aA,aN]
 (have zz:=aI @az (aI @av (aI @an @ag)); repeat' (first|refine zW ?_|apply a_n|refine zO ?_|refine vZ ?_|refine cZ ?_ (hp:=hc) (hs:=by (first | refine ab ?_ rfl | apply ae); (repeat' (first | exact aa | apply ak | apply af | exact ay _ | exact aw _ | exact Dat.func DatL.nil)); first | done | fail)|refine ai rfl ?_|refine r2Z ?_|fail)) <;> (try clear zz)
 exact dK (ap (.int _ _) (ap (.bool _) aa))
theorem uS (c:List Spx) (d:Int) (hd:d ≤ 1000) (hc:c.length ≤ 50) (hs:∀ s ∈ c,Shn s):Pure Try.prog 50 [dM c,.int .i64 d] (.tup [aq (uM c d).1,.int .i64 (uM c d).2]):=by
 refine Pure.of_c2 follows Bb (Nat.le_of_ble_eq_true rfl) ?_
 simp only [b50,cO,cG,cN,cM,cD,cF,cB,aA,aN]
 unfold uM
 by_cases h:d < 0
 ·have z:decide (d < 0)=true:=decide_eq_true h
  rw [if_pos h]
  (have zz:=aI @z (aI @an @ag); repeat' (first|refine zW ?_|apply a_n|apply a_r|refine zO ?_|refine vY ?_|refine bxY ?_|refine cTY ?_|refine ai rfl ?_|refine r2Y ?_|fail)) <;> (try clear zz)
  exact bt (.eslsl _) rfl
 ·have z:decide (d < 0)=false:=decide_eq_false h
  rw [if_neg h]
  have hS:=ja c (d + 1) hc hs
  (have zz:=aI @z (aI @an @ag); repeat' (first|refine zW ?_|apply a_n|refine zO ?_|refine vY ?_|refine cY ?_ (hp:=hS) (hs:=by (first | refine ab ?_ rfl | apply ae); (repeat' (first | exact aa | apply ak | apply af | exact aV _)); first | done | fail)|refine bxY ?_|refine cFY ?_|refine ai rfl ?_|refine r2Y ?_|fail)) <;> (try clear zz)
  exact bt (ay _).snap rfl
set_option maxHeartbeats 2000000 in
theorem wB (c:List Spx) (d:Int) (hc:c.length ≤ 50) (hs:∀ s ∈ c,Shn s):Pure Try.prog 22 [dM c,.int .i64 d] (.tup [kp (nU c d).1.1 (nU c d).1.2,.int .i64 (nU c d).2]):=by
 refine Pure.of_c2 follows Bg (Nat.le_of_ble_eq_true rfl) ?_
 simp only [b22,cO,cG,cN,cM,cD,cF,cB,aA,aN]
 have hcc:=jq c (show _ ≤ _ by omega) hs
 unfold nU
 by_cases he:aW c=0
 rotate_left
 ·rw [if_pos he]
  have z:decide (aW c ≠ 0)=true:=decide_eq_true he
  (have zz:=aI @an (aI @ag @z); repeat' (first|refine zW ?_|apply a_n|apply a_r|refine zO ?_|refine vY ?_|refine cY ?_ (hp:=hcc) (hs:=by (first | refine ab ?_ rfl | apply ae); (repeat' (first | exact aa | apply ak | apply af | exact aV _)); first | done | fail)|refine alY ?_|refine bxY ?_|refine stY ?_|refine cTY ?_|refine ai rfl ?_|refine r2Y ?_|fail)) <;> (try clear zz)
  exact pz (.eslsl _) rfl
 rw [if_neg (fun h=>h he)]
 rw [he] at hcc
 have z0:decide ((0:Int) ≠ 0)=false:=rfl
 by_cases hd:d < 0 ∨ 8 ≤ d
 ·rw [if_pos hd]
  (have zz:=aI @an (aI @ag @z0); repeat' (first|refine zW ?_|apply a_n|apply a_r|refine zO ?_|refine vY ?_|refine cY ?_ (hp:=hcc) (hs:=by (first | refine ab ?_ rfl | apply ae); (repeat' (first | exact aa | apply ak | apply af | exact aV _)); first | done | fail)|refine alY ?_|refine bxY ?_|refine stY ?_|refine gTY ?_|refine gFY ?_|refine cTY ?_|refine cFY ?_|(refine zGY ?_ ?_ <;> (intro _hg; try (exfalso; omega)))|refine ai rfl ?_|refine r2Y ?_|fail)) <;> (try clear zz)
  all_goals first | exact pz (.eslsl _) rfl | (exfalso; omega)
 rw [if_neg hd]
 have hX:=uS c d (by omega) hc hs
 have hY:=uS c (d - 1) (by omega) hc hs
 rw [tg he (by omega) (by omega)] at hX hY
 rw [show d - 1 + 1=d by omega] at hY
 have hXl:=eM (d:=d + 1) hc he
 have hYl:=eM (d:=d) hc he
 have hXm:=d5 (d:=d + 1) he
 have hYm:=go (d5 (d:=d) he)
 have hYa:=j0 (c:=c) (d:=d)
 generalize bV c (d + 1)=X at *
 generalize bV c d=Y at *
 have z1:decide (d < 0)=false:=decide_eq_false (by omega)
 have z2:decide (8 ≤ d)=false:=decide_eq_false (by omega)
 have hzc:a5 (AV.agg [AV.esl]) Y.length=List.replicate Y.length .esl:=by simp [a5,AV.cells]
 (have zz:=aI @an (aI @ag (aI @ac (aI @z0 (aI @z1 @z2)))); repeat' (first|refine zW ?_|apply a_n|refine zO ?_|refine vY ?_|refine cY ?_ (hp:=by first | exact hcc | exact hX | exact hY) (hs:=by (first | refine ab ?_ rfl | apply ae); (repeat' (first | exact aa | apply ak | apply af | exact aV _)); first | done | fail)|refine alY ?_|refine bxY ?_|refine stY ?_|refine gTY ?_|refine cFY ?_|fail)) <;> (try clear zz)
 refine xF (k1:=.i64) (k2:=.i64) (n:=Y.length) (m:=Y.length) rfl ev0 ev0 (by omega) (Int.le_refl _) (by omega) (by omega) ?_
 rw [Int.toNat_natCast,hzc,Nat.mul_one]
 (have zz:=@ac; repeat' (first|refine zW ?_|apply a_n|refine zO ?_|refine vY ?_|refine alY ?_|refine stY ?_|fail)) <;> (try clear zz)
 refine bb (X:=Nat × List AV) (fun x=>[(4,.ptr 1 2 0),(9,.ptr 2 1 0),(10,.ptr 4 2 0),(56,aq X),(57,.int .i64 X.length),(58,.int .i64 x.1)]) (fun x H' nx'=>x.1 ≤ X.length∧5 ≤ nx'∧H' 1=some [.int .i64 0,.esl]∧H' 2=some [aq Y]∧H' 4=some [.int .i64 X.length,.msl 3 Y.length 1 0 Y.length]∧MatOk H' 3 5 nx' Y.length (hU X Y x.1) x.2) (fun x=>X.length - x.1) (0,List.replicate Y.length .esl) ⟨Nat.zero_le _,Nat.le_refl _,by (repeat rw [ah (by omega)]); rw [aj],by (repeat rw [ah (by omega)]); rw [aj]; rfl,by rw [aj]; rfl,MatOk.new (by (repeat rw [ah (by omega)]); rw [aj]) (fun j _=>rfl)⟩ (by (iterate 6 refine And.intro rfl ?_); trivial) ?_
 rintro ⟨k,vs⟩ H nx ⟨h1,h2,g1,g2,g4,hmat⟩
 dsimp only at h1 h2 g1 g2 g4 hmat ⊢
 by_cases hk:k < X.length
 rotate_left
 ·obtain rfl:k=X.length:=by omega
  have hst:Snap (au H 1 [.int .i64 X.length,.msl 3 Y.length 1 0 Y.length]) (.msl 3 Y.length 1 0 Y.length) (cP (zQ X Y)):=(hmat.same (hi':=nx) (G:=hU X Y X.length) (ah (by omega)) (fun x x1 x2 x3=>ah (by omega)) (Nat.le_refl _) (fun j _=>rfl)).snap
  (have zz:=aI @g4 @g1; repeat' (first|refine zW ?_|apply a_n|apply a_x|refine zO ?_|refine vY ?_|refine stY ?_|(refine zGY ?_ ?_ <;> (intro _hg; try (exfalso; omega)))|refine ai rfl ?_|refine r2Y ?_|fail)) <;> (try clear zz)
  exact pz hst rfl
 have ix:=cA hk
 have hsim:=hXm _ (aG hk)
 have hF:∀ i,hU X Y (k + 1) i=hU X Y k i ++ if Y.getD i default ∈ bE (X.getD k default) then [k] else []:=fun i=>tZ
 generalize X.getD k default=s at *
 obtain ⟨p1,p2,p3,p4⟩:=cm hsim
 (have zz:=@ix; repeat' (first|refine zW ?_|apply a_n|refine zO ?_|refine vY ?_|refine alY ?_|refine stY ?_|(refine zGY ?_ ?_ <;> (intro _hg; try (exfalso; omega)))|fail)) <;> (try clear zz)
 refine aU ev0 ev0 (n6 s _ _) ?_
 rintro _ H1 nx1 ⟨rfl,rfl,rfl⟩
 (have zz:=and_self; repeat' (first|refine zW ?_|apply a_n|refine zO ?_|fail)) <;> (try clear zz)
 refine jQ (nx + 2) (nx + 3) rfl rfl ev0 (fun c0 cj hy=>?_)
 refine Abs.Fn.mono (nR (nx:=nx + 3) (y:=nx + 2) (sb:=nx + 1) (s:=s) (by omega) (fun D H' nx'=>nx + 3 ≤ nx'∧H' (nx + 1)=some [ar s]∧H' (nx + 2)=some [c0]∧H' nx=some [.int .i64 (k:Int)]∧H' 1=some [.int .i64 0,.esl]∧H' 2=some [aq Y]∧H' 4=some [.int .i64 X.length,.msl 3 Y.length 1 0 Y.length]∧∃ vs,MatOk H' 3 5 nx' Y.length (fun i=>hU X Y k i ++ if Y.getD i default ∈ D then [k] else []) vs∧∀ j B,j < Y.length→b4 (vs.getD j .undef)=some B→B < nx ∨ nx + 3 ≤ B) ?_ ?_ ?_ ?_) ?_
 ·rintro D H' nx' ⟨j1,j2,_⟩
  exact j2
 ·rintro D H' H'' n1 n2 ⟨j1,j2,j3,j4,j5,j6,j7,vs,j8,j9⟩ hle hsm
  exact ⟨by omega,(hsm _ (by omega)).trans j2,(hsm _ (by omega)).trans j3,(hsm _ (by omega)).trans j4,(hsm _ (by omega)).trans j5,(hsm _ (by omega)).trans j6,(hsm _ (by omega)).trans j7,vs,j8.same (hsm _ (by omega)) (fun x x1 x2 x3=>hsm x x2) hle (fun _ _=>rfl),j9⟩
 ·rintro D f H' nx' ⟨j1,j2,j3,j4,j5,j6,j7,vs,j8,j9⟩ hlt hfe hDe
  refine hy _ _ _ _ j3 rfl ?_
  clear hy
  have hfm:f ∈ fcs s:=by rw [hfe]; exact aG hlt
  have hfD:f ∉ D:=fun h=>by
   rw [hDe] at h
   have hnd:=ux p3
   have e:=bQ hlt
   have h5:=(List.nodup_append.1 (by rw [← e]; exact hnd.sublist (List.take_sublist _ _):((fcs s).take D.length ++ [(fcs s).getD D.length default]).Nodup)).2.2 _ h _ (List.mem_singleton.2 rfl)
   exact h5 hfe
  have hfs:=mh.1 (s9.1 hfm)
  have hfn:Shn f:=by show _ ≤ _; omega
  clear hfe hDe hlt hfm
  (have zz:=and_self; repeat' (first|apply a_n|refine zO ?_|refine vY ?_|fail)) <;> (try clear zz)
  refine ⟨j3,?_⟩
  have hd:∀ x,x ≠ nx + 2→bM H' (nx + 2) x=H' x:=fun x hx=>bO hx
  generalize bM H' (nx + 2)=H2 at *
  have q2:=(hd 2 (by omega)).trans j6
  have q3:=(hd 3 (by omega)).trans j8.box
  have q4:=(hd 4 (by omega)).trans j7
  have qk:=(hd nx (by omega)).trans j4
  obtain ⟨p,hpl,hpm⟩:=qA Y f (show _ ≤ _ by omega) hYm hfn hYa
  by_cases hin:f ∈ Y
  rotate_left
  ·rw [decide_eq_false hin] at hpl
   (have zz:=aI @q2 (aI @an @ag); repeat' (first|refine zW ?_|apply a_n|refine zO ?_|refine vY ?_|refine cY ?_ (hp:=hpl) (hs:=by (first | refine ab ?_ rfl | apply ae); (repeat' (first | exact aa | apply ak | apply af | exact ay _ | exact aw _)); first | done | fail)|refine cFY ?_|fail)) <;> (try clear zz)
   refine ⟨rfl,j1,(ah (by omega)).trans ((hd _ (by omega)).trans j2),aj,(ah (by omega)).trans qk,(ah (by omega)).trans ((hd _ (by omega)).trans j5),(ah (by omega)).trans q2,(ah (by omega)).trans q4,vs,j8.same ((ah (by omega)).trans (hd _ (by omega))) (fun x x1 x2 x3=>?_) (Nat.le_refl _) (fun j hj=>?_),j9⟩
   ·by_cases e:x=nx + 2
    ·rw [e,aj,j3]
    ·rw [ah e,hd x e]
   ·have hne:Y.getD j default ≠ f:=fun e=>hin (by rw [← e]; exact aG hj)
    congr 1
    exact rY (by rw [List.mem_append,List.mem_singleton]; exact ⟨fun h=>h.resolve_right hne,.inl⟩)
  rw [decide_eq_true hin] at hpl
  obtain ⟨pl1,pl2⟩:=hpm hin
  have hFD:hU X Y k p ++ (if Y.getD p default ∈ D then [k] else [])=hU X Y k p:=by rw [pl2,if_neg hfD,List.append_nil]
  have hrow:Row H2 1 (vs.getD p .undef) ((hU X Y k p).map rz):=by
   have:=j8.row p pl1
   rw [hFD] at this
   exact this.same fun b hb=>hd b (by have:=j9 p b pl1 hb; omega)
  have hvs:vs[p]?=some (vs.getD p .undef):=by
   have:=j8.len
   simp [List.getD,show p < vs.length by omega]
  have hlen:=j8.len
  have hb3:∀ b,b4 (vs.getD p .undef)=some b→5 ≤ b∧b < nx'∧b ≠ 3∧(b < nx ∨ nx + 3 ≤ b):=fun b hb=>by
   have h5:=j8.bnd p b pl1 hb
   have h6:=j9 p b pl1 hb
   exact ⟨h5.1,h5.2.1,h5.2.2,h6⟩
  generalize hrv:vs.getD p .undef=rv at *
  (have zz:=aI @q2 (aI @an @ag); repeat' (first|refine zW ?_|apply a_n|refine zO ?_|refine vY ?_|refine cY ?_ (hp:=hpl) (hs:=by (first | refine ab ?_ rfl | apply ae); (repeat' (first | exact aa | apply ak | apply af | exact ay _ | exact aw _)); first | done | fail)|refine cTY ?_|fail)) <;> (try clear zz)
  refine yT 4 3 nx q4 q3 qk (by omega) (by omega) (by omega) fun S0 hS1 hS2 hS3 hsub=>?_
  have hFl:=uV (X:=X) (Y:=Y) (n:=k) (i:=p)
  (have zz:=aI @hS1 (aI @hS2 (aI @hS3 (aI @hvs @hlen))); repeat' (first|apply a_n|refine zO ?_|refine nvY ?_|fail)) <;> (try clear zz)
  refine gp ?_
  (have zz:=and_self; repeat' (first|apply a_n|refine zO ?_|refine blY ?_|fail)) <;> (try clear zz)
  refine ⟨hsub _ (by rw [ah (by omega)]; exact q4) (by rw [ah (by omega)]; exact q3) (by rw [ah (by omega)]; exact qk),?_⟩
  refine gp ?_
  refine dg rfl ev0 (hrow.same fun b hb=>?_) ev0 bz rfl rfl Nat.one_pos (by rw [List.length_map]; omega) (by rw [List.length_map]; omega) ?_
  ·have:=hb3 b hb; rw [ah (by omega)]
  rintro s2 H4 nx4 hr2 i1 i2 i3 i4
  have lo:∀ x,x < nx'→b4 rv ≠ some x→H4 x=H2 x:=fun x x1 x2=>(i3 x (by omega) x2).trans (ah (by omega))
  have l3:H4 3=H2 3:=lo 3 (by omega) (fun h=>by have:=hb3 _ h; omega)
  have l4:H4 4=H2 4:=lo 4 (by omega) (fun h=>by have:=hb3 _ h; omega)
  have lk:H4 nx=H2 nx:=lo nx (by omega) (fun h=>by have:=hb3 _ h; omega)
  have lo2:∀ x,x < nx + 3→5 ≤ x→nx ≤ x→H4 x=H2 x:=fun x x1 x2 x3=>lo x (by omega) (fun h=>by have:=hb3 _ h; omega)
  have lo5:∀ x,x < 5→H4 x=H2 x:=fun x x1=>lo x (by omega) (fun h=>by have:=hb3 _ h; omega)
  obtain ⟨o1,o2⟩:=hr2.one
  have m3:=l3.trans q3
  refine mG ⟨hsub _ (l4.trans q4) m3 (lk.trans qk),?_⟩
  have hlp:bq vs p [s2]=vs.set p s2:=by
   simp only [bq,List.length_cons,List.length_nil,Nat.zero_add]
   rw [List.set_eq_take_append_cons_drop,if_pos (by omega)]; simp
  (have zz:=aI @m3 (aI @o1 (aI @o2 (aI @hlen @hlp))); repeat' (first|apply a_n|refine zO ?_|refine nvY ?_|apply ib|refine stY ?_|fail)) <;> (try clear zz)
  have hB2:∀ b,b4 s2=some b→(b4 rv=some b ∨ nx' ≤ b)∧b < nx4:=fun b hb=>by
   rcases i4 b hb with h | h
   ·exact ⟨.inl h,by have:=hb3 b h; omega⟩
   ·exact ⟨.inr (by omega),by omega⟩
  have hwd:∀ x,x ≠ 3→x ≠ nx + 2→au (au H4 3 (vs.set p s2)) (nx + 2) [c0] x=H4 x:=fun x x1 x2=>by rw [ah x2,ah x1]
  rw [hlp]
  refine ⟨rfl,by omega,?_,aj,?_,?_,?_,?_,vs.set p s2,?_,?_⟩
  ·rw [hwd _ (by omega) (by omega),lo2 _ (by omega) (by omega) (by omega),hd _ (by omega)]; exact j2
  ·rw [hwd _ (by omega) (by omega),lk]; exact qk
  ·rw [hwd _ (by omega) (by omega),lo5 _ (by omega),hd _ (by omega)]; exact j5
  ·rw [hwd _ (by omega) (by omega),lo5 _ (by omega)]; exact q2
  ·rw [hwd _ (by omega) (by omega),l4]; exact q4
  ·refine j8.put (sv:=s2) (x:=k) (i:=p) pl1 (fun j hj=>?_) ?_ (fun b hb=>?_) (by rw [ah (by omega),aj]) (fun x x1 x2 x3 x4=>?_) (by omega) (by omega)
   ·by_cases e:j=p
    ·subst e
     rw [if_pos rfl,pl2,if_neg hfD,if_pos (List.mem_append_right _ (List.mem_singleton.2 rfl)),List.append_nil]
    ·rw [if_neg e]
     have hne:Y.getD j default ≠ f:=fun h=>e (by
      rcases Nat.lt_trichotomy j p with h' | h' | h'
      ·have:=cz hYa h' pl1
       rw [h,pl2,dR] at this; omega
      ·exact h'
      ·have:=cz hYa h' hj
       rw [h,pl2,dR] at this; omega)
     congr 1
     exact rY (by rw [List.mem_append,List.mem_singleton]; exact ⟨fun h=>h.resolve_right hne,.inl⟩)
   ·rw [hFD,List.map_append]
    refine hr2.same fun b hb=>hwd b ?_ ?_
    ·have:=hB2 b hb
     rcases this.1 with h | h
     ·have:=hb3 b h; omega
     ·omega
    ·have:=hB2 b hb
     rcases this.1 with h | h
     ·have:=hb3 b h; omega
     ·omega
   ·rw [hrv]
    have:=hB2 b hb
    rcases this.1 with h | h
    ·exact .inl h
    ·exact .inr ⟨h,this.2,by omega⟩
   ·rw [hrv] at x4
    by_cases e:x=nx + 2
    ·rw [e,aj,j3]
    ·rw [hwd x x3 e,lo x x2 x4,hd x e]
  ·intro j B hj hB
   rw [ki (by omega)] at hB
   by_cases e:p=j
   ·rw [if_pos e] at hB
    have:=hB2 B hB
    rcases this.1 with h | h
    ·have:=hb3 B h; omega
    ·omega
   ·rw [if_neg e] at hB
    exact j9 j B hj hB
 ·have hlk:bq [AV.int .i64 0] 0 [.int .i64 (k:Int)]=[.int .i64 (k:Int)]:=rfl
  have hw:∀ x,x ≠ nx→x ≠ nx + 1→x ≠ nx + 2→au (au (au (au H nx [.int .i64 0]) nx (bq [.int .i64 0] 0 [.int .i64 (k:Int)])) (nx + 1) [ar s]) (nx + 2) [c0] x=H x:=fun x x1 x2 x3=>by rw [ah x3,ah x2,ah x1,ah x1]
  refine ⟨Nat.le_refl _,by rw [ah (by omega),aj],aj,by rw [ah (by omega),ah (by omega),aj]; rfl,(hw _ (by omega) (by omega) (by omega)).trans g1,(hw _ (by omega) (by omega) (by omega)).trans g2,(hw _ (by omega) (by omega) (by omega)).trans g4,vs,hmat.same (hw _ (by omega) (by omega) (by omega)) (fun x x1 x2 x3=>hw x (by omega) (by omega) (by omega)) (by omega) (fun j _=>by simp),fun j B hj hB=>by have:=hmat.bnd j B hj hB; omega⟩
 ·rintro r H' nx' ⟨j1,j2,j3,j4,j5,j6,j7,vs2,j8,j9⟩
  refine .inl ⟨j3,?_⟩
  (have zz:=and_self; repeat' (first|apply a_n|refine zO ?_|refine vY ?_|fail)) <;> (try clear zz)
  refine ⟨(k + 1,vs2),by dsimp only; omega,⟨by dsimp only; omega,by omega,(bO (by omega)).trans j5,(bO (by omega)).trans j6,(bO (by omega)).trans j7,?_⟩,ag0⟩
  dsimp only
  have hrows:∀ j,j < Y.length→hU X Y (k + 1) j=hU X Y k j ++ if Y.getD j default ∈ fcs s then [k] else []:=fun j _=>by
   rw [hF]; congr 1; exact rY s9.symm
  exact ⟨(bO (by omega)).trans j8.box,j8.len,fun j hj=>by rw [hrows j hj]; exact (j8.row j hj).same fun b hb=>bO (by have:=j9 j b hj hb; omega),fun j B hj hB=>by have:=j8.bnd j B hj hB; exact this,j8.apart⟩
end Go.Proofs.Ytfcenbapjhecfaa
namespace Go.Proofs.Ytfcenbapjhecfaa
open Go Go.Abs
def ka (L a:List Spx):List Nat:=a.map fun s=>L.idxOf s
abbrev eZ (a:List Spx):Nat:=(a.getD 0 default).length
def lh (c a:List Spx):List Int × Int:=if aW c ≠ 0 then ([],aW c) else if cf a ≠ 0 then ([],cf a) else if a=[] then ([],0) else if (a.all fun s=>decide (s ∈ bV c (eZ a)))=true then (ea (ka (bV c (eZ a)) a),0) else ([],6)
theorem kF {l:List Nat} {n:Nat}:ea (l ++ [n])=ea l ++ [(n:Int)]:=by unfold ea; rw [List.map_append]; rfl
theorem oA {L a:List Spx} {k:Nat} (h:k < a.length):ka L (a.take (k + 1))=ka L (a.take k) ++ [L.idxOf (a.getD k default)]:=by
 unfold ka; rw [bQ h,List.map_append]; rfl
theorem sF {l:List Spx} (hn:l.Nodup) {v:Spx} {k:Nat} (hk:k < l.length) (hv:l.getD k default=v):l.idxOf v=k:=by
 have hm:v ∈ l:=by rw [← hv]; exact aG hk
 have h1:=List.idxOf_lt_length_iff.2 hm
 have h2:l[l.idxOf v]=v:=List.getElem_idxOf h1
 have h3:l[k]=v:=by simpa [List.getD,hk] using hv
 exact (List.getElem_inj hn).1 (h2.trans h3.symm)
theorem fm {H:Hp} {s:AV} {l:List Int} {e f:Int} (h:Snap H s (bm l)) (he:e=f):Snap H (.tup [s,.int .i64 e]) (.tup [bm l,.int .i64 f]):=by
 subst he; exact dK (ap h (ap (.int _ _) aa))
def lC (n:Nat) (v:List Int) (k:Nat):Int:=if v.getD k default < 0 ∨ (n:Int) ≤ v.getD k default then 2 else if 0 < k∧v.getD k default ≤ v.getD (k - 1) default then 14 else 0
def mB (n:Nat) (v:List Int):Int:=bS (lC n v) v.length
theorem ml {n:Nat} {v:List Int} {k:Nat}:lC n v k=if v.getD k default < 0 ∨ (n:Int) ≤ v.getD k default then 2 else if 0 < k∧v.getD k default ≤ v.getD (k - 1) default then 14 else 0:=rfl
def dh (X:List Spx) (v:List Int):List Spx:=v.map fun i=>X.getD i.toNat default
theorem lA {X:List Spx} {v:List Int} {k:Nat} (h:k < v.length):dh X (v.take (k + 1))=dh X (v.take k) ++ [X.getD (v.getD k default).toNat default]:=by
 unfold dh; rw [bQ h,List.map_append]; rfl
def oS (c:List Spx) (d:Int) (v:List Int):List Spx × Int:=if aW c ≠ 0 then ([],aW c) else if d < 0 ∨ 8 ≤ d then ([],2) else if mB (bV c (d + 1)).length v ≠ 0 then ([],mB (bV c (d + 1)).length v) else (dh (bV c (d + 1)) v,0)
attribute [local irreducible] aD am aZ aQ aH aL aB aM aR bf Go.Abs.Fn aP Go.Abs.Pure ax aF Yl
theorem vq (c a:List Spx) (hc:c.length ≤ 50) (hs:∀ s ∈ c,Shn s) (ha:ShC a):Pure Try.prog 25 [dM c,aq a] (.tup [bm (lh c a).1,.int .i64 (lh c a).2]):=by
 refine Pure.of_c2 follows Bf (Nat.le_of_ble_eq_true rfl) ?_
 simp only [b25,cO,cG,cN,cM,cD,cF,cB,aA,aN]
 have hcc:=jq c (show _ ≤ _ by omega) hs
 have hca:=ju a ha
 have z0:decide ((0:Int) ≠ 0)=false:=rfl
 unfold lh
 by_cases he:aW c=0
 rotate_left
 ·rw [if_pos he]
  have z:decide (aW c ≠ 0)=true:=decide_eq_true he
  (have zz:=aI @an (aI @ag @z); repeat' (first|refine zW ?_|apply a_n|apply a_r|refine zO ?_|refine vY ?_|refine cY ?_ (hp:=hcc) (hs:=by (first | refine ab ?_ rfl | apply ae); (repeat' (first | exact aa | apply ak | apply af | exact aV _)); first | done | fail)|refine bxY ?_|refine cTY ?_|refine ai rfl ?_|refine r2Y ?_|fail)) <;> (try clear zz)
  exact fm (.eslsl _) rfl
 rw [if_neg (fun h=>h he)]
 rw [he] at hcc
 by_cases h2:cf a=0
 rotate_left
 ·rw [if_pos h2]
  have z:decide (cf a ≠ 0)=true:=decide_eq_true h2
  (have zz:=aI @an (aI @ag (aI @z @z0)); repeat' (first|refine zW ?_|apply a_n|apply a_r|refine zO ?_|refine vY ?_|refine cY ?_ (hp:=by first | exact hcc | exact hca) (hs:=by (first | refine ab ?_ rfl | apply ae); (repeat' (first | exact aa | apply ak | apply af | exact aV _ | exact ay _)); first | done | fail)|refine bxY ?_|refine cTY ?_|refine cFY ?_|refine ai rfl ?_|refine r2Y ?_|fail)) <;> (try clear zz)
  exact fm (.eslsl _) rfl
 rw [if_neg (fun h=>h h2)]
 rw [h2] at hca
 by_cases h3:a=[]
 ·rw [if_pos h3]
  subst h3
  have al:bG (aq [])=some (.int .i64 0):=rfl
  (have zz:=aI @an (aI @ag (aI @al @z0)); repeat' (first|refine zW ?_|apply a_n|apply a_r|refine zO ?_|refine vY ?_|refine cY ?_ (hp:=by first | exact hcc | exact hca) (hs:=by (first | refine ab ?_ rfl | apply ae); (repeat' (first | exact aa | apply ak | apply af | exact aV _ | exact ay _)); first | done | fail)|refine bxY ?_|refine cFY ?_|(refine zGY ?_ ?_ <;> (intro _hg; try (exfalso; omega)))|refine ai rfl ?_|refine r2Y ?_|fail)) <;> (try clear zz)
  exact fm (.eslsl _) rfl
 rw [if_neg h3]
 have hpos:=List.length_pos_iff.2 h3
 have z3:decide ((a.length:Int)=0)=false:=decide_eq_false (by omega)
 obtain ⟨p1,p2,p3,p4⟩:=dY h2
 have p5:=cm (p2 _ (aG hpos))
 have i0:=pH hpos
 have hS:=ja c (eZ a) hc hs
 unfold bU at hS
 rw [if_neg (fun h=>h he),if_neg (by unfold eZ; omega),Int.toNat_natCast] at hS
 have eL:fM c (eZ a)=bV c (eZ a):=by unfold bV; rw [if_neg (by unfold eZ; omega),Int.toNat_natCast]
 rw [eL] at hS
 have hLs:=go (d5 (d:=(eZ a:Nat)) he)
 have hLl:=eM (d:=(eZ a:Nat)) hc he
 have hLa:=j0 (c:=c) (d:=(eZ a:Nat))
 generalize bV c (eZ a)=L at *
 unfold eZ at hS
 (have zz:=aI @an (aI @ag (aI @ac (aI @ao (aI @i0 (aI @z0 @z3))))); repeat' (first|refine zW ?_|refine zM ?_|apply a_n|refine zO ?_|refine vY ?_|refine cY ?_ (hp:=by first | exact hcc | exact hca | exact hS) (hs:=by (first | refine ab ?_ rfl | apply ae); (repeat' (first | exact aa | apply ak | apply af | exact aV _ | exact ay _)); first | done | fail)|refine bxY ?_|refine cFY ?_|fail)) <;> (try clear zz)
 refine bb (X:=AV × Nat) (fun x=>[(8,aq L),(10,x.1),(40,aq a),(41,.int .i64 a.length),(42,.int .i64 x.2)]) (fun x H nx=>x.2 ≤ a.length∧(∀ i,i < x.2→decide (a.getD i default ∈ L)=true)∧Row H 1 x.1 ((ea (ka L (a.take x.2))).map (AV.int .i64))∧∀ b,b4 x.1=some b→b < nx) (fun x=>a.length - x.2) (.esl,0) ⟨Nat.zero_le _,fun i h=>absurd h (by omega),Row.nil,fun b hb=>(by cases hb)⟩ ag0 ?_
 rintro ⟨sv,k⟩ H nx ⟨k1,k2,k3,k4⟩
 dsimp only at k1 k2 k3 k4 ⊢
 by_cases hk:k < a.length
 rotate_left
 ·rw [List.take_of_length_le (by omega)] at k3
  rw [if_pos (ec fun i hi=>k2 i (by omega))]
  (have zz:=and_self; repeat' (first|refine zW ?_|apply a_n|apply a_x|refine zO ?_|refine vY ?_|(refine zGY ?_ ?_ <;> (intro _hg; try (exfalso; omega)))|refine ai rfl ?_|refine r2Y ?_|fail)) <;> (try clear zz)
  exact fm k3.snapI rfl
 have ix:=cA hk
 have hsx:=ha.2 _ (aG hk)
 obtain ⟨p,hpl,hpm⟩:=qA L (a.getD k default) (show _ ≤ _ by omega) hLs hsx hLa
 by_cases hin:a.getD k default ∈ L
 rotate_left
 ·rw [decide_eq_false hin] at hpl
  have hall:¬ (a.all fun s=>decide (s ∈ L))=true:=by
   rw [dS hk (decide_eq_false hin)]; decide
  rw [if_neg hall]
  (have zz:=@ix; repeat' (first|refine zW ?_|apply a_n|apply a_r|refine zO ?_|refine vY ?_|refine cY ?_ (hp:=hpl) (hs:=by (first | refine ab ?_ rfl | apply ae); (repeat' (first | exact aa | apply ak | apply af | exact ay _ | exact aw _)); first | done | fail)|refine cTY ?_|(refine zGY ?_ ?_ <;> (intro _hg; try (exfalso; omega)))|refine ai rfl ?_|refine r2Y ?_|fail)) <;> (try clear zz)
  exact fm (.eslsl _) rfl
 rw [decide_eq_true hin] at hpl
 obtain ⟨p1',p2'⟩:=hpm hin
 have hidx:=sF (hLa.nodup gb) p1' p2'
 have hpt:=oA (L:=L) hk
 rw [hidx] at hpt
 have hnl:(ea (ka L (a.take k))).length=k:=by unfold ea ka; rw [List.length_map,List.length_map,List.length_take]; omega
 (have zz:=@ix; repeat' (first|refine zW ?_|apply a_n|refine zO ?_|refine vY ?_|refine cY ?_ (hp:=hpl) (hs:=by (first | refine ab ?_ rfl | apply ae); (repeat' (first | exact aa | apply ak | apply af | exact ay _ | exact aw _)); first | done | fail)|refine blY ?_|refine cFY ?_|(refine zGY ?_ ?_ <;> (intro _hg; try (exfalso; omega)))|fail)) <;> (try clear zz)
 refine dg rfl ev0 (k3.same fun b hb=>?_) ev0 bz rfl rfl Nat.one_pos (by rw [List.length_map]; omega) (by rw [List.length_map]; omega) ?_
 ·have:=k4 b hb; rw [ah (by omega)]
 rintro s2 E e hrow hle1 hle2 hsame hb2
 (have zz:=and_self; repeat' (first|apply a_n|refine zO ?_|refine vY ?_|fail)) <;> (try clear zz)
 refine ⟨(s2,k + 1),by dsimp only; omega,⟨by dsimp only; omega,fun i hi=>?_,?_,fun b hb=>?_⟩,ag0⟩
 ·rcases Nat.lt_succ_iff_lt_or_eq.1 hi with h' | rfl
  ·exact k2 i h'
  ·exact decide_eq_true hin
 ·dsimp only
  rw [hpt,kF,List.map_append]; exact hrow
 ·rcases hb2 b hb with h | h
  ·have:=k4 b h; omega
  ·omega
theorem vE (l:List Spx) (v:Spx) (hl:Shn l) (hs:∀ c ∈ l,Shn c) (hv:Shn v) (hn:l.Nodup):Pure Try.prog 82 [aq l,ar v] (.int .i64 (if v ∈ l then (l.idxOf v:Nat) else -1)):=by
 refine Pure.of_c2 follows Bo (Nat.le_of_ble_eq_true rfl) ?_
 simp only [b82,cO,cG,cN,cM,cD,cF,cB,aA,aN]
 have hl':l.length ≤ 17592186044416:=hl
 (have zz:=@ac; repeat' (first|refine zW ?_|apply a_n|refine zO ?_|refine vZ ?_|fail)) <;> (try clear zz)
 refine gJ (X:=Nat) (fun k=>[(0,aq l),(1,ar v),(5,.int .i64 k)]) (fun k=>k ≤ l.length∧∀ i,i < k→l.getD i default ≠ v) (fun k=>l.length - k) 0 ⟨Nat.zero_le _,fun i h=>absurd h (by omega)⟩ ag0 ?_
 rintro k ⟨h1,h2⟩
 by_cases hk:k < l.length
 rotate_left
 ·have hm:v ∉ l:=fun h=>by
    obtain ⟨i,hi,e⟩:=List.getElem_of_mem h
    exact h2 i (by omega) (by simp [List.getD,hi,e])
  rw [if_neg hm]
  (have zz:=@ac; repeat' (first|refine zW ?_|apply a_n|apply a_x|refine zO ?_|refine vY ?_|(refine zGY ?_ ?_ <;> (intro _hg; try (exfalso; omega)))|refine ai rfl ?_|refine r1Y ?_|fail)) <;> (try clear zz)
  exact .int _ _
 have ix:=cA hk
 have hsm:=sy (l.getD k default) v (hs _ (aG hk)) hv
 by_cases e:l.getD k default=v
 ·rw [decide_eq_true e] at hsm
  have hm:v ∈ l:=by rw [← e]; exact aG hk
  rw [if_pos hm,sF hn hk e]
  (have zz:=aI @ac @ix; repeat' (first|refine zW ?_|apply a_n|apply a_r|refine zO ?_|refine vY ?_|refine cY ?_ (hp:=hsm) (hs:=by (first | refine ab ?_ rfl | apply ae); (repeat' (first | exact aa | apply ak | apply af | exact aw _)); first | done | fail)|refine cTY ?_|(refine zGY ?_ ?_ <;> (intro _hg; try (exfalso; omega)))|refine ai rfl ?_|refine r1Y ?_|fail)) <;> (try clear zz)
  exact .int _ _
 ·rw [decide_eq_false e] at hsm
  (have zz:=aI @ac @ix; repeat' (first|refine zW ?_|apply a_n|refine zO ?_|refine vY ?_|refine cY ?_ (hp:=hsm) (hs:=by (first | refine ab ?_ rfl | apply ae); (repeat' (first | exact aa | apply ak | apply af | exact aw _)); first | done | fail)|refine cFY ?_|(refine zGY ?_ ?_ <;> (intro _hg; try (exfalso; omega)))|fail)) <;> (try clear zz)
  exact ⟨k + 1,⟨by omega,fun i hi=>by
   rcases Nat.lt_succ_iff_lt_or_eq.1 hi with h' | rfl
   ·exact h2 i h'
   ·exact e⟩,by omega,ag0,rfl,rfl⟩
theorem rh (l a:List Spx) (hl:Shn l) (hs:∀ c ∈ l,Shn c) (hn:l.Nodup) (hal:a.length ≤ 1000000) (ha:∀ s ∈ a,Shn s):Pure Try.prog 57 [aq l,aq a] (.tup [bm (if (a.all fun s=>decide (s ∈ l))=true then ea (ka l a) else []),.bool (a.all fun s=>decide (s ∈ l))]):=by
 refine Pure.of_c2 follows Bs (Nat.le_of_ble_eq_true rfl) ?_
 simp only [b57,cO,cG,cN,cM,cD,cF,cB,aA,aN]
 (have zz:=@ac; repeat' (first|refine zW ?_|apply a_n|refine zO ?_|refine vZ ?_|fail)) <;> (try clear zz)
 refine bb (X:=AV × Nat) (fun x=>[(0,aq l),(1,aq a),(6,x.1),(7,.int .i64 x.2)]) (fun x H nx=>x.2 ≤ a.length∧(∀ i,i < x.2→decide (a.getD i default ∈ l)=true)∧Row H 1 x.1 ((ea (ka l (a.take x.2))).map (AV.int .i64))∧∀ b,b4 x.1=some b→b < nx) (fun x=>a.length - x.2) (.esl,0) ⟨Nat.zero_le _,fun i h=>absurd h (by omega),Row.nil,fun b hb=>(by cases hb)⟩ ag0 ?_
 rintro ⟨sv,k⟩ H nx ⟨k1,k2,k3,k4⟩
 dsimp only at k1 k2 k3 k4 ⊢
 by_cases hk:k < a.length
 rotate_left
 ·rw [List.take_of_length_le (by omega)] at k3
  rw [if_pos (ec fun i hi=>k2 i (by omega)),ec fun i hi=>k2 i (by omega)]
  (have zz:=@ac; repeat' (first|refine zW ?_|apply a_n|apply a_x|refine zO ?_|refine vY ?_|(refine zGY ?_ ?_ <;> (intro _hg; try (exfalso; omega)))|refine ai rfl ?_|refine r2Y ?_|fail)) <;> (try clear zz)
  exact dK (ap k3.snapI (ap (.bool _) aa))
 have ix:=cA hk
 have hpl:=vE l (a.getD k default) hl hs (ha _ (aG hk)) hn
 by_cases hin:a.getD k default ∈ l
 rotate_left
 ·rw [if_neg hin] at hpl
  have hall:=dS hk (p:=fun s=>decide (s ∈ l)) (decide_eq_false hin)
  rw [hall,if_neg (by decide)]
  have z:decide ((-1:Int) < 0)=true:=rfl
  (have zz:=aI @ac (aI @ix @z); repeat' (first|refine zW ?_|apply a_n|apply a_r|refine zO ?_|refine vY ?_|refine cY ?_ (hp:=hpl) (hs:=by (first | refine ab ?_ rfl | apply ae); (repeat' (first | exact aa | apply ak | apply af | exact ay _ | exact aw _)); first | done | fail)|refine cTY ?_|(refine zGY ?_ ?_ <;> (intro _hg; try (exfalso; omega)))|refine ai rfl ?_|refine r2Y ?_|fail)) <;> (try clear zz)
  exact dK (ap (.eslsl _) (ap (.bool _) aa))
 rw [if_pos hin] at hpl
 have hpt:=oA (L:=l) hk
 have hnl:(ea (ka l (a.take k))).length=k:=by unfold ea ka; rw [List.length_map,List.length_map,List.length_take]; omega
 generalize l.idxOf (a.getD k default)=p at *
 have z:decide ((p:Int) < 0)=false:=decide_eq_false (by omega)
 (have zz:=aI @ac (aI @ix @z); repeat' (first|refine zW ?_|apply a_n|refine zO ?_|refine vY ?_|refine cY ?_ (hp:=hpl) (hs:=by (first | refine ab ?_ rfl | apply ae); (repeat' (first | exact aa | apply ak | apply af | exact ay _ | exact aw _)); first | done | fail)|refine blY ?_|refine cFY ?_|(refine zGY ?_ ?_ <;> (intro _hg; try (exfalso; omega)))|fail)) <;> (try clear zz)
 refine dg rfl ev0 (k3.same fun b hb=>?_) ev0 bz rfl rfl Nat.one_pos (by rw [List.length_map]; omega) (by rw [List.length_map]; omega) ?_
 ·have:=k4 b hb; rw [ah (by omega)]
 rintro s2 E e hrow hle1 hle2 hsame hb2
 (have zz:=and_self; repeat' (first|apply a_n|refine zO ?_|refine vY ?_|fail)) <;> (try clear zz)
 refine ⟨(s2,k + 1),by dsimp only; omega,⟨by dsimp only; omega,fun i hi=>?_,?_,fun b hb=>?_⟩,ag0⟩
 ·rcases Nat.lt_succ_iff_lt_or_eq.1 hi with h' | rfl
  ·exact k2 i h'
  ·exact decide_eq_true hin
 ·dsimp only
  rw [hpt,kF,List.map_append]; exact hrow
 ·rcases hb2 b hb with h | h
  ·have:=k4 b h; omega
  ·omega
theorem zw (c a:List Spx) (hc:c.length ≤ 50) (hs:∀ s ∈ c,Shn s) (ha:ShC a):Pure Try.prog 26 [dM c,aq a] (.tup [bm (lh c a).1,.int .i64 (lh c a).2]):=by
 refine Pure.of_c2 follows AH (Nat.le_of_ble_eq_true rfl) ?_
 simp only [b26,cO,cG,cN,cM,cD,cF,cB,aA,aN]
 have hcc:=pb c (show _ ≤ _ by omega) hs
 have hca:=w5 a ha
 have z0:decide ((0:Int) ≠ 0)=false:=rfl
 unfold lh
 by_cases he:aW c=0
 rotate_left
 ·rw [if_pos he]
  have z:decide (aW c ≠ 0)=true:=decide_eq_true he
  (have zz:=aI @an (aI @ag @z); repeat' (first|refine zW ?_|apply a_n|apply a_r|refine zO ?_|refine vY ?_|refine cY ?_ (hp:=hcc) (hs:=by (first | refine ab ?_ rfl | apply ae); (repeat' (first | exact aa | apply ak | apply af | exact aV _)); first | done | fail)|refine bxY ?_|refine cTY ?_|refine ai rfl ?_|refine r2Y ?_|fail)) <;> (try clear zz)
  exact fm (.eslsl _) rfl
 rw [if_neg (fun h=>h he)]
 rw [he] at hcc
 by_cases h2:cf a=0
 rotate_left
 ·rw [if_pos h2]
  have z:decide (cf a ≠ 0)=true:=decide_eq_true h2
  (have zz:=aI @an (aI @ag (aI @z @z0)); repeat' (first|refine zW ?_|apply a_n|apply a_r|refine zO ?_|refine vY ?_|refine cY ?_ (hp:=by first | exact hcc | exact hca) (hs:=by (first | refine ab ?_ rfl | apply ae); (repeat' (first | exact aa | apply ak | apply af | exact aV _ | exact ay _)); first | done | fail)|refine bxY ?_|refine cTY ?_|refine cFY ?_|refine ai rfl ?_|refine r2Y ?_|fail)) <;> (try clear zz)
  exact fm (.eslsl _) rfl
 rw [if_neg (fun h=>h h2)]
 rw [h2] at hca
 by_cases h3:a=[]
 ·rw [if_pos h3]
  subst h3
  have al:bG (aq [])=some (.int .i64 0):=rfl
  (have zz:=aI @an (aI @ag (aI @al @z0)); repeat' (first|refine zW ?_|apply a_n|apply a_r|refine zO ?_|refine vY ?_|refine cY ?_ (hp:=by first | exact hcc | exact hca) (hs:=by (first | refine ab ?_ rfl | apply ae); (repeat' (first | exact aa | apply ak | apply af | exact aV _ | exact ay _)); first | done | fail)|refine bxY ?_|refine cFY ?_|(refine zGY ?_ ?_ <;> (intro _hg; try (exfalso; omega)))|refine ai rfl ?_|refine r2Y ?_|fail)) <;> (try clear zz)
  exact fm (.eslsl _) rfl
 rw [if_neg h3]
 have hpos:=List.length_pos_iff.2 h3
 have z3:decide ((a.length:Int)=0)=false:=decide_eq_false (by omega)
 obtain ⟨p1,p2,p3,p4⟩:=dY h2
 have p5:=cm (p2 _ (aG hpos))
 have i0:=pH hpos
 have hS:=jr c (eZ a) (by omega) hs
 unfold bU at hS
 rw [if_neg (fun h=>h he),if_neg (by unfold eZ; omega),Int.toNat_natCast] at hS
 have eL:fM c (eZ a)=bV c (eZ a):=by unfold bV; rw [if_neg (by unfold eZ; omega),Int.toNat_natCast]
 rw [eL] at hS
 have hLs:=go (d5 (d:=(eZ a:Nat)) he)
 have hLl:=eM (d:=(eZ a:Nat)) hc he
 have hLa:=j0 (c:=c) (d:=(eZ a:Nat))
 generalize bV c (eZ a)=L at *
 have hP:=rh L a (show _ ≤ _ by omega) hLs (hLa.nodup gb) (by omega) ha.2
 unfold eZ at hS
 cases hall:a.all fun s=>decide (s ∈ L)
 ·rw [if_neg (by decide)]
  rw [hall,if_neg (by decide)] at hP
  (have zz:=aI @an (aI @ag (aI @ac (aI @ao (aI @i0 (aI @z0 @z3))))); repeat' (first|refine zW ?_|refine zM ?_|apply a_n|apply a_r|refine zO ?_|refine vY ?_|refine cY ?_ (hp:=by first | exact hcc | exact hca | exact hS | exact hP) (hs:=by (first | refine ab ?_ rfl | apply ae); (repeat' (first | exact aa | apply ak | apply af | exact aV _ | exact ay _)); first | done | fail)|refine bxY ?_|refine cTY ?_|refine cFY ?_|refine ai rfl ?_|refine r2Y ?_|fail)) <;> (try clear zz)
  exact fm (.eslsl _) rfl
 ·rw [if_pos rfl]
  rw [hall,if_pos rfl] at hP
  (have zz:=aI @an (aI @ag (aI @ac (aI @ao (aI @i0 (aI @z0 @z3))))); repeat' (first|refine zW ?_|refine zM ?_|apply a_n|refine zO ?_|refine vY ?_|refine cY ?_ (hp:=by first | exact hcc | exact hca | exact hS | exact hP) (hs:=by (first | refine ab ?_ rfl | apply ae); (repeat' (first | exact aa | apply ak | apply af | exact aV _ | exact ay _)); first | done | fail)|refine bxY ?_|refine cFY ?_|refine ai rfl ?_|refine r2Y ?_|fail)) <;> (try clear zz)
  exact fm (cV _).snap rfl
end Go.Proofs.Ytfcenbapjhecfaa
namespace Go.Proofs.Ytfcenbapjhecfaa
open Go Go.Abs
attribute [local irreducible] aD am aZ aQ aH aL aB aM aR bf Go.Abs.Fn aP Go.Abs.Pure ax aF Yl
theorem uh (x y:List Int) (hx:x.length ≤ 1000000000) (hy:y.length ≤ 1000000000):Pure Try.prog 55 [bm x,bm y] (.bool (decide (x=y))):=by
 refine Pure.of_c2 follows AY (Nat.le_of_ble_eq_true rfl) ?_
 simp only [b55,cO,cG,cN,cM,cD,cF,cB,aA,aN]
 by_cases hl:x.length=y.length
 rotate_left
 ·have z:decide ((x.length:Int) ≠ y.length)=true:=decide_eq_true (by omega)
  (have zz:=@z; repeat' (first|refine zW ?_|apply a_n|apply a_r|refine zO ?_|refine vZ ?_|refine cTZ ?_|refine ai rfl ?_|refine r1Z ?_|fail)) <;> (try clear zz)
  exact bg (by symm; rw [decide_eq_false_iff_not]; rintro rfl; exact hl rfl)
 have z:decide ((x.length:Int) ≠ y.length)=false:=decide_eq_false (by omega)
 (have zz:=@z; repeat' (first|refine zW ?_|apply a_n|refine zO ?_|refine vZ ?_|refine cFZ ?_|fail)) <;> (try clear zz)
 refine gJ (X:=Nat) (fun k=>[(0,bm x),(1,bm y),(5,.int .i64 k)]) (fun k=>k ≤ x.length∧∀ i,i < k→x.getD i default=y.getD i default) (fun k=>x.length - k) 0 ⟨Nat.zero_le _,fun i h=>absurd h (by omega)⟩ ag0 ?_
 rintro k ⟨h1,h2⟩
 by_cases hk:k < x.length
 rotate_left
 ·(have zz:=and_self; repeat' (first|refine zW ?_|apply a_n|apply a_x|refine zO ?_|refine vZ ?_|(refine zGZ ?_ ?_ <;> (intro _hg; try (exfalso; omega)))|refine ai rfl ?_|refine r1Z ?_|fail)) <;> (try clear zz)
  refine bg ?_
  symm
  rw [decide_eq_true_eq]
  refine List.ext_getElem hl fun i a b=>?_
  have:=h2 i (by omega)
  simpa [List.getD,a,b] using this
 by_cases he:x.getD k default=y.getD k default
 ·have z2:decide (x.getD k default ≠ y.getD k default)=false:=decide_eq_false (fun h=>h he)
  (have zz:=@z2; repeat' (first|refine zW ?_|apply a_n|refine zO ?_|refine vZ ?_|refine cFZ ?_|(refine zGZ ?_ ?_ <;> (intro _hg; try (exfalso; omega)))|fail)) <;> (try clear zz)
  exact ⟨k + 1,⟨by omega,fun i hi=>by
   rcases Nat.lt_succ_iff_lt_or_eq.1 hi with h' | rfl
   ·exact h2 i h'
   ·exact he⟩,by omega,ag0,rfl,rfl⟩
 ·have z2:decide (x.getD k default ≠ y.getD k default)=true:=decide_eq_true he
  (have zz:=@z2; repeat' (first|refine zW ?_|apply a_n|apply a_r|refine zO ?_|refine vZ ?_|refine cTZ ?_|(refine zGZ ?_ ?_ <;> (intro _hg; try (exfalso; omega)))|refine ai rfl ?_|refine r1Z ?_|fail)) <;> (try clear zz)
  exact bg (by symm; rw [decide_eq_false_iff_not]; rintro rfl; exact he rfl)
theorem nQ (c:Int) (x:List (List Int)) (hx:x.length ≤ 1000000) (hxs:∀ r ∈ x,r.length ≤ 1000000):Pure Try.prog 24 [kp c x,kp c x] (.bool true):=by
 refine Pure.of_c2 follows BK (Nat.le_of_ble_eq_true rfl) ?_
 simp only [b24,cO,cG,cN,cM,cD,cF,cB,aA,aN]
 unfold kp
 have z1:decide (c ≠ c)=false:=by simp
 have z2:decide ((x.length:Int) ≠ x.length)=false:=by simp
 (have zz:=aI @z1 @z2; repeat' (first|refine zW ?_|apply a_n|refine zO ?_|refine vY ?_|refine bxY ?_|refine gTY ?_|refine cFY ?_|fail)) <;> (try clear zz)
 refine bb (X:=Nat) (fun k=>[(2,.ptr 0 2 0),(3,.ptr 1 2 0),(5,.int .i64 k)]) (fun k H nx=>k ≤ x.length∧H 0=some [.int .i64 c,cP x]∧H 1=some [.int .i64 c,cP x]) (fun k=>x.length - k) 0 ⟨Nat.zero_le _,by rw [ah (by omega),aj],aj⟩ (by (iterate 3 refine And.intro rfl ?_); trivial) ?_
 rintro k H nx ⟨h1,g0,g1⟩
 by_cases hk:k < x.length
 rotate_left
 ·(have zz:=aI @g0 @g1; repeat' (first|refine zW ?_|apply a_n|apply a_x|refine zO ?_|refine vY ?_|(refine zGY ?_ ?_ <;> (intro _hg; try (exfalso; omega)))|refine ai rfl ?_|refine r1Y ?_|fail)) <;> (try clear zz)
  exact .bool _
 have hs:=uh (x.getD k default) (x.getD k default) (by have:=hxs _ (aG hk); omega) (by have:=hxs _ (aG hk); omega)
 rw [decide_eq_true rfl] at hs
 (have zz:=aI @g0 @g1; repeat' (first|refine zW ?_|refine zM ?_|apply a_n|refine zO ?_|refine vY ?_|refine cY ?_ (hp:=hs) (hs:=by (first | refine ab ?_ rfl | apply ae); (repeat' (first | exact aa | apply ak | apply af | exact cV _)); first | done | fail)|refine cFY ?_|(refine zGY ?_ ?_ <;> (intro _hg; try (exfalso; omega)))|fail)) <;> (try clear zz)
 exact ⟨k + 1,by omega,⟨by omega,g0,g1⟩,ag0⟩
end Go.Proofs.Ytfcenbapjhecfaa
namespace Go.Proofs.Ytfcenbapjhecfaa
open Go Go.Abs
attribute [local irreducible] aD am aZ aQ aH aL aB aM aR bf Go.Abs.Fn aP Go.Abs.Pure ax aF Yl
end Go.Proofs.Ytfcenbapjhecfaa
namespace Go.Proofs.Ytfcenbapjhecfaa
open Go Go.Abs
theorem ixV {l:List Int} {k:Nat} (h:k < l.length):cS 1 (bm l) (.int .i64 (k:Int))=some (.iptr [.int .i64 (l.getD k default)] 0):=by
 rw [nN,if_pos ⟨by omega,by omega⟩,Int.toNat_natCast]
attribute [local irreducible] aD am aZ aQ aH aL aB aM aR bf Go.Abs.Fn aP Go.Abs.Pure ax aF Yl
theorem tI (n:Nat) (v:List Int) (hv:Shn v):Pure Try.prog 59 [.int .i64 n,bm v] (.int .i64 (mB n v)):=by
 refine Pure.of_c2 follows BH (Nat.le_of_ble_eq_true rfl) ?_
 simp only [b59,cO,cG,cN,cM,cD,cF,cB,aA,aN]
 have hv':v.length ≤ 17592186044416:=hv
 unfold mB
 (have zz:=and_self; repeat' (first|refine zW ?_|apply a_n|refine zO ?_|refine vY ?_|fail)) <;> (try clear zz)
 refine gJ (X:=Nat) (fun k=>[(0,.int .i64 n),(1,bm v),(5,.int .i64 k)]) (fun k=>k ≤ v.length∧∀ i,i < k→lC n v i=0) (fun k=>v.length - k) 0 ⟨Nat.zero_le _,fun i h=>absurd h (by omega)⟩ ag0 ?_
 rintro k ⟨h1,h2⟩
 by_cases hk:k < v.length
 rotate_left
 ·rw [bH fun i hi=>h2 i (by omega)]
  (have zz:=and_self; repeat' (first|refine zW ?_|apply a_n|apply a_x|refine zO ?_|refine vY ?_|(refine zGY ?_ ?_ <;> (intro _hg; try (exfalso; omega)))|refine ai rfl ?_|refine r1Y ?_|fail)) <;> (try clear zz)
  exact .int _ _
 have ix:=ixV hk
 have hsp:=ml (n:=n) (v:=v) (k:=k)
 have hnext:lC n v k=0→∀ i,i < k + 1→lC n v i=0:=fun h i hi=>by
  rcases Nat.lt_succ_iff_lt_or_eq.1 hi with h' | rfl
  ·exact h2 i h'
  ·exact h
 by_cases g1:v.getD k default < 0
 ·rw [if_pos (.inl g1)] at hsp
  rw [bi hk h2 (by rw [hsp]; decide),hsp]
  have z1:decide (v.getD k default < 0)=true:=decide_eq_true g1
  (have zz:=aI @ix @z1; repeat' (first|refine zW ?_|apply a_n|apply a_r|refine zO ?_|refine vY ?_|refine gFY ?_|refine cTY ?_|(refine zGY ?_ ?_ <;> (intro _hg; try (exfalso; omega)))|refine ai rfl ?_|refine r1Y ?_|fail)) <;> (try clear zz)
  exact .int _ _
 have z1:decide (v.getD k default < 0)=false:=decide_eq_false g1
 by_cases g2:(n:Int) ≤ v.getD k default
 ·rw [if_pos (.inr g2)] at hsp
  rw [bi hk h2 (by rw [hsp]; decide),hsp]
  have z2:decide ((n:Int) ≤ v.getD k default)=true:=decide_eq_true g2
  (have zz:=aI @ix (aI @z1 @z2); repeat' (first|refine zW ?_|apply a_n|apply a_r|refine zO ?_|refine vY ?_|refine gTY ?_|refine cTY ?_|(refine zGY ?_ ?_ <;> (intro _hg; try (exfalso; omega)))|refine ai rfl ?_|refine r1Y ?_|fail)) <;> (try clear zz)
  exact .int _ _
 have z2:decide ((n:Int) ≤ v.getD k default)=false:=decide_eq_false g2
 rw [if_neg (by omega)] at hsp
 by_cases hk0:0 < k
 rotate_left
 ·rw [if_neg (fun h=>hk0 h.1)] at hsp
  have zk:decide (0 < (k:Int))=false:=decide_eq_false (by omega)
  (have zz:=aI @ix (aI @z1 (aI @z2 @zk)); repeat' (first|refine zW ?_|apply a_n|refine zO ?_|refine vY ?_|refine gTY ?_|refine gFY ?_|refine cFY ?_|(refine zGY ?_ ?_ <;> (intro _hg; try (exfalso; omega)))|fail)) <;> (try clear zz)
  exact ⟨k + 1,⟨by omega,hnext hsp⟩,by omega,ag0,rfl,rfl⟩
 have zk:decide (0 < (k:Int))=true:=decide_eq_true (by omega)
 have iy:cS 1 (bm v) (.int .i64 ((k:Int) - 1))=some (.iptr [.int .i64 (v.getD (k - 1) default)] 0):=by
  have:=ixV (l:=v) (k:=k - 1) (by omega)
  rwa [show ((k - 1:Nat):Int)=(k:Int) - 1 by omega] at this
 by_cases g3:v.getD k default ≤ v.getD (k - 1) default
 ·rw [if_pos ⟨hk0,g3⟩] at hsp
  rw [bi hk h2 (by rw [hsp]; decide),hsp]
  have z3:decide (v.getD k default ≤ v.getD (k - 1) default)=true:=decide_eq_true g3
  (have zz:=aI @ix (aI @iy (aI @z1 (aI @z2 (aI @zk @z3)))); repeat' (first|refine zW ?_|apply a_n|apply a_r|refine zO ?_|refine vY ?_|refine gTY ?_|refine cTY ?_|refine cFY ?_|(refine zGY ?_ ?_ <;> (intro _hg; try (exfalso; omega)))|refine ai rfl ?_|refine r1Y ?_|fail)) <;> (try clear zz)
  exact .int _ _
 ·rw [if_neg (fun h=>g3 h.2)] at hsp
  have z3:decide (v.getD k default ≤ v.getD (k - 1) default)=false:=decide_eq_false g3
  (have zz:=aI @ix (aI @iy (aI @z1 (aI @z2 (aI @zk @z3)))); repeat' (first|refine zW ?_|apply a_n|refine zO ?_|refine vY ?_|refine gTY ?_|refine cFY ?_|(refine zGY ?_ ?_ <;> (intro _hg; try (exfalso; omega)))|fail)) <;> (try clear zz)
  exact ⟨k + 1,⟨by omega,hnext hsp⟩,by omega,ag0,rfl,rfl⟩
theorem yd {n:Nat} {v:List Int} {k:Nat} (h:lC n v k=0):0 ≤ v.getD k default∧v.getD k default < n∧(0 < k→v.getD (k - 1) default < v.getD k default):=by
 unfold lC at h
 split at h
 ·exact absurd h (by decide)
 split at h
 ·exact absurd h (by decide)
 ·rename_i h1 h2
  exact ⟨by omega,by omega,fun h0=>by omega⟩
set_option maxHeartbeats 1000000 in
theorem xb (c:List Spx) (d:Int) (v:List Int) (hc:c.length ≤ 50) (hs:∀ s ∈ c,Shn s) (hv:v.length ≤ 100000):Pure Try.prog 27 [dM c,.int .i64 d,bm v] (.tup [aq (oS c d v).1,.int .i64 (oS c d v).2]):=by
 refine Pure.of_c2 follows AG (Nat.le_of_ble_eq_true rfl) ?_
 simp only [b27,cO,cG,cN,cM,cD,cF,cB,aA,aN]
 have hcc:=jq c (show _ ≤ _ by omega) hs
 have z0:decide ((0:Int) ≠ 0)=false:=rfl
 unfold oS
 by_cases he:aW c=0
 rotate_left
 ·rw [if_pos he]
  have z:decide (aW c ≠ 0)=true:=decide_eq_true he
  (have zz:=aI @an (aI @ag @z); repeat' (first|refine zW ?_|apply a_n|apply a_r|refine zO ?_|refine vY ?_|refine cY ?_ (hp:=hcc) (hs:=by (first | refine ab ?_ rfl | apply ae); (repeat' (first | exact aa | apply ak | apply af | exact aV _)); first | done | fail)|refine bxY ?_|refine cTY ?_|refine ai rfl ?_|refine r2Y ?_|fail)) <;> (try clear zz)
  exact bt (.eslsl _) rfl
 rw [if_neg (fun h=>h he)]
 rw [he] at hcc
 by_cases hd:d < 0 ∨ 8 ≤ d
 ·rw [if_pos hd]
  (have zz:=aI @an (aI @ag @z0); repeat' (first|refine zW ?_|apply a_n|apply a_r|refine zO ?_|refine vY ?_|refine cY ?_ (hp:=hcc) (hs:=by (first | refine ab ?_ rfl | apply ae); (repeat' (first | exact aa | apply ak | apply af | exact aV _)); first | done | fail)|refine bxY ?_|refine gTY ?_|refine gFY ?_|refine cTY ?_|refine cFY ?_|(refine zGY ?_ ?_ <;> (intro _hg; try (exfalso; omega)))|refine ai rfl ?_|refine r2Y ?_|fail)) <;> (try clear zz)
  all_goals first | exact bt (.eslsl _) rfl | (exfalso; omega)
 rw [if_neg hd]
 have hX:=uS c d (by omega) hc hs
 rw [tg he (by omega) (by omega)] at hX
 have hXl:=eM (d:=d + 1) hc he
 have hXm:=d5 (d:=d + 1) he
 generalize bV c (d + 1)=X at *
 have z1:decide (d < 0)=false:=decide_eq_false (by omega)
 have z2:decide (8 ≤ d)=false:=decide_eq_false (by omega)
 (have zz:=aI @an (aI @ag (aI @z0 (aI @z1 @z2))); repeat' (first|refine zW ?_|apply a_n|refine zO ?_|refine vY ?_|refine cY ?_ (hp:=by first | exact hcc | exact hX) (hs:=by (first | refine ab ?_ rfl | apply ae); (repeat' (first | exact aa | apply ak | apply af | exact aV _)); first | done | fail)|refine bxY ?_|refine gTY ?_|refine cFY ?_|fail)) <;> (try clear zz)
 refine bb (X:=AV × Nat) (fun x=>[(2,bm v),(9,aq X),(11,x.1),(34,bm v),(35,.int .i64 v.length),(36,.int .i64 x.2)]) (fun x H nx=>x.2 ≤ v.length∧(∀ i,i < x.2→lC X.length v i=0)∧Row H 1 x.1 ((dh X (v.take x.2)).map ar)∧∀ b,b4 x.1=some b→b < nx) (fun x=>v.length - x.2) (.esl,0) ⟨Nat.zero_le _,fun i h=>absurd h (by omega),Row.nil,fun b hb=>(by cases hb)⟩ ag0 ?_
 rintro ⟨sv,k⟩ H nx ⟨k1,k2,k3,k4⟩
 dsimp only at k1 k2 k3 k4 ⊢
 by_cases hk:k < v.length
 rotate_left
 ·have hz:mB X.length v=0:=bH fun i hi=>k2 i (by omega)
  rw [if_neg (fun h=>h hz)]
  rw [List.take_of_length_le (by omega)] at k3
  have hpl:(dh X v).length=v.length:=by unfold dh; rw [List.length_map]
  have hcp:=oo (dh X v) (by omega) fun s hs=>by
   unfold dh at hs
   obtain ⟨i,hi,rfl⟩:=List.mem_map.1 hs
   by_cases hl:i.toNat < X.length
   ·exact mV hXm _ (aG hl)
   ·rw [show X.getD i.toNat default=[] by unfold List.getD; rw [List.getElem?_eq_none (by omega)]; rfl]; exact Nat.zero_le _
  obtain ⟨Hf,H4,hfz,hsn,hoth⟩:=yL k3
  have z6:decide ((k:Int) < v.length)=false:=decide_eq_false (by omega)
  refine dH ?_
  (have zz:=@z6; repeat' (first|apply a_n|refine zO ?_|refine vY ?_|fail)) <;> (try clear zz)
  refine dH ?_
  (have zz:=@z6; repeat' (first|apply a_n|apply a_x|refine zO ?_|refine cFY ?_|fail)) <;> (try clear zz)
  refine dH ?_
  refine pF Hf H4 [(11,aq (dh X v))] hfz ⟨.inr hsn,trivial⟩ ?_
  (have zz:=and_self; repeat' (first|apply a_n|refine zO ?_|refine vY ?_|refine cY ?_ (hp:=hcp) (hs:=by (first | refine ab ?_ rfl | apply ae); (repeat' (first | exact aa | apply ak | apply af | exact ay _)); first | done | fail)|refine ai rfl ?_|refine r2Y ?_|fail)) <;> (try clear zz)
  exact bt (ay _).snap rfl
 have ix:=ixV hk
 have hsp:=ml (n:=X.length) (v:=v) (k:=k)
 have hfin:∀ e:Int,e ≠ 0→lC X.length v k=e→(if mB X.length v ≠ 0 then (([]:List Spx),mB X.length v) else (dh X v,0))=([],e):=fun e h0 he=>by
  have h5:mB X.length v=e:=by
   unfold mB
   rw [bi hk k2 (by rw [he]; exact h0),he]
  rw [if_pos (by rw [h5]; exact h0),h5]
 by_cases g1:v.getD k default < 0
 ·rw [if_pos (.inl g1)] at hsp
  rw [hfin 2 (by decide) hsp]
  have z1:decide (v.getD k default < 0)=true:=decide_eq_true g1
  (have zz:=aI @ix @z1; repeat' (first|refine zW ?_|apply a_n|apply a_r|refine zO ?_|refine vY ?_|refine gFY ?_|refine cTY ?_|(refine zGY ?_ ?_ <;> (intro _hg; try (exfalso; omega)))|refine ai rfl ?_|refine r2Y ?_|fail)) <;> (try clear zz)
  exact bt (.eslsl _) rfl
 have z3:decide (v.getD k default < 0)=false:=decide_eq_false g1
 by_cases g2:(X.length:Int) ≤ v.getD k default
 ·rw [if_pos (.inr g2)] at hsp
  rw [hfin 2 (by decide) hsp]
  have z4:decide ((X.length:Int) ≤ v.getD k default)=true:=decide_eq_true g2
  (have zz:=aI @ix (aI @z3 (aI @z4 @ac)); repeat' (first|refine zW ?_|apply a_n|apply a_r|refine zO ?_|refine vY ?_|refine gTY ?_|refine cTY ?_|(refine zGY ?_ ?_ <;> (intro _hg; try (exfalso; omega)))|refine ai rfl ?_|refine r2Y ?_|fail)) <;> (try clear zz)
  exact bt (.eslsl _) rfl
 have z4:decide ((X.length:Int) ≤ v.getD k default)=false:=decide_eq_false g2
 rw [if_neg (by omega)] at hsp
 have iw:cS 1 (aq X) (.int .i64 (v.getD k default))=some (.iptr [ar (X.getD (v.getD k default).toNat default)] 0):=by
  rw [gP,if_pos ⟨by omega,by omega⟩]
 have hpt:=lA (X:=X) hk
 have hnl:(dh X (v.take k)).length=k:=by unfold dh; rw [List.length_map,List.length_take]; omega
 have hstep:∀ (s2:AV) (E:Hp) (e:Nat),lC X.length v k=0→Row E 1 s2 ((dh X (v.take k)).map ar ++ [ar (X.getD (v.getD k default).toNat default)])→(∀ i,i < k + 1→lC X.length v i=0)∧Row E 1 s2 ((dh X (v.take (k + 1))).map ar):=fun s2 E e hz hr=>⟨fun i hi=>by
  rcases Nat.lt_succ_iff_lt_or_eq.1 hi with h' | rfl
  ·exact k2 i h'
  ·exact hz,by rw [hpt,List.map_append]; exact hr⟩
 generalize X.getD (v.getD k default).toNat default=x at *
 by_cases hk0:0 < k
 rotate_left
 ·rw [if_neg (fun h=>hk0 h.1)] at hsp
  have zk:decide (0 < (k:Int))=false:=decide_eq_false (by omega)
  (have zz:=aI @ix (aI @iw (aI @z3 (aI @z4 (aI @zk (aI @ac (aI @az @av)))))); repeat' (first|refine zW ?_|apply a_n|refine zO ?_|refine vY ?_|refine blY ?_|refine gTY ?_|refine gFY ?_|refine cFY ?_|(refine zGY ?_ ?_ <;> (intro _hg; try (exfalso; omega)))|fail)) <;> (try clear zz)
  refine dg rfl ev0 (k3.same fun b hb=>?_) ev0 bz rfl rfl Nat.one_pos (by rw [List.length_map]; omega) (by rw [List.length_map]; omega) ?_
  ·have:=k4 b hb; rw [ah (by omega)]
  rintro s2 E e hrow hle1 hle2 hsame hb2
  (have zz:=and_self; repeat' (first|apply a_n|refine zO ?_|refine vY ?_|fail)) <;> (try clear zz)
  exact ⟨(s2,k + 1),by dsimp only; omega,⟨by dsimp only; omega,(hstep s2 E e hsp hrow).1,(hstep s2 E e hsp hrow).2,fun b hb=>by
   rcases hb2 b hb with h | h
   ·have:=k4 b h; omega
   ·omega⟩,ag0⟩
 have zk:decide (0 < (k:Int))=true:=decide_eq_true (by omega)
 have iy:cS 1 (bm v) (.int .i64 ((k:Int) - 1))=some (.iptr [.int .i64 (v.getD (k - 1) default)] 0):=by
  have:=ixV (l:=v) (k:=k - 1) (by omega)
  rwa [show ((k - 1:Nat):Int)=(k:Int) - 1 by omega] at this
 by_cases g3:v.getD k default ≤ v.getD (k - 1) default
 ·rw [if_pos ⟨hk0,g3⟩] at hsp
  rw [hfin 14 (by decide) hsp]
  have z5:decide (v.getD k default ≤ v.getD (k - 1) default)=true:=decide_eq_true g3
  (have zz:=aI @ix (aI @iy (aI @z3 (aI @z4 (aI @zk (aI @z5 @ac))))); repeat' (first|refine zW ?_|apply a_n|apply a_r|refine zO ?_|refine vY ?_|refine gTY ?_|refine cTY ?_|refine cFY ?_|(refine zGY ?_ ?_ <;> (intro _hg; try (exfalso; omega)))|refine ai rfl ?_|refine r2Y ?_|fail)) <;> (try clear zz)
  exact bt (.eslsl _) rfl
 ·rw [if_neg (fun h=>g3 h.2)] at hsp
  have z5:decide (v.getD k default ≤ v.getD (k - 1) default)=false:=decide_eq_false g3
  (have zz:=aI @ix (aI @iy (aI @iw (aI @z3 (aI @z4 (aI @zk (aI @z5 (aI @ac (aI @az @av)))))))); repeat' (first|refine zW ?_|apply a_n|refine zO ?_|refine vY ?_|refine blY ?_|refine gTY ?_|refine cFY ?_|(refine zGY ?_ ?_ <;> (intro _hg; try (exfalso; omega)))|fail)) <;> (try clear zz)
  refine dg rfl ev0 (k3.same fun b hb=>?_) ev0 bz rfl rfl Nat.one_pos (by rw [List.length_map]; omega) (by rw [List.length_map]; omega) ?_
  ·have:=k4 b hb; rw [ah (by omega)]
  rintro s2 E e hrow hle1 hle2 hsame hb2
  (have zz:=and_self; repeat' (first|apply a_n|refine zO ?_|refine vY ?_|fail)) <;> (try clear zz)
  exact ⟨(s2,k + 1),by dsimp only; omega,⟨by dsimp only; omega,(hstep s2 E e hsp hrow).1,(hstep s2 E e hsp hrow).2,fun b hb=>by
   rcases hb2 b hb with h | h
   ·have:=k4 b h; omega
   ·omega⟩,ag0⟩
theorem vu (c:List Spx) (d:Int) (v:List Int) (hc:c.length ≤ 50) (hs:∀ s ∈ c,Shn s) (hv:v.length ≤ 100000):Pure Try.prog 28 [dM c,.int .i64 d,bm v] (.tup [aq (oS c d v).1,.int .i64 (oS c d v).2]):=by
 refine Pure.of_c2 follows AA (Nat.le_of_ble_eq_true rfl) ?_
 simp only [b28,cO,cG,cN,cM,cD,cF,cB,aA,aN]
 have hcc:=pb c (show _ ≤ _ by omega) hs
 have z0:decide ((0:Int) ≠ 0)=false:=rfl
 unfold oS
 by_cases he:aW c=0
 rotate_left
 ·rw [if_pos he]
  have z:decide (aW c ≠ 0)=true:=decide_eq_true he
  (have zz:=aI @an (aI @ag @z); repeat' (first|refine zW ?_|apply a_n|apply a_r|refine zO ?_|refine vY ?_|refine cY ?_ (hp:=hcc) (hs:=by (first | refine ab ?_ rfl | apply ae); (repeat' (first | exact aa | apply ak | apply af | exact aV _)); first | done | fail)|refine bxY ?_|refine cTY ?_|refine ai rfl ?_|refine r2Y ?_|fail)) <;> (try clear zz)
  exact bt (.eslsl _) rfl
 rw [if_neg (fun h=>h he)]
 rw [he] at hcc
 by_cases hd:d < 0 ∨ 8 ≤ d
 ·rw [if_pos hd]
  (have zz:=aI @an (aI @ag @z0); repeat' (first|refine zW ?_|apply a_n|apply a_r|refine zO ?_|refine vY ?_|refine cY ?_ (hp:=hcc) (hs:=by (first | refine ab ?_ rfl | apply ae); (repeat' (first | exact aa | apply ak | apply af | exact aV _)); first | done | fail)|refine bxY ?_|refine gTY ?_|refine gFY ?_|refine cTY ?_|refine cFY ?_|(refine zGY ?_ ?_ <;> (intro _hg; try (exfalso; omega)))|refine ai rfl ?_|refine r2Y ?_|fail)) <;> (try clear zz)
  all_goals first | exact bt (.eslsl _) rfl | (exfalso; omega)
 rw [if_neg hd]
 have hX:=jr c (d + 1) (by omega) hs
 unfold bU at hX
 rw [if_neg (fun h=>h he),if_neg (by omega)] at hX
 have eX:fM c (d + 1).toNat=bV c (d + 1):=by unfold bV; rw [if_neg (by omega)]
 rw [eX] at hX
 have hXl:=eM (d:=d + 1) hc he
 generalize bV c (d + 1)=X at *
 have hV:=tI X.length v (show _ ≤ _ by omega)
 have z1:decide (d < 0)=false:=decide_eq_false (by omega)
 have z2:decide (8 ≤ d)=false:=decide_eq_false (by omega)
 by_cases hz:mB X.length v=0
 rotate_left
 ·have z:decide (mB X.length v ≠ 0)=true:=decide_eq_true hz
  rw [if_pos hz]
  (have zz:=aI @an (aI @ag (aI @ac (aI @z0 (aI @z1 (aI @z2 @z))))); repeat' (first|refine zW ?_|apply a_n|apply a_r|refine zO ?_|refine vY ?_|refine cY ?_ (hp:=by first | exact hcc | exact hX | exact hV) (hs:=by (first | refine ab ?_ rfl | apply ae); (repeat' (first | exact aa | apply ak | apply af | exact aV _ | exact cV _)); first | done | fail)|refine bxY ?_|refine gTY ?_|refine cTY ?_|refine cFY ?_|refine ai rfl ?_|refine r2Y ?_|fail)) <;> (try clear zz)
  exact bt (.eslsl _) rfl
 rw [if_neg (fun h=>h hz)]
 rw [hz] at hV
 have hall:=dP hz
 (have zz:=aI @an (aI @ag (aI @ac (aI @z0 (aI @z1 @z2)))); repeat' (first|refine zW ?_|apply a_n|refine zO ?_|refine vY ?_|refine cY ?_ (hp:=by first | exact hcc | exact hX | exact hV) (hs:=by (first | refine ab ?_ rfl | apply ae); (repeat' (first | exact aa | apply ak | apply af | exact aV _ | exact cV _)); first | done | fail)|refine bxY ?_|refine gTY ?_|refine cFY ?_|fail)) <;> (try clear zz)
 refine bb (X:=AV × Nat) (fun x=>[(2,bm v),(9,aq X),(12,x.1),(13,.int .i64 x.2)]) (fun x H nx=>x.2 ≤ v.length∧Row H 1 x.1 ((dh X (v.take x.2)).map ar)∧∀ b,b4 x.1=some b→b < nx) (fun x=>v.length - x.2) (.esl,0) ⟨Nat.zero_le _,Row.nil,fun b hb=>(by cases hb)⟩ ag0 ?_
 rintro ⟨sv,k⟩ H nx ⟨k1,k3,k4⟩
 dsimp only at k1 k3 k4 ⊢
 by_cases hk:k < v.length
 rotate_left
 ·rw [List.take_of_length_le (by omega)] at k3
  (have zz:=and_self; repeat' (first|refine zW ?_|apply a_n|apply a_x|refine zO ?_|refine vY ?_|(refine zGY ?_ ?_ <;> (intro _hg; try (exfalso; omega)))|refine ai rfl ?_|refine r2Y ?_|fail)) <;> (try clear zz)
  exact bt (dq k3) rfl
 have ix:=ixV hk
 obtain ⟨y1,y2,_⟩:=yd (hall k hk)
 have iw:cS 1 (aq X) (.int .i64 (v.getD k default))=some (.iptr [ar (X.getD (v.getD k default).toNat default)] 0):=by
  rw [gP,if_pos ⟨by omega,by omega⟩]
 have hpt:=lA (X:=X) hk
 have hnl:(dh X (v.take k)).length=k:=by unfold dh; rw [List.length_map,List.length_take]; omega
 (have zz:=aI @ix (aI @iw (aI @az @av)); repeat' (first|refine zW ?_|apply a_n|refine zO ?_|refine vY ?_|refine blY ?_|(refine zGY ?_ ?_ <;> (intro _hg; try (exfalso; omega)))|fail)) <;> (try clear zz)
 refine dg rfl ev0 (k3.same fun b hb=>?_) ev0 bz rfl rfl Nat.one_pos (by rw [List.length_map]; omega) (by rw [List.length_map]; omega) ?_
 ·have:=k4 b hb; rw [ah (by omega)]
 rintro s2 E e hrow hle1 hle2 hsame hb2
 (have zz:=and_self; repeat' (first|apply a_n|refine zO ?_|refine vY ?_|fail)) <;> (try clear zz)
 refine ⟨(s2,k + 1),by dsimp only; omega,⟨by dsimp only; omega,?_,fun b hb=>?_⟩,ag0⟩
 ·dsimp only
  rw [hpt,List.map_append]; exact hrow
 ·rcases hb2 b hb with h | h
  ·have:=k4 b h; omega
  ·omega
end Go.Proofs.Ytfcenbapjhecfaa
namespace Go.Proofs.Ytfcenbapjhecfaa
open Go Go.Abs
def b0 (l:List Int):Spx:=l.map fun c=>⟨c,0⟩
theorem uu {l:List Int} {k:Nat} (h:k < l.length):b0 (l.take (k + 1))=b0 (l.take k) ++ [⟨l.getD k default,0⟩]:=by
 unfold b0; rw [bQ h,List.map_append]; rfl
attribute [local irreducible] aD am aZ aQ aH aL aB aM aR bf Go.Abs.Fn aP Go.Abs.Pure ax aF Yl
theorem r7 (l:List Int) (hl:l.length ≤ 1000):dj Try.prog 36 [bm l] (ar (b0 l)):=by
 refine dj.of_c2 follows AE (Nat.le_of_ble_eq_true rfl) ?_
 simp only [b36,cO,cG,cN,cM,cD,cF,cB,aA,aN]
 (have zz:=and_self; repeat' (first|refine zW ?_|apply a_n|refine zO ?_|refine vY ?_|fail)) <;> (try clear zz)
 refine bb (X:=AV × Nat) (fun x=>[(3,x.1),(6,bm l),(7,.int .i64 l.length),(8,.int .i64 x.2)]) (fun x H nx=>x.2 ≤ l.length∧Row H 2 x.1 (cX (b0 (l.take x.2)))∧∀ b,b4 x.1=some b→b < nx) (fun x=>l.length - x.2) (.esl,0) ⟨Nat.zero_le _,Row.nil,fun b hb=>(by cases hb)⟩ ag0 ?_
 rintro ⟨sv,k⟩ H nx ⟨k1,k3,k4⟩
 dsimp only at k1 k3 k4 ⊢
 by_cases hk:k < l.length
 rotate_left
 ·rw [List.take_of_length_le (by omega)] at k3
  (have zz:=and_self; repeat' (first|refine zW ?_|apply a_n|apply a_x|refine zO ?_|refine vY ?_|(refine zGY ?_ ?_ <;> (intro _hg; try (exfalso; omega)))|refine ai rfl ?_|refine r1Y ?_|fail)) <;> (try clear zz)
  exact li k3
 have ix:=ixV hk
 have hpt:=uu hk
 have hcl:(cX (b0 (l.take k))).length=k * 2:=by rw [dU]; unfold b0; rw [List.length_map,List.length_take]; omega
 (have zz:=@ix; repeat' (first|refine zW ?_|apply a_n|refine zO ?_|refine vY ?_|refine blY ?_|(refine zGY ?_ ?_ <;> (intro _hg; try (exfalso; omega)))|fail)) <;> (try clear zz)
 refine dg rfl ev0 (k3.same fun b hb=>?_) ev0 oh rfl rfl (by omega) (by omega) (by omega) ?_
 ·have:=k4 b hb; rw [ah (by omega)]
 rintro s2 E e hrow hle1 hle2 hsame hb2
 (have zz:=and_self; repeat' (first|apply a_n|refine zO ?_|refine vY ?_|fail)) <;> (try clear zz)
 refine ⟨(s2,k + 1),by dsimp only; omega,⟨by dsimp only; omega,?_,fun b hb=>?_⟩,ag0⟩
 ·dsimp only
  rw [hpt,gR]; exact hrow
 ·rcases hb2 b hb with h | h
  ·have:=k4 b h; omega
  ·omega
end Go.Proofs.Ytfcenbapjhecfaa
namespace Go.Proofs.Ytfcenbapjhecfaa
open Go Go.Abs
end Go.Proofs.Ytfcenbapjhecfaa
namespace Go.Proofs.Ytfcenbapjhecfaa
open Go Go.Abs
attribute [local irreducible] aD am aZ aQ aH aL aB aM aR bf Go.Abs.Fn aP Go.Abs.Pure ax aF Yl
end Go.Proofs.Ytfcenbapjhecfaa
namespace Go.Proofs.Ytfcenbapjhecfaa
open Go Go.Abs
attribute [local irreducible] aD am aZ aQ aH aL aB aM aR bf Go.Abs.Fn aP Go.Abs.Pure ax aF Yl
end Go.Proofs.Ytfcenbapjhecfaa
namespace Go.Proofs.Ytfcenbapjhecfaa
open Go Go.Abs
structure PairV where
 a:List Spx
 b:List Spx
 d:Int
attribute [local irreducible] aD am aZ aQ aH aL aB aM aR bf Go.Abs.Fn aP Go.Abs.Pure ax aF Yl
end Go.Proofs.Ytfcenbapjhecfaa
namespace Go.Proofs.Ytfcenbapjhecfaa
open Go Go.Abs
end Go.Proofs.Ytfcenbapjhecfaa
namespace Go.Proofs.Ytfcenbapjhecfaa
open Go Go.Abs
attribute [local irreducible] aD am aZ aQ aH aL aB aM aR bf Go.Abs.Fn aP Go.Abs.Pure ax aF Yl
theorem ra (l m:List Int) (hl:l.length ≤ 1000000) (hm:m.length ≤ 1000000):Pure Try.prog 29 [bm l,bm m] (.bool (decide (l=m))):=by
 refine Pure.of_c2 follows AP (Nat.le_of_ble_eq_true rfl) ?_
 simp only [b29,cO,cG,cN,cM,cD,cF,cB,aA,aN]
 (have zz:=and_self; repeat' (first|refine zW ?_|apply a_n|apply a_r|refine zO ?_|refine vZ ?_|(refine zGZ ?_ ?_ <;> (intro _hg; try (exfalso; omega)))|refine ai rfl ?_|refine r1Z ?_|fail)) <;> (try clear zz)
 ·refine bg ?_
  symm; rw [decide_eq_false_iff_not]; rintro rfl; omega
 refine gJ (X:=Nat) (fun k=>[(0,bm l),(1,bm m),(12,.int .i64 l.length),(13,.int .i64 k)]) (fun k=>k ≤ l.length∧∀ i,i < k→l.getD i default=m.getD i default) (fun k=>l.length - k) 0 ⟨Nat.zero_le _,by simp⟩ ag0 ?_
 rintro k ⟨h1,h2⟩
 (have zz:=and_self; repeat' (first|refine zW ?_|apply a_n|apply a_x|apply a_r|refine zO ?_|refine vZ ?_|(refine zGZ ?_ ?_ <;> (intro _hg; try (exfalso; omega)))|refine ai rfl ?_|refine r1Z ?_|fail)) <;> (try clear zz)
 ·refine bg ?_
  symm; rw [decide_eq_false_iff_not]; rintro rfl; exact absurd rfl ‹_›
 ·refine ⟨k + 1,⟨by omega,fun i hi=>?_⟩,by omega,ag0,rfl,rfl⟩
  rcases Nat.lt_succ_iff_lt_or_eq.1 hi with h | rfl
  ·exact h2 i h
  ·omega
 ·refine bg ?_
  symm; rw [decide_eq_true_iff]
  refine List.ext_getElem (by omega) (fun i h3 h4=>?_)
  have:=h2 i (by omega)
  simpa [List.getD,h3,h4] using this
end Go.Proofs.Ytfcenbapjhecfaa
namespace Go.Proofs.Ytfcenbapjhecfaa
open Go Go.Abs
def exC:List Spx:=[b0 [0,1,2],b0 [2,3]]
def exA:List Spx:=[b0 [0,1],b0 [0,2],b0 [1,2]]
def exB:List Spx:=[b0 [0],b0 [2]]
def exS:List Spx:=[b0 [0,1],b0 [2,3]]
theorem v4:dj Try.prog 36 [bm [0,1,2]] (ar (b0 [0,1,2])):=r7 _ (by decide)
theorem lj:dj Try.prog 36 [bm [0,1]] (ar (b0 [0,1])):=r7 _ (by decide)
theorem w6:dj Try.prog 36 [bm [0,2]] (ar (b0 [0,2])):=r7 _ (by decide)
theorem lv:dj Try.prog 36 [bm [1,2]] (ar (b0 [1,2])):=r7 _ (by decide)
theorem px:dj Try.prog 36 [bm [2,3]] (ar (b0 [2,3])):=r7 _ (by decide)
theorem yV:dj Try.prog 36 [bm [0]] (ar (b0 [0])):=r7 _ (by decide)
theorem yM:dj Try.prog 36 [bm [2]] (ar (b0 [2])):=r7 _ (by decide)
theorem zo:Pure Try.prog 17 [aq [b0 [0,1,2]]] (.tup [aq exA,.int .i64 0]):=by
 have h:=sO [b0 [0,1,2]] ⟨by decide,by decide⟩
 rwa [show nj [b0 [0,1,2]]=(exA,0) by decide +kernel] at h
theorem zZ:Pure Try.prog 17 [aq [b0 [0,1],b0 [1,2]]] (.tup [aq exB,.int .i64 0]):=by
 have h:=sO [b0 [0,1],b0 [1,2]] ⟨by decide,by decide⟩
 rwa [show nj [b0 [0,1],b0 [1,2]]=(exB,0) by decide +kernel] at h
theorem Ag:Pure Try.prog 19 [aq exA] (.tup [.bool true,.int .i64 0]):=by
 have h:=zd exA ⟨by decide,by decide⟩
 rwa [show xw exA=(true,0) by decide +kernel] at h
theorem BI:Pure Try.prog 12 [aq [b0 [0,1],b0 [1,2]],aq [b0 [1,2],b0 [2,3]]] (.tup [aq exS,.int .i64 0]):=by
 have h:=xx [b0 [0,1],b0 [1,2]] [b0 [1,2],b0 [2,3]] ⟨by decide,by decide⟩ ⟨by decide,by decide⟩
 rwa [show wJ [b0 [0,1],b0 [1,2]] [b0 [1,2],b0 [2,3]]=(exS,0) by decide +kernel] at h
theorem xJ:Pure Try.prog 22 [dM exC,.int .i64 1] (.tup [(.agg [.int .i64 4,cP [[0,1],[0,2],[1,2,3],[3]]]),.int .i64 0]):=by
 have h:=wB exC 1 (by decide) (by decide)
 rwa [show nU exC 1=((4,[[0,1],[0,2],[1,2,3],[3]]),0) by decide +kernel] at h
theorem xK:Pure Try.prog 22 [dM exC,.int .i64 2] (.tup [(.agg [.int .i64 1,cP [[0],[0],[0],[]]]),.int .i64 0]):=by
 have h:=wB exC 2 (by decide) (by decide)
 rwa [show nU exC 2=((1,[[0],[0],[0],[]]),0) by decide +kernel] at h
theorem za:Pure Try.prog 25 [dM exC,aq exS] (.tup [bm [0,3],.int .i64 0]):=by
 have h:=vq exC exS (by decide) (by decide) ⟨by decide,by decide⟩
 rwa [show lh exC exS=([0,3],0) by decide +kernel] at h
theorem ln (l:List Spx) (h:ShC l):Pure Try.prog 16 [aq l,aq l] (.bool true):=by
 have:=tF l l h.1 h.1 h.2 h.2
 rwa [decide_eq_true rfl] at this
theorem yK {H:Hp} {b c:Nat} {cs:List AV} {x y:AV} (h1:H b=some cs) (h2:H c=some [x]) (hne:c ≠ b) (hs:Snap (only b cs) x y):Fz (only b cs) H (only c [y]) where
 sub:=iR h1
 to:=fun a cs' h=>by
  unfold only at h
  split at h
  ·rename_i e
   cases h
   refine ⟨[x],by rw [e]; exact h2,?_,rfl,fun i u v hu hv=>?_⟩
   ·unfold only; rw [if_neg (by rw [e]; exact hne)]
   ·match i with
    | 0=>simp at hu hv; subst hu; subst hv; exact .inr hs
    | i + 1=>simp at hu
  ·cases h
theorem fU {H:Hp} {b n:Nat} {l:List Spx} (h:H b=some (l.map ar)) (hn:n=l.length):Snap H (.msl b n 1 0 n) (aq l):=by
 subst hn
 have:=Row.box (H:=H) (sz:=1) b l.length (l.map ar) h (by simp)
 rw [Nat.mul_one] at this
 exact dq this
theorem pT {H:Hp} {b n:Nat} {cs:List AV} {l:List (List Int)} (hb:H b=some cs) (hn:cs.length=n) (h:aF H cs (l.map bm)):Snap H (.msl b n 1 0 n) (cP l):=by
 have hl:=h.1
 refine gu (l:=l.map bm) hb hn (by omega) (by omega) (fun y hy=>?_) (fun i a c ha hc=>?_)
 ·obtain ⟨z,_,rfl⟩:=List.mem_map.1 hy; rfl
 ·rw [Nat.zero_add] at ha
  exact h.2 i a c ha hc
theorem Aq {g:FuncId} {r:AV} {l:List Spx} (hp:Pure Try.prog g [aq l] r) {H:Hp} {b nx c n:Nat} {cs:List AV} (h1:H b=some (l.map ar)) (hn:n=l.length) (h2:H c=some cs) (hne:c ≠ b):Abs.Fn Try.prog g [.msl b n 1 0 n] H nx fun r' H' nx'=>r'=r∧H'=only c cs∧nx'=nx :=
 Fn.of_pureZ hp (Hf:=only b (l.map ar)) (H':=only c cs) (iR h1) (fun a cs' h=>by
  unfold only at h
  split at h
  ·rename_i e; cases h; subst e
   exact ⟨h2,by unfold only; rw [if_neg hne]⟩
  ·cases h) (ap (fU gZ hn) aa) ⟨rfl,rfl,rfl⟩
theorem BQ {g:FuncId} {r:AV} {l m:List Spx} (hp:Pure Try.prog g [aq l,aq m] r) {H:Hp} {b d nx c n k:Nat} {cs:List AV} (h1:H b=some (l.map ar)) (hn:n=l.length) (h3:H d=some (m.map ar)) (hk:k=m.length) (hbd:d ≠ b) (h2:H c=some cs) (hne:c ≠ b) (hne2:c ≠ d):Abs.Fn Try.prog g [.msl b n 1 0 n,.msl d k 1 0 k] H nx fun r' H' nx'=>r'=r∧H'=only c cs∧nx'=nx :=
 Fn.of_pureZ hp (Hf:=on2 b (l.map ar) d (m.map ar)) (H':=only c cs) (oT h1 h3) (fun a cs' h=>by
  unfold only at h
  split at h
  ·rename_i e; cases h; subst e
   exact ⟨h2,by unfold on2; rw [if_neg hne,if_neg hne2]⟩
  ·cases h) (ap (fU xM hn) (ap (fU (xN hbd) hk) aa)) ⟨rfl,rfl,rfl⟩
theorem ze:Pure Try.prog 29 [bm [0,3],bm [0,3]] (.bool true):=by
 have:=ra [0,3] [0,3] (by decide) (by decide)
 rwa [decide_eq_true rfl] at this
attribute [local irreducible] aD am aZ aQ aH aL aB aM aR bf Go.Abs.Fn aP Go.Abs.Pure ax aF Yl
set_option maxHeartbeats 2000000 in
theorem lz:Pure Try.prog 11 [] (.bool true):=by
 refine Pure.of_c2 follows A7 (Nat.le_of_ble_eq_true rfl) ?_
 simp only [b11,cO,cG,cN,cM,cD,cF,cB,aA,aN]
 have h3:only 3 [aq exC] 3=some [aq exC]:=gZ
 (have zz:=aI @h3 (aI @az (aI @av (aI @an @ag))); repeat' (first|refine zW ?_|apply a_n|refine zO ?_|refine vZ ?_|refine blZ ?_|fail)) <;> (try clear zz)
 refine bZ ev0 ev0 v4 (ap (bj (n:=3) (len:=3) (l:=[0,1,2]) (by exact rfl) rfl rfl) aa) ?_
 (have zz:=aI @h3 (aI @az (aI @av (aI @an @ag))); repeat' (first|apply a_n|refine zO ?_|refine blZ ?_|fail)) <;> (try clear zz)
 refine bZ ev0 ev0 px (ap (bj (n:=2) (len:=2) (l:=[2,3]) (by exact rfl) rfl rfl) aa) ?_
 (have zz:=aI @h3 (aI @az (aI @av (aI @an @ag))); repeat' (first|apply a_n|refine zO ?_|refine vZ ?_|refine alZ ?_|refine stZ ?_|refine blZ ?_|fail)) <;> (try clear zz)
 refine dH ?_
 refine pF (only 2 [ar (b0 [0,1,2]),ar (b0 [2,3])]) (only 3 [aq exC]) [(1,.ptr 3 1 0)] (yK (x:=.msl 2 2 1 0 2) rfl rfl (by decide) (fU (l:=exC) rfl rfl)) ⟨.inl rfl,trivial⟩ ?_
 (have zz:=aI @h3 (aI @az (aI @av (aI @an @ag))); repeat' (first|apply a_n|refine zO ?_|refine blZ ?_|fail)) <;> (try clear zz)
 refine bZ ev0 ev0 v4 (ap (bj (n:=3) (len:=3) (l:=[0,1,2]) (by exact rfl) rfl rfl) aa) ?_
 (have zz:=aI @h3 (aI @az (aI @av (aI @an @ag))); repeat' (first|apply a_n|refine zO ?_|refine blZ ?_|fail)) <;> (try clear zz)
 refine aU ev0 ev0 (Aq zo (b:=5) (c:=3) (cs:=[aq exC]) (by exact rfl) (by exact rfl) (by exact rfl) (by decide)) ?_
 rintro _ _ _ ⟨rfl,rfl,rfl⟩
 (have zz:=aI @h3 (aI @az (aI @av (aI @an @ag))); repeat' (first|refine zW ?_|apply a_n|refine zO ?_|refine vZ ?_|refine cZ ?_ (hp:=by first | exact Ag | exact xJ | exact xK | exact za) (hs:=by (first | refine ab ?_ rfl | apply ae); (repeat' (first | exact aa | apply ak | apply af | exact ay _ | exact aV _)); first | done | fail)|refine blZ ?_|fail)) <;> (try clear zz)
 refine bZ ev0 ev0 lj (ap (bj (n:=2) (len:=2) (l:=[0,1]) (by exact rfl) rfl rfl) aa) ?_
 (have zz:=aI @h3 (aI @az (aI @av (aI @an @ag))); repeat' (first|apply a_n|refine zO ?_|refine blZ ?_|fail)) <;> (try clear zz)
 refine bZ ev0 ev0 lv (ap (bj (n:=2) (len:=2) (l:=[1,2]) (by exact rfl) rfl rfl) aa) ?_
 (have zz:=aI @h3 (aI @az (aI @av (aI @an @ag))); repeat' (first|apply a_n|refine zO ?_|refine blZ ?_|fail)) <;> (try clear zz)
 refine aU ev0 ev0 (Aq zZ (b:=8) (c:=3) (cs:=[aq exC]) (by exact rfl) (by exact rfl) (by exact rfl) (by decide)) ?_
 rintro _ _ _ ⟨rfl,rfl,rfl⟩
 (have zz:=aI @h3 (aI @az (aI @av (aI @an @ag))); repeat' (first|refine zW ?_|apply a_n|refine zO ?_|refine vZ ?_|refine blZ ?_|fail)) <;> (try clear zz)
 refine bZ ev0 ev0 lj (ap (bj (n:=2) (len:=2) (l:=[0,1]) (by exact rfl) rfl rfl) aa) ?_
 (have zz:=aI @h3 (aI @az (aI @av (aI @an @ag))); repeat' (first|apply a_n|refine zO ?_|refine blZ ?_|fail)) <;> (try clear zz)
 refine bZ ev0 ev0 lv (ap (bj (n:=2) (len:=2) (l:=[1,2]) (by exact rfl) rfl rfl) aa) ?_
 (have zz:=aI @h3 (aI @az (aI @av (aI @an @ag))); repeat' (first|apply a_n|refine zO ?_|refine blZ ?_|fail)) <;> (try clear zz)
 refine bZ ev0 ev0 lv (ap (bj (n:=2) (len:=2) (l:=[1,2]) (by exact rfl) rfl rfl) aa) ?_
 (have zz:=aI @h3 (aI @az (aI @av (aI @an @ag))); repeat' (first|apply a_n|refine zO ?_|refine blZ ?_|fail)) <;> (try clear zz)
 refine bZ ev0 ev0 px (ap (bj (n:=2) (len:=2) (l:=[2,3]) (by exact rfl) rfl rfl) aa) ?_
 (have zz:=aI @h3 (aI @az (aI @av (aI @an @ag))); repeat' (first|apply a_n|refine zO ?_|refine blZ ?_|fail)) <;> (try clear zz)
 refine aU ev0 ev0 (BQ BI (b:=11) (d:=14) (c:=3) (cs:=[aq exC]) (by exact rfl) (by exact rfl) (by exact rfl) (by exact rfl) (by decide) (by exact rfl) (by decide) (by decide)) ?_
 rintro _ _ _ ⟨rfl,rfl,rfl⟩
 (have zz:=aI @h3 (aI @az (aI @av (aI @an @ag))); repeat' (first|refine zW ?_|apply a_n|refine zO ?_|refine vZ ?_|refine blZ ?_|refine gTZ ?_|(refine zGZ ?_ ?_ <;> (intro _hg; try (exfalso; omega)))|fail)) <;> (try clear zz)
 refine bZ ev0 ev0 lj (ap (bj (n:=2) (len:=2) (l:=[0,1]) (by exact rfl) rfl rfl) aa) ?_
 (have zz:=aI @h3 (aI @az (aI @av (aI @an @ag))); repeat' (first|apply a_n|refine zO ?_|refine blZ ?_|refine gTZ ?_|fail)) <;> (try clear zz)
 refine bZ ev0 ev0 w6 (ap (bj (n:=2) (len:=2) (l:=[0,2]) (by exact rfl) rfl rfl) aa) ?_
 (have zz:=aI @h3 (aI @az (aI @av (aI @an @ag))); repeat' (first|apply a_n|refine zO ?_|refine blZ ?_|refine gTZ ?_|fail)) <;> (try clear zz)
 refine bZ ev0 ev0 lv (ap (bj (n:=2) (len:=2) (l:=[1,2]) (by exact rfl) rfl rfl) aa) ?_
 (have zz:=aI @h3 (aI @az (aI @av (aI @an @ag))); repeat' (first|apply a_n|refine zO ?_|refine blZ ?_|refine gTZ ?_|fail)) <;> (try clear zz)
 refine bI ev0 ev0 (ln exA ⟨by decide,by decide⟩) (ab (ap (ay _ _) (ap (fU (b:=18) (n:=3) (by exact rfl) (by exact rfl)) aa)) rfl) ?_
 (have zz:=aI @h3 (aI @az (aI @av (aI @an @ag))); repeat' (first|apply a_n|refine zO ?_|refine vZ ?_|refine blZ ?_|refine gTZ ?_|fail)) <;> (try clear zz)
 refine bZ ev0 ev0 yV (ap (bj (n:=1) (len:=1) (l:=[0]) (by exact rfl) rfl rfl) aa) ?_
 (have zz:=aI @h3 (aI @az (aI @av (aI @an @ag))); repeat' (first|apply a_n|refine zO ?_|refine blZ ?_|refine gTZ ?_|fail)) <;> (try clear zz)
 refine bZ ev0 ev0 yM (ap (bj (n:=1) (len:=1) (l:=[2]) (by exact rfl) rfl rfl) aa) ?_
 (have zz:=aI @h3 (aI @az (aI @av (aI @an @ag))); repeat' (first|apply a_n|refine zO ?_|refine blZ ?_|refine gTZ ?_|fail)) <;> (try clear zz)
 refine bI ev0 ev0 (ln exB ⟨by decide,by decide⟩) (ab (ap (ay _ _) (ap (fU (b:=21) (n:=2) (by exact rfl) (by exact rfl)) aa)) rfl) ?_
 (have zz:=aI @h3 (aI @az (aI @av (aI @an @ag))); repeat' (first|apply a_n|refine zO ?_|refine vZ ?_|refine blZ ?_|refine gTZ ?_|fail)) <;> (try clear zz)
 refine bZ ev0 ev0 lj (ap (bj (n:=2) (len:=2) (l:=[0,1]) (by exact rfl) rfl rfl) aa) ?_
 (have zz:=aI @h3 (aI @az (aI @av (aI @an @ag))); repeat' (first|apply a_n|refine zO ?_|refine blZ ?_|refine gTZ ?_|fail)) <;> (try clear zz)
 refine bZ ev0 ev0 px (ap (bj (n:=2) (len:=2) (l:=[2,3]) (by exact rfl) rfl rfl) aa) ?_
 (have zz:=aI @h3 (aI @az (aI @av (aI @an @ag))); repeat' (first|apply a_n|refine zO ?_|refine blZ ?_|refine gTZ ?_|fail)) <;> (try clear zz)
 refine bI ev0 ev0 (ln exS ⟨by decide,by decide⟩) (ab (ap (ay _ _) (ap (fU (b:=24) (n:=2) (by exact rfl) (by exact rfl)) aa)) rfl) ?_
 (have zz:=aI @h3 (aI @az (aI @av (aI @an @ag))); repeat' (first|refine zW ?_|apply a_n|refine zO ?_|refine vZ ?_|refine cZ ?_ (hp:=by first | exact Ag | exact xJ | exact xK | exact za) (hs:=by (first | refine ab ?_ rfl | apply ae); (repeat' (first | exact aa | apply ak | apply af | exact ay _ | exact aV _)); first | done | fail)|refine alZ ?_|refine stZ ?_|refine blZ ?_|refine gTZ ?_|(refine zGZ ?_ ?_ <;> (intro _hg; try (exfalso; omega)))|refine cFZ ?_|fail)) <;> (try clear zz)
 refine bI ev0 ev0 (nQ 4 [[0,1],[0,2],[1,2,3],[3]] (by decide) (by decide)) (ab (ap ((show Dat (.agg [.int .i64 4,cP [[0,1],[0,2],[1,2,3],[3]]]) from nc 4 [[0,1],[0,2],[1,2,3],[3]]) _) (ap (nq (ap (.int _ _) (ap (pT (b:=31) (n:=4) (cs:=[.msl 27 2 1 0 2,.msl 28 2 1 0 2,.msl 29 3 1 0 3,.msl 30 1 1 0 1]) (by exact rfl) (by exact rfl) (ap (bj (b:=27) (n:=2) (len:=2) (l:=[0,1]) (by exact rfl) rfl rfl) (ap (bj (b:=28) (n:=2) (len:=2) (l:=[0,2]) (by exact rfl) rfl rfl) (ap (bj (b:=29) (n:=3) (len:=3) (l:=[1,2,3]) (by exact rfl) rfl rfl) (ap (bj (b:=30) (n:=1) (len:=1) (l:=[3]) (by exact rfl) rfl rfl) aa))))) aa))) aa)) rfl) ?_
 (have zz:=aI @h3 (aI @az (aI @av (aI @an @ag))); repeat' (first|apply a_n|refine zO ?_|refine vZ ?_|refine blZ ?_|refine gTZ ?_|fail)) <;> (try clear zz)
 refine bI ev0 ev0 (nQ 1 [[0],[0],[0],[]] (by decide) (by decide)) (ab (ap ((show Dat (.agg [.int .i64 1,cP [[0],[0],[0],[]]]) from nc 1 [[0],[0],[0],[]]) _) (ap (nq (ap (.int _ _) (ap (pT (b:=35) (n:=4) (cs:=[.msl 32 1 1 0 1,.msl 33 1 1 0 1,.msl 34 1 1 0 1,.esl]) (by exact rfl) (by exact rfl) (ap (bj (b:=32) (n:=1) (len:=1) (l:=[0]) (by exact rfl) rfl rfl) (ap (bj (b:=33) (n:=1) (len:=1) (l:=[0]) (by exact rfl) rfl rfl) (ap (bj (b:=34) (n:=1) (len:=1) (l:=[0]) (by exact rfl) rfl rfl) (ap (.eslsl 1) aa))))) aa))) aa)) rfl) ?_
 (have zz:=aI @h3 (aI @az (aI @av (aI @an @ag))); repeat' (first|apply a_n|refine zO ?_|refine vZ ?_|refine blZ ?_|refine gTZ ?_|fail)) <;> (try clear zz)
 refine bI ev0 ev0 ze (ab (ap (cV _ _) (ap (bj (b:=36) (n:=2) (len:=2) (l:=[0,3]) (by exact rfl) rfl rfl) aa)) rfl) ?_
 (have zz:=aI @h3 (aI @az (aI @av (aI @an @ag))); repeat' (first|apply a_n|refine zO ?_|refine vZ ?_|refine ai rfl ?_|refine r1Z ?_|fail)) <;> (try clear zz)
 exact .bool _
end Go.Proofs.Ytfcenbapjhecfaa
namespace Go.Proofs.Ytfcenbapjhecfaa
open Go Go.Abs
theorem pC:ShC []:=⟨Nat.zero_le _,fun s h=>(by cases h)⟩
theorem xy {c:List Spx} {d:Int} {v:List Int} (hv:v.length ≤ 100000):ShC (oS c d v).1:=by
 unfold oS
 split
 ·exact pC
 split
 ·exact pC
 split
 ·exact pC
 ·rename_i h1 h2 h3
  refine ⟨show (dh _ v).length ≤ _ by unfold dh; rw [List.length_map]; omega,fun s hs=>?_⟩
  unfold dh at hs
  obtain ⟨i,hi,rfl⟩:=List.mem_map.1 hs
  by_cases hl:i.toNat < (bV c (d + 1)).length
  ·exact go (d5 (Decidable.of_not_not h1)) _ (aG hl)
  ·rw [show (bV c (d + 1)).getD i.toNat default=[] by unfold List.getD; rw [List.getElem?_eq_none (by omega)]; rfl]
   exact Nat.zero_le _
theorem sY {c a:List Spx}:(lh c a).1.length ≤ 1000000:=by
 unfold lh
 split
 ·exact Nat.zero_le _
 split
 ·exact Nat.zero_le _
 split
 ·exact Nat.zero_le _
 split
 ·rename_i h1 h2 h3 h4
  have:=(dY (Decidable.of_not_not h2)).1
  show (ea (ka _ a)).length ≤ _
  unfold ea ka
  rw [List.length_map,List.length_map]; omega
 ·exact Nat.zero_le _
theorem Bz (a:List Spx) (ha:ShC a):Pure Try.prog 10 [du [a]] (.bool (k9 a)):=by
 have:=wX [a] (show _ ≤ _ by simp) (fun x hx=>by rw [List.mem_singleton.1 hx]; exact ha)
 rwa [show [a].all k9=k9 a by simp] at this
theorem uZ {H:Hp} {b:Nat} {x:List Spx} (h:H b=some [aq x]):aF H [.msl b 1 1 0 1] [du [x]] :=
 ap (jE (l:=[aq x]) h rfl rfl (by
  intro z hz
  rw [List.mem_singleton.1 hz]
  exact ⟨rfl,ay _⟩)) aa
attribute [local irreducible] aD am aZ aQ aH aL aB aM aR bf Go.Abs.Fn aP Go.Abs.Pure ax aF Yl
theorem ql (c a:List Spx) (v:List Int) (hc:Shn c∧∀ s ∈ c,Shn s) (ha:ShC a) (hv:Shn v):Pure Try.prog 7 [dM c,aq a,bm v] (.bool true):=by
 refine Pure.of_c2 follows is7 (Nat.le_of_ble_eq_true rfl) ?_
 simp only [b7,cO,cG,cN,cM,cD,cF,cB,aA,aN]
 have hv':v.length ≤ 17592186044416:=hv
 have f1:=wH c hc.1 hc.2
 cases e1:gV c
 ·rw [e1] at f1
  (have zz:=aI @an @ag; repeat' (first|refine zW ?_|apply a_n|apply a_r|refine zO ?_|refine vY ?_|refine cY ?_ (hp:=by first | exact f1 | exact lz) (hs:=by (first | refine ab ?_ rfl | apply ae); (repeat' (first | exact aa | apply ak | apply af | exact aV _)); first | done | fail)|refine bxY ?_|refine gFY ?_|refine cTY ?_|refine ai rfl ?_|refine r1Y ?_|fail)) <;> (try clear zz)
  exact .bool _
 rw [e1] at f1
 obtain ⟨fc1,fc2⟩:=rH.1 e1
 have f2:=Bz a ha
 (have zz:=aI @an @ag; repeat' (first|refine zW ?_|apply a_n|refine zO ?_|refine vY ?_|refine cY ?_ (hp:=f1) (hs:=by (first | refine ab ?_ rfl | apply ae); (repeat' (first | exact aa | apply ak | apply af | exact aV _)); first | done | fail)|refine bxY ?_|refine blY ?_|refine gTY ?_|fail)) <;> (try clear zz)
 refine bI ev0 ev0 f2 (ab (uZ (by rw [aj])) rfl) ?_
 cases k9 a
 ·(have zz:=and_self; repeat' (first|refine zW ?_|apply a_n|apply a_r|refine zO ?_|refine vY ?_|refine cY ?_ (hp:=lz) (hs:=by (first | refine ab ?_ rfl | apply ae); (repeat' (first | exact aa | apply ak | apply af | exact ay _)); first | done | fail)|refine gTY ?_|refine gFY ?_|refine cTY ?_|refine ai rfl ?_|refine r1Y ?_|fail)) <;> (try clear zz)
  exact .bool _
 by_cases hl:60 < v.length
 ·have z:decide ((60:Int) < v.length)=true:=decide_eq_true (by omega)
  (have zz:=@z; repeat' (first|refine zW ?_|apply a_n|apply a_r|refine zO ?_|refine vY ?_|refine cY ?_ (hp:=lz) (hs:=by (first | refine ab ?_ rfl | apply ae); (repeat' (first | exact aa | apply ak | apply af | exact ay _)); first | done | fail)|refine gTY ?_|refine cTY ?_|refine ai rfl ?_|refine r1Y ?_|fail)) <;> (try clear zz)
  exact .bool _
 have z:decide ((60:Int) < v.length)=false:=decide_eq_false (by omega)
 have hrem:∀ tb tf,aY .rem tb tf (.int .i64 (v.length:Int)) (.int .i64 4)=some (.int .i64 ((v.length % 4:Nat):Int)):=fun _ _=>(wR (by omega) (by omega)).trans (by rw [show (v.length:Int) % 4=((v.length % 4:Nat):Int) by omega])
 have s1:=vq c a (by omega) hc.2 ha
 have s2:=zw c a (by omega) hc.2 ha
 have s3:=xb c ((v.length % 4:Nat):Int) v (by omega) hc.2 (by omega)
 have s4:=vu c ((v.length % 4:Nat):Int) v (by omega) hc.2 (by omega)
 have s5:=ra (lh c a).1 (lh c a).1 sY sY
 rw [decide_eq_true rfl] at s5
 have s6:=ln _ (xy (c:=c) (d:=((v.length % 4:Nat):Int)) (v:=v) (by omega))
 generalize lh c a=P at *
 obtain ⟨p,e⟩:=P
 generalize oS c ((v.length % 4:Nat):Int) v=Q at *
 obtain ⟨q,g⟩:=Q
 dsimp only at s1 s2 s3 s4 s5 s6
 generalize ((v.length % 4:Nat):Int)=m at *
 have z1:decide (g=g)=true:=decide_eq_true rfl
 have z2:decide (e=e)=true:=decide_eq_true rfl
 (have zz:=aI @an (aI @ag (aI @z (aI @z1 (aI @z2 @hrem)))); repeat' (first|refine zW ?_|apply a_n|refine zO ?_|refine vY ?_|refine cY ?_ (hp:=by first | exact lz | exact s1 | exact s2 | exact s3 | exact s4 | exact s5 | exact s6) (hs:=by (first | refine ab ?_ rfl | apply ae); (repeat' (first | exact aa | apply ak | apply af | exact aV _ | exact ay _ | exact cV _)); first | done | fail)|refine gTY ?_|(refine zGY ?_ ?_ <;> (intro _hg; try (exfalso; omega)))|refine cFY ?_|refine ai rfl ?_|refine r1Y ?_|fail)) <;> (try clear zz)
 exact .bool _
end Go.Proofs.Ytfcenbapjhecfaa
namespace Go.Proofs.Ytfcenbapjhecfaa
open Go Go.Abs Go.RowKit
section
variable {H:Type} {enc:TypeId × Value→H} {W:World}
theorem oi:cK enc Try.prog W 3 (AV.int .i64) (fun n=>(Lit.int .i64 n).wf=true):=uB Try.underlying3
set_option maxRecDepth 100000 in
theorem AK:cK enc Try.prog W 101 bN (fun _=>True) :=
 (iT Try.underlying101 (by kernel_rfl) (gM (off:=0) (off':=1) rfl (by kernel_rfl) oi (gM (off:=1) (off':=2) rfl (by kernel_rfl) oi nk))).map
  (fun a=>(⟨a.1,a.2.1⟩:Vtx)) (fun _ _=>trivial) (fun _ _=>rfl)
theorem oXs:cK enc Try.prog W 52 ar Shn :=
 (gI Try.underlying52 (sz:=2) (by_:=16) (by kernel_rfl) (by kernel_rfl) (by omega) (fun _=>rfl) AK).mono fun l h=>by have:=h.2.2; show _ ≤ _; omega
theorem zi:cK enc Try.prog W 22 aq (fun l=>Shn l∧∀ x ∈ l,Shn x) :=
 (gI Try.underlying22 (sz:=1) (by_:=24) (by kernel_rfl) (by kernel_rfl) Nat.one_pos (fun _=>rfl) oXs).mono fun l h=>⟨by have:=h.2.2; show _ ≤ _; omega,h.1⟩
set_option maxRecDepth 100000 in
theorem oCx:cK enc Try.prog W 41 dM (fun l=>Shn l∧∀ x ∈ l,Shn x) :=
 (iT Try.underlying41 (by kernel_rfl) (gM (off:=0) (off':=1) rfl (by kernel_rfl) zi nk)).map
  (fun a=>a.1) (by rintro ⟨n,u⟩ ⟨h1,_⟩; exact h1) (fun _ _=>rfl)
end
theorem lB {f:FuncId} {xs:List AV} {vs:List Value} (h:Go.Abs.Pure Try.prog f xs (.bool true)) (w:World) (hv:bL (E0 (nA w)) w xs vs) :
    Calls Try.prog f vs.toArray w fun e w'=>e=.returned (.bool true)∧Below w.heap.size w w':=by
 refine (h.2 (nA w) w vs (fun _ h=>h) hv).mono ?_
 rintro e w' ⟨v,imm',rfl,hb,_,_,_,hr⟩
 cases hr
 exact ⟨rfl,hb⟩
theorem AB:laidOutB Try.prog=true:=by kernel_rfl
end Go.Proofs.Ytfcenbapjhecfaa
namespace Go.Proofs.Ytfcenbapjhecfaa
open Go Go.Abs Go.RowKit
section
variable {H:Type} {enc:TypeId × Value→H} {W:World}
theorem oVi:cK enc Try.prog W 54 bm Shn :=
 (gI Try.underlying54 (sz:=1) (by_:=8) (by kernel_rfl) (by kernel_rfl) Nat.one_pos (fun _=>rfl) oi).mono fun l h=>by have:=h.2.2; show _ ≤ _; omega
end
end Go.Proofs.Ytfcenbapjhecfaa
namespace Go.Proofs.Ytfcenbapjhecfaa
open Go Go.Abs Go.RowKit Go.ChangeShapes Go.WideShapes Go.ChangeAt
theorem nu {H:Type} {enc:TypeId × Value→H} {P:Program} {f:Func} {s:ChangeSpec} {apart fresh handsOn again:Bool} {W W':World} {args:Array Value} {v:Value} {ds gs:List (DataW H)} {before pa pv:List MemPlace}
    (hW:DataW.Whole enc P f.params.toList s.vars apart W args.toList ds gs before)
    (hres:∀ (b:Nat) (sp:Nat→Bool) (hd:Bool),DataW.TrodAll enc P W' b sp hd f.resultTypes.toList (v.resultList f.resultTypes.size) (s.fn H (ds ++ gs)).results [])
    (hargs:∀ sp:Nat→Bool,(∀ p ∈ before,sp p.block=true)→DataW.TrodAll enc P W' 0 sp true f.params.toList args.toList (s.fn H (ds ++ gs)).args pa)
    (hvars:∀ sp:Nat→Bool,(∀ p ∈ before,sp p.block=true)→DataW.TrodVars enc P W' sp s.vars (s.fn H (ds ++ gs)).vars pv)
    (hps:before=pa ++ pv) (hb:Below W.heap.size W W')
    (hok:∀ (j:Nat) (t:TypeId) (r:Value),f.resultTypes[j]?=some t→(v.resultList f.resultTypes.size)[j]?=some r→Value.okWide P W' .any 0 t r) :
    s.post enc P f apart fresh handsOn again W args v W':=by
 have hold:∀ p ∈ before,(fun b=>decide (b < W.heap.size)) p.block=true:=fun p hp=>by simpa using hW.lt p hp
 have hlt:=fun p hp=>hW.lt p hp
 refine ⟨ds,gs,before,[],pa,pv,hW,hres _ _ _,hargs _ hold,hvars _ hold,World.keptBut_mono (fun p hp=>⟨hp,?_⟩) (hb.frame _),fun _=>?_⟩
 ·rw [hps,List.mem_append] at hp
  exact Or.inr hp
 ·obtain ⟨_,_,_,_,_,hz,hn⟩:=hW
  refine ⟨hok,_,_,([] ++ pa) ++ pv,⟨[] ++ pa,pv,trodAll_append (hargs _ (fun _ _=>rfl)) (hres _ _ _),hvars _ (fun _ _=>rfl),rfl,?_,?_⟩,?_⟩
  ·intro b off hp
   have hp':MemPlace.cell b off ∈ before:=by rw [hps]; simpa using hp
   rw [hb.frozen (hlt _ hp')]
   exact hz b off hp'
  ·intro ha
   have:=hn ha
   rw [hps] at this
   simpa using this
  ·intro p hp _
   rw [hps]
   simpa using hp
theorem u6 {E:Env} {w:World}:bL E w [] []:=⟨rfl,fun i x y h=>(by cases h)⟩
theorem kg {E:Env} {w:World} {x:AV} {y:Value} {xs:List AV} {ys:List Value} (h:Rel E w x y) (hs:bL E w xs ys):bL E w (x :: xs) (y :: ys):=by
 refine ⟨by simp [hs.1],fun i a b ha hb=>?_⟩
 cases i with
 | zero=>simp at ha hb; subst ha hb; exact h
 | succ i=>simp at ha hb; exact hs.2 i a b ha hb
theorem own:ownKnob Try.prog.godebug=none:=by kernel_rfl
end Go.Proofs.Ytfcenbapjhecfaa