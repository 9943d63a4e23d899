/- Texts of this claim, one after the other: T176, T177, T179, T143, T178, T180, T181, A33, T122, T133, T144, T147, T148, T182, T183, T185, T163, T164, T160, T161, T162, T165, T190, T186, T187, T188, T118, T184, T121. -/
import Derived.Test.YtfcenbapjhecfaaXG5
import Derived.Test.YtfcenbapjhecfaaXG4
import Derived.Test.YtfcenbapjhecfaaXG3
import Derived.Test.YtfcenbapjhecfaaRows
import Derived.WalkKit
import Derived.ProofKit
import Derived.OpenShut

set_option linter.unusedSimpArgs false
set_option linter.unusedVariables false
namespace Go.Proofs.Ytfcenbapjhecfaa
open Go Go.Abs
theorem tE {s f:Spx} (hs:be s=0) (hf:f ∈ a7 s):be f=0:=by
 obtain ⟨h1,h2,h3⟩:=eI.1 hf
 obtain ⟨p1,p2,p3,p4⟩:=cz hs
 exact qi ⟨by omega,by omega⟩ (p3.sublist h2) fun v hv=>p4 v (h2.subset hv)
theorem nU {a:List Spx} (ha:∀ s ∈ a,be s=0):∀ f ∈ bq a,be f=0:=fun f hf=>by
 obtain ⟨s,h1,h2⟩:=iE (c7 ha) hf
 exact tE (ha s h1) h2
theorem kj {a:List Spx} {n:Nat} (ha:∀ s ∈ a,bg bt s) (hn:∀ s ∈ a,s.length=n):∀ f ∈ bq a,f.length=n - 1:=fun f hf=>by
 obtain ⟨s,h1,h2⟩:=iE ha hf
 rw [(eI.1 h2).2.2,hn s h1]
theorem mC {a:List Spx} (h:∀ s ∈ a,be s=0):∀ s ∈ a,s.length ≤ 8:=fun s hs=>(cz (h s hs)).2.1
def eT (a:List Spx):List Spx × Int:=if bB a ≠ 0 then ([],bB a) else if 4096 < (bq a).length then ([],5) else (bq a,0)
def ux (a:List Spx):Bool × Int:=if bB a ≠ 0 then (false,bB a) else (decide (bq a=[]),0)
attribute [local irreducible] aC ah aU aO aH aJ az aK aP bb Go.Abs.Fn aM Go.Abs.Pure ar aD Yl
theorem nK {a:List Spx} (h:bB a=0):Pure Try.prog 46 [au a] (au (bq a)):=by
 obtain ⟨h1,h2,h3,h4⟩:=bR h
 by_cases h0:a=[]
 ·subst h0
  exact lO [] 0 (by omega) (by simp) (by simp) (by simp) (by simp)
 ·have hm:a.getD 0 default ∈ a:=aX (List.length_pos_iff.2 h0)
  have h5:=cz (h2 _ hm)
  exact lO a ((a.getD 0 default).length - 1) (by omega) h1 (c7 h2) (fun s hs=>.inl (by rw [h4 s hs]; omega)) (mC h2)
theorem qL {a:List Spx} (h:bB a=0):Shn (bq a)∧∀ s ∈ bq a,s.length ≤ 1000000:=by
 obtain ⟨h1,h2,h3,h4⟩:=bR h
 have:=oE (mC h2)
 exact ⟨show _ ≤ _ by omega,qQ (nU h2)⟩
theorem gS (a:List Spx) (ha:ShC a):Pure Try.prog 17 [au a] (.tup [au (eT a).1,.int .i64 (eT a).2]):=by
 refine Pure.of_c2 follows AK (Nat.le_of_ble_eq_true rfl) ?_
 simp only [b17,cO,cG,cN,cM,cD,cF,cB,aF,aW]
 have f1:=jv a ha
 unfold eT
 by_cases h:bB a=0
 rotate_left
 ·have z:decide (bB a ≠ 0)=true:=decide_eq_true h
  rw [if_pos h]
  (have zz:=@z; repeat' (first|refine zW ?_|apply a_n|apply a_r|refine zO ?_|refine vY ?_|refine cY ?_ (hp:=f1) (hs:=by (first | refine ac ?_ rfl | apply ae); (repeat' (first | exact aa | apply ao | apply af | exact ay _)); first | done | fail)|refine cTY ?_|refine ak rfl ?_|refine r2Y ?_|fail)) <;> (try clear zz)
  exact ci (.eslsl _) rfl
 rw [if_neg (fun q=>q h)]
 have f2:=nK h
 have f3:=od (bq a) (qL h).1 (qL h).2
 have z:decide ((0:Int) ≠ 0)=false:=rfl
 rw [h] at f1
 have hfin:(if 4096 < (bq a).length then (([]:List Spx),(5:Int)) else (bq a,0))=(if 4096 < (bq a).length then [] else bq a,if 4096 < (bq a).length then 5 else 0):=by
  split <;> rfl
 rw [hfin]
 (have zz:=@z; repeat' (first|refine zW ?_|apply a_n|refine zO ?_|refine vY ?_|refine cY ?_ (hp:=by first | exact f1 | exact f2 | exact f3) (hs:=by (first | refine ac ?_ rfl | apply ae); (repeat' (first | exact aa | apply ao | apply af | exact ay _)); first | done | fail)|refine cFY ?_|refine ak rfl ?_|refine r2Y ?_|fail)) <;> (try clear zz)
 exact ci (ay _).snap rfl
theorem xp (a:List Spx) (ha:ShC a):Pure Try.prog 19 [au a] (.tup [.bool (ux a).1,.int .i64 (ux a).2]):=by
 refine Pure.of_c2 follows AE (Nat.le_of_ble_eq_true rfl) ?_
 simp only [b19,cO,cG,cN,cM,cD,cF,cB,aF,aW]
 have f1:=jv a ha
 unfold ux
 by_cases h:bB a=0
 rotate_left
 ·have z:decide (bB a ≠ 0)=true:=decide_eq_true h
  rw [if_pos h]
  (have zz:=@z; repeat' (first|refine zW ?_|apply a_n|apply a_r|refine zO ?_|refine vY ?_|refine cY ?_ (hp:=f1) (hs:=by (first | refine ac ?_ rfl | apply ae); (repeat' (first | exact aa | apply ao | apply af | exact ay _)); first | done | fail)|refine cTY ?_|refine ak rfl ?_|refine r2Y ?_|fail)) <;> (try clear zz)
  exact vA rfl rfl
 rw [if_neg (fun q=>q h)]
 have f2:=nK h
 have z:decide ((0:Int) ≠ 0)=false:=rfl
 have z2:decide ((((bq a).length:Nat):Int)=0)=decide (bq a=[]):=decide_eq_decide.2 (by rw [← List.length_eq_zero_iff]; omega)
 rw [h] at f1
 (have zz:=aI @z (aI @z2 @aj); repeat' (first|refine zW ?_|apply a_n|refine zO ?_|refine vY ?_|refine cY ?_ (hp:=by first | exact f1 | exact f2) (hs:=by (first | refine ac ?_ rfl | apply ae); (repeat' (first | exact aa | apply ao | apply af | exact ay _)); first | done | fail)|refine cFY ?_|refine ak rfl ?_|refine r2Y ?_|fail)) <;> (try clear zz)
 exact vA rfl rfl
end Go.Proofs.Ytfcenbapjhecfaa
namespace Go.Proofs.Ytfcenbapjhecfaa
open Go Go.Abs
def on3 (b1:Nat) (c1:List AV) (b2:Nat) (c2:List AV) (b3:Nat) (c3:List AV):Hp:=fun x=>if x=b1 then some c1 else if x=b2 then some c2 else if x=b3 then some c3 else none
theorem yG {P:Program} {T:Tm} {H:Hp} {nx:Nat} (b1 b2 b3:Nat) {c1 c2 c3:List AV} {K:CP} {m:Nat} {l:List Op2} {C:List (Nat × Nat)} (h1:H b1=some c1) (h2:H b2=some c2) (h3:H b3=some c3) (n1:b2 ≠ b1) (n2:b3 ≠ b1) (n3:b3 ≠ b2) (k:∀ S:Hp,S b1=some c1→S b2=some c2→S b3=some c3→(∀ H':Hp,H' b1=some c1→H' b2=some c2→H' b3=some c3→Sub S H')→a8 P S (C.map fun k=>(l.getD k.1 ⟨none,none,.dead⟩,k.2)) T H nx fun T H nx=>K .normal T H nx):aC P (.mixS m l C) T H nx K:=by
 have hsub:∀ H':Hp,H' b1=some c1→H' b2=some c2→H' b3=some c3→Sub (on3 b1 c1 b2 c2 b3 c3) H':=fun H' a b c x cs h=>by
  unfold on3 at h
  split at h
  ·rename_i e; rw [e,a]; exact h
  split at h
  ·rename_i e; rw [e,b]; exact h
  split at h
  ·rename_i e; rw [e,c]; exact h
  ·cases h
 refine rH (on3 b1 c1 b2 c2 b3 c3) rfl (hsub H h1 h2 h3) (k _ ?_ ?_ ?_ hsub)
 ·unfold on3; rw [if_pos rfl]
 ·unfold on3; rw [if_neg n1,if_pos rfl]
 ·unfold on3; rw [if_neg n2,if_neg n3,if_pos rfl]
theorem rU {α:Type} {p q:Prop} [Decidable p] [Decidable q] (h:p ↔ q) {a b:α}:(if p then a else b)=if q then a else b:=by
 by_cases hq:q
 ·rw [if_pos hq,if_pos (h.2 hq)]
 ·rw [if_neg hq,if_neg fun x=>hq (h.1 x)]
def uG (c:List Spx) (d:Int):List Spx × Int:=if d < 0 then ([],0) else dQ c (d + 1)
def dI (c:List Spx) (d:Int):List Spx:=if d ≤ 0 then [] else iV c d.toNat
def nV (c:List Spx) (d:Int):(Int × List (List Int)) × Int:=if bo c ≠ 0 then ((0,[]),bo c) else if d < 0 ∨ 8 ≤ d then ((0,[]),2) else ((((dI c (d + 1)).length:Nat),zy (dI c (d + 1)) (dI c d)),0)
theorem xe {c:List Spx} {d:Int} (hc:bo c=0) (h1:-1 ≤ d) (h2:d < 8):uG c d=(dI c (d + 1),0):=by
 unfold uG dI dQ
 by_cases h:d < 0
 ·rw [if_pos h,if_pos (by omega)]
 ·rw [if_neg h,if_neg (fun q=>q hc),if_neg (by omega),if_neg (by omega)]
theorem oo {c:List Spx} {d:Int}:bg aN (dI c d):=by
 unfold dI; split
 ·exact bg.nil
 ·exact ve
theorem jY {c:List Spx} {d:Int} (hc:c.length ≤ 50) (h:bo c=0):(dI c d).length ≤ 3500:=by
 unfold dI; split
 ·exact Nat.zero_le _
 ·exact uF hc (mC (iq h).2.1)
theorem tA {c:List Spx} {d:Int} {s:Spx}:s ∈ dI c d ↔ 0 < d∧s.length=d.toNat∧∃ t ∈ c,s.Sublist t:=by
 unfold dI; split
 ·exact ⟨fun h=>(by cases h),fun h=>absurd h.1 (by omega)⟩
 ·rw [uK]
  constructor
  ·rintro ⟨t,t1,t2⟩
   exact ⟨by omega,(cL.1 t2).2,t,t1,(cL.1 t2).1⟩
  ·rintro ⟨_,h1,t,t1,t2⟩
   exact ⟨t,t1,cL.2 ⟨t2,h1⟩⟩
theorem iM {c:List Spx} {d:Int} (h:bo c=0):∀ s ∈ dI c d,be s=0:=fun s hs=>by
 obtain ⟨h1,h2,t,t1,t2⟩:=tA.1 hs
 obtain ⟨p1,p2,p3,p4⟩:=cz ((iq h).2.1 t t1)
 have:=t2.length_le
 exact qi ⟨by omega,by omega⟩ (p3.sublist t2) fun v hv=>p4 v (t2.subset hv)
attribute [local irreducible] aC ah aU aO aH aJ az aK aP bb Go.Abs.Fn aM Go.Abs.Pure ar aD Yl
theorem qw (l:List Spx) (v:Spx) (hl:Shn l) (hs:∀ c ∈ l,Shn c) (hv:Shn v) (ha:bg aN l):∃ b:Nat,Pure Try.prog 52 [au l,ax v] (.tup [.int .i64 b,.bool (decide (v ∈ l))])∧(v ∈ l→b < l.length∧l.getD b default=v):=by
 obtain ⟨b,hb,h1,h2⟩:=mH (fun i=>aN (l.getD i default) v) l.length (fun i j hij hj h=>dK.trans (c9 ha hij hj) h)
 have hc:=ru l v hl hs hv hb h1 h2
 have he:(decide (b < l.length) && decide (aN (l.getD b default) v=0))=decide (v ∈ l)∧(v ∈ l→b < l.length∧l.getD b default=v):=by
  by_cases hm:v ∈ l
  ·obtain ⟨i,hi,e⟩:=List.getElem_of_mem hm
   have e':l.getD i default=v:=by simp [List.getD,hi,e]
   have hbi:b=i:=by
    rcases Nat.lt_trichotomy b i with h | h | h
    ·have h3:=h2 b (Nat.le_refl _) (by omega)
     have h4:=c9 ha h hi
     rw [e'] at h4; omega
    ·exact h
    ·have h3:=h1 i h
     rw [e',dN] at h3; omega
   subst hbi
   rw [decide_eq_true hi,decide_eq_true hm,e',decide_eq_true (dN v)]
   exact ⟨rfl,fun _=>⟨hi,rfl⟩⟩
  ·rw [decide_eq_false hm]
   refine ⟨?_,fun h=>absurd h hm⟩
   by_cases hlt:b < l.length
   ·rw [decide_eq_true hlt,Bool.true_and,decide_eq_false]
    intro h
    exact hm (by rw [← lB h]; exact aX hlt)
   ·rw [decide_eq_false hlt,Bool.false_and]
 rw [he.1] at hc
 refine ⟨b,?_,he.2⟩
 refine Pure.of_c2 follows Bd (Nat.le_of_ble_eq_true rfl) ?_
 simp only [b52,cO,cG,cN,cM,cD,cF,cB,aF,aW]
 (have zz:=aI @aB (aI @aw (aI @av @an)); repeat' (first|refine zW ?_|apply a_n|refine zO ?_|refine vZ ?_|refine cZ ?_ (hp:=hc) (hs:=by (first | refine ac ?_ rfl | apply ae); (repeat' (first | exact aa | apply ao | apply af | exact ay _ | exact aA _ | exact Dat.func DatL.nil)); first | done | fail)|refine ak rfl ?_|refine r2Z ?_|fail)) <;> (try clear zz)
 exact eR (am (.int _ _) (am (.bool _) aa))
theorem xn (c:List Spx) (d:Int) (hd:d ≤ 1000) (hc:c.length ≤ 50) (hs:∀ s ∈ c,Shn s):Pure Try.prog 50 [im c,.int .i64 d] (.tup [au (uG c d).1,.int .i64 (uG c d).2]):=by
 refine Pure.of_c2 follows AJ (Nat.le_of_ble_eq_true rfl) ?_
 simp only [b50,cO,cG,cN,cM,cD,cF,cB,aF,aW]
 unfold uG
 by_cases h:d < 0
 ·have z:decide (d < 0)=true:=decide_eq_true h
  rw [if_pos h]
  (have zz:=aI @z (aI @av @an); repeat' (first|refine zW ?_|apply a_n|apply a_r|refine zO ?_|refine vY ?_|refine bxY ?_|refine cTY ?_|refine ak rfl ?_|refine r2Y ?_|fail)) <;> (try clear zz)
  exact ci (.eslsl _) rfl
 ·have z:decide (d < 0)=false:=decide_eq_false h
  rw [if_neg h]
  have hS:=jb c (d + 1) hc hs
  (have zz:=aI @z (aI @av @an); repeat' (first|refine zW ?_|apply a_n|refine zO ?_|refine vY ?_|refine cY ?_ (hp:=hS) (hs:=by (first | refine ac ?_ rfl | apply ae); (repeat' (first | exact aa | apply ao | apply af | exact bK _)); first | done | fail)|refine bxY ?_|refine cFY ?_|refine ak rfl ?_|refine r2Y ?_|fail)) <;> (try clear zz)
  exact ci (ay _).snap rfl
set_option maxHeartbeats 2000000 in
theorem wj (c:List Spx) (d:Int) (hc:c.length ≤ 50) (hs:∀ s ∈ c,Shn s):Pure Try.prog 22 [im c,.int .i64 d] (.tup [kq (nV c d).1.1 (nV c d).1.2,.int .i64 (nV c d).2]):=by
 refine Pure.of_c2 follows AO (Nat.le_of_ble_eq_true rfl) ?_
 simp only [b22,cO,cG,cN,cM,cD,cF,cB,aF,aW]
 have hcc:=m9 c (show _ ≤ _ by omega) hs
 unfold nV
 by_cases he:bo c=0
 rotate_left
 ·rw [if_pos he]
  have z:decide (bo c ≠ 0)=true:=decide_eq_true he
  (have zz:=aI @av (aI @an @z); repeat' (first|refine zW ?_|apply a_n|apply a_r|refine zO ?_|refine vY ?_|refine cY ?_ (hp:=hcc) (hs:=by (first | refine ac ?_ rfl | apply ae); (repeat' (first | exact aa | apply ao | apply af | exact bK _)); first | done | fail)|refine alY ?_|refine bxY ?_|refine stY ?_|refine cTY ?_|refine ak rfl ?_|refine r2Y ?_|fail)) <;> (try clear zz)
  exact py (.eslsl _) rfl
 rw [if_neg (fun h=>h he)]
 rw [he] at hcc
 have z0:decide ((0:Int) ≠ 0)=false:=rfl
 by_cases hd:d < 0 ∨ 8 ≤ d
 ·rw [if_pos hd]
  (have zz:=aI @av (aI @an @z0); repeat' (first|refine zW ?_|apply a_n|apply a_r|refine zO ?_|refine vY ?_|refine cY ?_ (hp:=hcc) (hs:=by (first | refine ac ?_ rfl | apply ae); (repeat' (first | exact aa | apply ao | apply af | exact bK _)); first | done | fail)|refine alY ?_|refine bxY ?_|refine stY ?_|refine gTY ?_|refine gFY ?_|refine cTY ?_|refine cFY ?_|(refine zGY ?_ ?_ <;> (intro _hg; try (exfalso; omega)))|refine ak rfl ?_|refine r2Y ?_|fail)) <;> (try clear zz)
  all_goals first | exact py (.eslsl _) rfl | (exfalso; omega)
 rw [if_neg hd]
 have hX:=xn c d (by omega) hc hs
 have hY:=xn c (d - 1) (by omega) hc hs
 rw [xe he (by omega) (by omega)] at hX hY
 rw [show d - 1 + 1=d by omega] at hY
 have hXl:=jY (d:=d + 1) hc he
 have hYl:=jY (d:=d) hc he
 have hXm:=iM (d:=d + 1) he
 have hYm:=iY (iM (d:=d) he)
 have hYa:=oo (c:=c) (d:=d)
 generalize dI c (d + 1)=X at *
 generalize dI c d=Y at *
 have z1:decide (d < 0)=false:=decide_eq_false (by omega)
 have z2:decide (8 ≤ d)=false:=decide_eq_false (by omega)
 have hzc:a5 (AV.agg [AV.esl]) Y.length=List.replicate Y.length .esl:=by simp [a5,AV.cells]
 (have zz:=aI @av (aI @an (aI @aj (aI @z0 (aI @z1 @z2)))); repeat' (first|refine zW ?_|apply a_n|refine zO ?_|refine vY ?_|refine cY ?_ (hp:=by first | exact hcc | exact hX | exact hY) (hs:=by (first | refine ac ?_ rfl | apply ae); (repeat' (first | exact aa | apply ao | apply af | exact bK _)); first | done | fail)|refine alY ?_|refine bxY ?_|refine stY ?_|refine gTY ?_|refine cFY ?_|fail)) <;> (try clear zz)
 refine xl (k1:=.i64) (k2:=.i64) (n:=Y.length) (m:=Y.length) rfl ev0 ev0 (by omega) (Int.le_refl _) (by omega) (by omega) ?_
 rw [Int.toNat_natCast,hzc,Nat.mul_one]
 (have zz:=@aj; repeat' (first|refine zW ?_|apply a_n|refine zO ?_|refine vY ?_|refine alY ?_|refine stY ?_|fail)) <;> (try clear zz)
 refine bk (X:=Nat × List AV) (fun x=>[(4,.ptr 1 2 0),(9,.ptr 2 1 0),(10,.ptr 4 2 0),(56,au X),(57,.int .i64 X.length),(58,.int .i64 x.1)]) (fun x H' nx'=>x.1 ≤ X.length∧5 ≤ nx'∧H' 1=some [.int .i64 0,.esl]∧H' 2=some [au Y]∧H' 4=some [.int .i64 X.length,.msl 3 Y.length 1 0 Y.length]∧MatOk H' 3 5 nx' Y.length (gZ X Y x.1) x.2) (fun x=>X.length - x.1) (0,List.replicate Y.length .esl) ⟨Nat.zero_le _,Nat.le_refl _,by (repeat rw [ag (by omega)]); rw [ai],by (repeat rw [ag (by omega)]); rw [ai]; rfl,by rw [ai]; rfl,MatOk.new (by (repeat rw [ag (by omega)]); rw [ai]) (fun j _=>rfl)⟩ (by (iterate 6 refine And.intro rfl ?_); trivial) ?_
 rintro ⟨k,vs⟩ H nx ⟨h1,h2,g1,g2,g4,hmat⟩
 dsimp only at h1 h2 g1 g2 g4 hmat ⊢
 by_cases hk:k < X.length
 rotate_left
 ·obtain rfl:k=X.length:=by omega
  have hst:Snap (aq H 1 [.int .i64 X.length,.msl 3 Y.length 1 0 Y.length]) (.msl 3 Y.length 1 0 Y.length) (cC (zy X Y)):=(hmat.same (hi':=nx) (G:=gZ X Y X.length) (ag (by omega)) (fun x x1 x2 x3=>ag (by omega)) (Nat.le_refl _) (fun j _=>rfl)).snap
  (have zz:=aI @g4 @g1; repeat' (first|refine zW ?_|apply a_n|apply a_x|refine zO ?_|refine vY ?_|refine stY ?_|(refine zGY ?_ ?_ <;> (intro _hg; try (exfalso; omega)))|refine ak rfl ?_|refine r2Y ?_|fail)) <;> (try clear zz)
  exact py hst rfl
 have ix:=ec hk
 have hsim:=hXm _ (aX hk)
 have hF:∀ i,gZ X Y (k + 1) i=gZ X Y k i ++ if Y.getD i default ∈ a7 (X.getD k default) then [k] else []:=fun i=>tO
 generalize X.getD k default=s at *
 obtain ⟨p1,p2,p3,p4⟩:=cz hsim
 (have zz:=@ix; repeat' (first|refine zW ?_|apply a_n|refine zO ?_|refine vY ?_|refine alY ?_|refine stY ?_|(refine zGY ?_ ?_ <;> (intro _hg; try (exfalso; omega)))|fail)) <;> (try clear zz)
 refine aS ev0 ev0 (n5 s _ _) ?_
 rintro _ H1 nx1 ⟨rfl,rfl,rfl⟩
 (have zz:=and_self; repeat' (first|refine zW ?_|apply a_n|refine zO ?_|fail)) <;> (try clear zz)
 refine jR (nx + 2) (nx + 3) rfl rfl ev0 (fun c0 cj hy=>?_)
 refine Abs.Fn.mono (nR (nx:=nx + 3) (y:=nx + 2) (sb:=nx + 1) (s:=s) (by omega) (fun D H' nx'=>nx + 3 ≤ nx'∧H' (nx + 1)=some [ax s]∧H' (nx + 2)=some [c0]∧H' nx=some [.int .i64 (k:Int)]∧H' 1=some [.int .i64 0,.esl]∧H' 2=some [au Y]∧H' 4=some [.int .i64 X.length,.msl 3 Y.length 1 0 Y.length]∧∃ vs,MatOk H' 3 5 nx' Y.length (fun i=>gZ X Y k i ++ if Y.getD i default ∈ D then [k] else []) vs∧∀ j B,j < Y.length→cH (vs.getD j .undef)=some B→B < nx ∨ nx + 3 ≤ B) ?_ ?_ ?_ ?_) ?_
 ·rintro D H' nx' ⟨j1,j2,_⟩
  exact j2
 ·rintro D H' H'' n1 n2 ⟨j1,j2,j3,j4,j5,j6,j7,vs,j8,j9⟩ hle hsm
  exact ⟨by omega,(hsm _ (by omega)).trans j2,(hsm _ (by omega)).trans j3,(hsm _ (by omega)).trans j4,(hsm _ (by omega)).trans j5,(hsm _ (by omega)).trans j6,(hsm _ (by omega)).trans j7,vs,j8.same (hsm _ (by omega)) (fun x x1 x2 x3=>hsm x x2) hle (fun _ _=>rfl),j9⟩
 ·rintro D f H' nx' ⟨j1,j2,j3,j4,j5,j6,j7,vs,j8,j9⟩ hlt hfe hDe
  refine hy _ _ _ _ j3 rfl ?_
  clear hy
  have hfm:f ∈ fcs s:=by rw [hfe]; exact aX hlt
  have hfD:f ∉ D:=fun h=>by
   rw [hDe] at h
   have hnd:=uq p3
   have e:=cR hlt
   have h5:=(List.nodup_append.1 (by rw [← e]; exact hnd.sublist (List.take_sublist _ _):((fcs s).take D.length ++ [(fcs s).getD D.length default]).Nodup)).2.2 _ h _ (List.mem_singleton.2 rfl)
   exact h5 hfe
  have hfs:=eI.1 (sS.1 hfm)
  have hfn:Shn f:=by show _ ≤ _; omega
  clear hfe hDe hlt hfm
  (have zz:=and_self; repeat' (first|apply a_n|refine zO ?_|refine vY ?_|fail)) <;> (try clear zz)
  refine ⟨j3,?_⟩
  have hd:∀ x,x ≠ nx + 2→bV H' (nx + 2) x=H' x:=fun x hx=>b8 hx
  generalize bV H' (nx + 2)=H2 at *
  have q2:=(hd 2 (by omega)).trans j6
  have q3:=(hd 3 (by omega)).trans j8.box
  have q4:=(hd 4 (by omega)).trans j7
  have qk:=(hd nx (by omega)).trans j4
  obtain ⟨p,hpl,hpm⟩:=qw Y f (show _ ≤ _ by omega) hYm hfn hYa
  by_cases hin:f ∈ Y
  rotate_left
  ·rw [decide_eq_false hin] at hpl
   (have zz:=aI @q2 (aI @av @an); repeat' (first|refine zW ?_|apply a_n|refine zO ?_|refine vY ?_|refine cY ?_ (hp:=hpl) (hs:=by (first | refine ac ?_ rfl | apply ae); (repeat' (first | exact aa | apply ao | apply af | exact ay _ | exact aA _)); first | done | fail)|refine cFY ?_|fail)) <;> (try clear zz)
   refine ⟨rfl,j1,(ag (by omega)).trans ((hd _ (by omega)).trans j2),ai,(ag (by omega)).trans qk,(ag (by omega)).trans ((hd _ (by omega)).trans j5),(ag (by omega)).trans q2,(ag (by omega)).trans q4,vs,j8.same ((ag (by omega)).trans (hd _ (by omega))) (fun x x1 x2 x3=>?_) (Nat.le_refl _) (fun j hj=>?_),j9⟩
   ·by_cases e:x=nx + 2
    ·rw [e,ai,j3]
    ·rw [ag e,hd x e]
   ·have hne:Y.getD j default ≠ f:=fun e=>hin (by rw [← e]; exact aX hj)
    congr 1
    exact rU (by rw [List.mem_append,List.mem_singleton]; exact ⟨fun h=>h.resolve_right hne,.inl⟩)
  rw [decide_eq_true hin] at hpl
  obtain ⟨pl1,pl2⟩:=hpm hin
  have hFD:gZ X Y k p ++ (if Y.getD p default ∈ D then [k] else [])=gZ X Y k p:=by rw [pl2,if_neg hfD,List.append_nil]
  have hrow:Row H2 1 (vs.getD p .undef) ((gZ X Y k p).map rq):=by
   have:=j8.row p pl1
   rw [hFD] at this
   exact this.same fun b hb=>hd b (by have:=j9 p b pl1 hb; omega)
  have hvs:vs[p]?=some (vs.getD p .undef):=by
   have:=j8.len
   simp [List.getD,show p < vs.length by omega]
  have hlen:=j8.len
  have hb3:∀ b,cH (vs.getD p .undef)=some b→5 ≤ b∧b < nx'∧b ≠ 3∧(b < nx ∨ nx + 3 ≤ b):=fun b hb=>by
   have h5:=j8.bnd p b pl1 hb
   have h6:=j9 p b pl1 hb
   exact ⟨h5.1,h5.2.1,h5.2.2,h6⟩
  generalize hrv:vs.getD p .undef=rv at *
  (have zz:=aI @q2 (aI @av @an); repeat' (first|refine zW ?_|apply a_n|refine zO ?_|refine vY ?_|refine cY ?_ (hp:=hpl) (hs:=by (first | refine ac ?_ rfl | apply ae); (repeat' (first | exact aa | apply ao | apply af | exact ay _ | exact aA _)); first | done | fail)|refine cTY ?_|fail)) <;> (try clear zz)
  refine yG 4 3 nx q4 q3 qk (by omega) (by omega) (by omega) fun S0 hS1 hS2 hS3 hsub=>?_
  have hFl:=uN (X:=X) (Y:=Y) (n:=k) (i:=p)
  (have zz:=aI @hS1 (aI @hS2 (aI @hS3 (aI @hvs @hlen))); repeat' (first|apply a_n|refine zO ?_|refine nvY ?_|fail)) <;> (try clear zz)
  refine iv ?_
  (have zz:=and_self; repeat' (first|apply a_n|refine zO ?_|refine blY ?_|fail)) <;> (try clear zz)
  refine ⟨hsub _ (by rw [ag (by omega)]; exact q4) (by rw [ag (by omega)]; exact q3) (by rw [ag (by omega)]; exact qk),?_⟩
  refine iv ?_
  refine hJ rfl ev0 (hrow.same fun b hb=>?_) ev0 dY rfl rfl Nat.one_pos (by rw [List.length_map]; omega) (by rw [List.length_map]; omega) ?_
  ·have:=hb3 b hb; rw [ag (by omega)]
  rintro s2 H4 nx4 hr2 i1 i2 i3 i4
  have lo:∀ x,x < nx'→cH rv ≠ some x→H4 x=H2 x:=fun x x1 x2=>(i3 x (by omega) x2).trans (ag (by omega))
  have l3:H4 3=H2 3:=lo 3 (by omega) (fun h=>by have:=hb3 _ h; omega)
  have l4:H4 4=H2 4:=lo 4 (by omega) (fun h=>by have:=hb3 _ h; omega)
  have lk:H4 nx=H2 nx:=lo nx (by omega) (fun h=>by have:=hb3 _ h; omega)
  have lo2:∀ x,x < nx + 3→5 ≤ x→nx ≤ x→H4 x=H2 x:=fun x x1 x2 x3=>lo x (by omega) (fun h=>by have:=hb3 _ h; omega)
  have lo5:∀ x,x < 5→H4 x=H2 x:=fun x x1=>lo x (by omega) (fun h=>by have:=hb3 _ h; omega)
  obtain ⟨o1,o2⟩:=hr2.one
  have m3:=l3.trans q3
  refine n9 ⟨hsub _ (l4.trans q4) m3 (lk.trans qk),?_⟩
  have hlp:bm vs p [s2]=vs.set p s2:=by
   simp only [bm,List.length_cons,List.length_nil,Nat.zero_add]
   rw [List.set_eq_take_append_cons_drop,if_pos (by omega)]; simp
  (have zz:=aI @m3 (aI @o1 (aI @o2 (aI @hlen @hlp))); repeat' (first|apply a_n|refine zO ?_|refine nvY ?_|apply kw|refine stY ?_|fail)) <;> (try clear zz)
  have hB2:∀ b,cH s2=some b→(cH rv=some b ∨ nx' ≤ b)∧b < nx4:=fun b hb=>by
   rcases i4 b hb with h | h
   ·exact ⟨.inl h,by have:=hb3 b h; omega⟩
   ·exact ⟨.inr (by omega),by omega⟩
  have hwd:∀ x,x ≠ 3→x ≠ nx + 2→aq (aq H4 3 (vs.set p s2)) (nx + 2) [c0] x=H4 x:=fun x x1 x2=>by rw [ag x2,ag x1]
  rw [hlp]
  refine ⟨rfl,by omega,?_,ai,?_,?_,?_,?_,vs.set p s2,?_,?_⟩
  ·rw [hwd _ (by omega) (by omega),lo2 _ (by omega) (by omega) (by omega),hd _ (by omega)]; exact j2
  ·rw [hwd _ (by omega) (by omega),lk]; exact qk
  ·rw [hwd _ (by omega) (by omega),lo5 _ (by omega),hd _ (by omega)]; exact j5
  ·rw [hwd _ (by omega) (by omega),lo5 _ (by omega)]; exact q2
  ·rw [hwd _ (by omega) (by omega),l4]; exact q4
  ·refine j8.put (sv:=s2) (x:=k) (i:=p) pl1 (fun j hj=>?_) ?_ (fun b hb=>?_) (by rw [ag (by omega),ai]) (fun x x1 x2 x3 x4=>?_) (by omega) (by omega)
   ·by_cases e:j=p
    ·subst e
     rw [if_pos rfl,pl2,if_neg hfD,if_pos (List.mem_append_right _ (List.mem_singleton.2 rfl)),List.append_nil]
    ·rw [if_neg e]
     have hne:Y.getD j default ≠ f:=fun h=>e (by
      rcases Nat.lt_trichotomy j p with h' | h' | h'
      ·have:=c9 hYa h' pl1
       rw [h,pl2,dN] at this; omega
      ·exact h'
      ·have:=c9 hYa h' hj
       rw [h,pl2,dN] at this; omega)
     congr 1
     exact rU (by rw [List.mem_append,List.mem_singleton]; exact ⟨fun h=>h.resolve_right hne,.inl⟩)
   ·rw [hFD,List.map_append]
    refine hr2.same fun b hb=>hwd b ?_ ?_
    ·have:=hB2 b hb
     rcases this.1 with h | h
     ·have:=hb3 b h; omega
     ·omega
    ·have:=hB2 b hb
     rcases this.1 with h | h
     ·have:=hb3 b h; omega
     ·omega
   ·rw [hrv]
    have:=hB2 b hb
    rcases this.1 with h | h
    ·exact .inl h
    ·exact .inr ⟨h,this.2,by omega⟩
   ·rw [hrv] at x4
    by_cases e:x=nx + 2
    ·rw [e,ai,j3]
    ·rw [hwd x x3 e,lo x x2 x4,hd x e]
  ·intro j B hj hB
   rw [kp (by omega)] at hB
   by_cases e:p=j
   ·rw [if_pos e] at hB
    have:=hB2 B hB
    rcases this.1 with h | h
    ·have:=hb3 B h; omega
    ·omega
   ·rw [if_neg e] at hB
    exact j9 j B hj hB
 ·have hlk:bm [AV.int .i64 0] 0 [.int .i64 (k:Int)]=[.int .i64 (k:Int)]:=rfl
  have hw:∀ x,x ≠ nx→x ≠ nx + 1→x ≠ nx + 2→aq (aq (aq (aq H nx [.int .i64 0]) nx (bm [.int .i64 0] 0 [.int .i64 (k:Int)])) (nx + 1) [ax s]) (nx + 2) [c0] x=H x:=fun x x1 x2 x3=>by rw [ag x3,ag x2,ag x1,ag x1]
  refine ⟨Nat.le_refl _,by rw [ag (by omega),ai],ai,by rw [ag (by omega),ag (by omega),ai]; rfl,(hw _ (by omega) (by omega) (by omega)).trans g1,(hw _ (by omega) (by omega) (by omega)).trans g2,(hw _ (by omega) (by omega) (by omega)).trans g4,vs,hmat.same (hw _ (by omega) (by omega) (by omega)) (fun x x1 x2 x3=>hw x (by omega) (by omega) (by omega)) (by omega) (fun j _=>by simp),fun j B hj hB=>by have:=hmat.bnd j B hj hB; omega⟩
 ·rintro r H' nx' ⟨j1,j2,j3,j4,j5,j6,j7,vs2,j8,j9⟩
  refine .inl ⟨j3,?_⟩
  (have zz:=and_self; repeat' (first|apply a_n|refine zO ?_|refine vY ?_|fail)) <;> (try clear zz)
  refine ⟨(k + 1,vs2),by dsimp only; omega,⟨by dsimp only; omega,by omega,(b8 (by omega)).trans j5,(b8 (by omega)).trans j6,(b8 (by omega)).trans j7,?_⟩,ag0⟩
  dsimp only
  have hrows:∀ j,j < Y.length→gZ X Y (k + 1) j=gZ X Y k j ++ if Y.getD j default ∈ fcs s then [k] else []:=fun j _=>by
   rw [hF]; congr 1; exact rU sS.symm
  exact ⟨(b8 (by omega)).trans j8.box,j8.len,fun j hj=>by rw [hrows j hj]; exact (j8.row j hj).same fun b hb=>b8 (by have:=j9 j b hj hb; omega),fun j B hj hB=>by have:=j8.bnd j B hj hB; exact this,j8.apart⟩
end Go.Proofs.Ytfcenbapjhecfaa
namespace Go.Proofs.Ytfcenbapjhecfaa
open Go Go.Abs
def rY (L a:List Spx):List Nat:=a.map fun s=>L.idxOf s
abbrev li (a:List Spx):Nat:=(a.getD 0 default).length
def wR (c a:List Spx):List Int × Int:=if bo c ≠ 0 then ([],bo c) else if bB a ≠ 0 then ([],bB a) else if a=[] then ([],0) else if (a.all fun s=>decide (s ∈ dI c (li a)))=true then (gl (rY (dI c (li a)) a),0) else ([],6)
theorem qo {l:List Nat} {n:Nat}:gl (l ++ [n])=gl l ++ [(n:Int)]:=by unfold gl; rw [List.map_append]; rfl
theorem uu {L a:List Spx} {k:Nat} (h:k < a.length):rY L (a.take (k + 1))=rY L (a.take k) ++ [L.idxOf (a.getD k default)]:=by
 unfold rY; rw [cR h,List.map_append]; rfl
theorem wK {l:List Spx} (hn:l.Nodup) {v:Spx} {k:Nat} (hk:k < l.length) (hv:l.getD k default=v):l.idxOf v=k:=by
 have hm:v ∈ l:=by rw [← hv]; exact aX hk
 have h1:=List.idxOf_lt_length_iff.2 hm
 have h2:l[l.idxOf v]=v:=List.getElem_idxOf h1
 have h3:l[k]=v:=by simpa [List.getD,hk] using hv
 exact (List.getElem_inj hn).1 (h2.trans h3.symm)
theorem mr {H:Hp} {s:AV} {l:List Int} {e f:Int} (h:Snap H s (bA l)) (he:e=f):Snap H (.tup [s,.int .i64 e]) (.tup [bA l,.int .i64 f]):=by
 subst he; exact eR (am h (am (.int _ _) aa))
attribute [local irreducible] aC ah aU aO aH aJ az aK aP bb Go.Abs.Fn aM Go.Abs.Pure ar aD Yl
theorem x9 (c a:List Spx) (hc:c.length ≤ 50) (hs:∀ s ∈ c,Shn s) (ha:ShC a):Pure Try.prog 25 [im c,au a] (.tup [bA (wR c a).1,.int .i64 (wR c a).2]):=by
 refine Pure.of_c2 follows AN (Nat.le_of_ble_eq_true rfl) ?_
 simp only [b25,cO,cG,cN,cM,cD,cF,cB,aF,aW]
 have hcc:=m9 c (show _ ≤ _ by omega) hs
 have hca:=jv a ha
 have z0:decide ((0:Int) ≠ 0)=false:=rfl
 unfold wR
 by_cases he:bo c=0
 rotate_left
 ·rw [if_pos he]
  have z:decide (bo c ≠ 0)=true:=decide_eq_true he
  (have zz:=aI @av (aI @an @z); repeat' (first|refine zW ?_|apply a_n|apply a_r|refine zO ?_|refine vY ?_|refine cY ?_ (hp:=hcc) (hs:=by (first | refine ac ?_ rfl | apply ae); (repeat' (first | exact aa | apply ao | apply af | exact bK _)); first | done | fail)|refine bxY ?_|refine cTY ?_|refine ak rfl ?_|refine r2Y ?_|fail)) <;> (try clear zz)
  exact mr (.eslsl _) rfl
 rw [if_neg (fun h=>h he)]
 rw [he] at hcc
 by_cases h2:bB a=0
 rotate_left
 ·rw [if_pos h2]
  have z:decide (bB a ≠ 0)=true:=decide_eq_true h2
  (have zz:=aI @av (aI @an (aI @z @z0)); repeat' (first|refine zW ?_|apply a_n|apply a_r|refine zO ?_|refine vY ?_|refine cY ?_ (hp:=by first | exact hcc | exact hca) (hs:=by (first | refine ac ?_ rfl | apply ae); (repeat' (first | exact aa | apply ao | apply af | exact bK _ | exact ay _)); first | done | fail)|refine bxY ?_|refine cTY ?_|refine cFY ?_|refine ak rfl ?_|refine r2Y ?_|fail)) <;> (try clear zz)
  exact mr (.eslsl _) rfl
 rw [if_neg (fun h=>h h2)]
 rw [h2] at hca
 by_cases h3:a=[]
 ·rw [if_pos h3]
  subst h3
  have al:bI (au [])=some (.int .i64 0):=rfl
  (have zz:=aI @av (aI @an (aI @al @z0)); repeat' (first|refine zW ?_|apply a_n|apply a_r|refine zO ?_|refine vY ?_|refine cY ?_ (hp:=by first | exact hcc | exact hca) (hs:=by (first | refine ac ?_ rfl | apply ae); (repeat' (first | exact aa | apply ao | apply af | exact bK _ | exact ay _)); first | done | fail)|refine bxY ?_|refine cFY ?_|(refine zGY ?_ ?_ <;> (intro _hg; try (exfalso; omega)))|refine ak rfl ?_|refine r2Y ?_|fail)) <;> (try clear zz)
  exact mr (.eslsl _) rfl
 rw [if_neg h3]
 have hpos:=List.length_pos_iff.2 h3
 have z3:decide ((a.length:Int)=0)=false:=decide_eq_false (by omega)
 obtain ⟨p1,p2,p3,p4⟩:=bR h2
 have p5:=cz (p2 _ (aX hpos))
 have i0:=ln hpos
 have hS:=jb c (li a) hc hs
 unfold dQ at hS
 rw [if_neg (fun h=>h he),if_neg (by unfold li; omega),Int.toNat_natCast] at hS
 have eL:iV c (li a)=dI c (li a):=by unfold dI; rw [if_neg (by unfold li; omega),Int.toNat_natCast]
 rw [eL] at hS
 have hLs:=iY (iM (d:=(li a:Nat)) he)
 have hLl:=jY (d:=(li a:Nat)) hc he
 have hLa:=oo (c:=c) (d:=(li a:Nat))
 generalize dI c (li a)=L at *
 unfold li at hS
 (have zz:=aI @av (aI @an (aI @aj (aI @ap (aI @i0 (aI @z0 @z3))))); repeat' (first|refine zW ?_|refine zM ?_|apply a_n|refine zO ?_|refine vY ?_|refine cY ?_ (hp:=by first | exact hcc | exact hca | exact hS) (hs:=by (first | refine ac ?_ rfl | apply ae); (repeat' (first | exact aa | apply ao | apply af | exact bK _ | exact ay _)); first | done | fail)|refine bxY ?_|refine cFY ?_|fail)) <;> (try clear zz)
 refine bk (X:=AV × Nat) (fun x=>[(8,au L),(10,x.1),(40,au a),(41,.int .i64 a.length),(42,.int .i64 x.2)]) (fun x H nx=>x.2 ≤ a.length∧(∀ i,i < x.2→decide (a.getD i default ∈ L)=true)∧Row H 1 x.1 ((gl (rY L (a.take x.2))).map (AV.int .i64))∧∀ b,cH x.1=some b→b < nx) (fun x=>a.length - x.2) (.esl,0) ⟨Nat.zero_le _,fun i h=>absurd h (by omega),Row.nil,fun b hb=>(by cases hb)⟩ ag0 ?_
 rintro ⟨sv,k⟩ H nx ⟨k1,k2,k3,k4⟩
 dsimp only at k1 k2 k3 k4 ⊢
 by_cases hk:k < a.length
 rotate_left
 ·rw [List.take_of_length_le (by omega)] at k3
  rw [if_pos (i8 fun i hi=>k2 i (by omega))]
  (have zz:=and_self; repeat' (first|refine zW ?_|apply a_n|apply a_x|refine zO ?_|refine vY ?_|(refine zGY ?_ ?_ <;> (intro _hg; try (exfalso; omega)))|refine ak rfl ?_|refine r2Y ?_|fail)) <;> (try clear zz)
  exact mr k3.snapI rfl
 have ix:=ec hk
 have hsx:=ha.2 _ (aX hk)
 obtain ⟨p,hpl,hpm⟩:=qw L (a.getD k default) (show _ ≤ _ by omega) hLs hsx hLa
 by_cases hin:a.getD k default ∈ L
 rotate_left
 ·rw [decide_eq_false hin] at hpl
  have hall:¬ (a.all fun s=>decide (s ∈ L))=true:=by
   rw [gO hk (decide_eq_false hin)]; decide
  rw [if_neg hall]
  (have zz:=@ix; repeat' (first|refine zW ?_|apply a_n|apply a_r|refine zO ?_|refine vY ?_|refine cY ?_ (hp:=hpl) (hs:=by (first | refine ac ?_ rfl | apply ae); (repeat' (first | exact aa | apply ao | apply af | exact ay _ | exact aA _)); first | done | fail)|refine cTY ?_|(refine zGY ?_ ?_ <;> (intro _hg; try (exfalso; omega)))|refine ak rfl ?_|refine r2Y ?_|fail)) <;> (try clear zz)
  exact mr (.eslsl _) rfl
 rw [decide_eq_true hin] at hpl
 obtain ⟨p1',p2'⟩:=hpm hin
 have hidx:=wK (hLa.nodup dK) p1' p2'
 have hpt:=uu (L:=L) hk
 rw [hidx] at hpt
 have hnl:(gl (rY L (a.take k))).length=k:=by unfold gl rY; rw [List.length_map,List.length_map,List.length_take]; omega
 (have zz:=@ix; repeat' (first|refine zW ?_|apply a_n|refine zO ?_|refine vY ?_|refine cY ?_ (hp:=hpl) (hs:=by (first | refine ac ?_ rfl | apply ae); (repeat' (first | exact aa | apply ao | apply af | exact ay _ | exact aA _)); first | done | fail)|refine blY ?_|refine cFY ?_|(refine zGY ?_ ?_ <;> (intro _hg; try (exfalso; omega)))|fail)) <;> (try clear zz)
 refine hJ rfl ev0 (k3.same fun b hb=>?_) ev0 dY rfl rfl Nat.one_pos (by rw [List.length_map]; omega) (by rw [List.length_map]; omega) ?_
 ·have:=k4 b hb; rw [ag (by omega)]
 rintro s2 E e hrow hle1 hle2 hsame hb2
 (have zz:=and_self; repeat' (first|apply a_n|refine zO ?_|refine vY ?_|fail)) <;> (try clear zz)
 refine ⟨(s2,k + 1),by dsimp only; omega,⟨by dsimp only; omega,fun i hi=>?_,?_,fun b hb=>?_⟩,ag0⟩
 ·rcases Nat.lt_succ_iff_lt_or_eq.1 hi with h' | rfl
  ·exact k2 i h'
  ·exact decide_eq_true hin
 ·dsimp only
  rw [hpt,qo,List.map_append]; exact hrow
 ·rcases hb2 b hb with h | h
  ·have:=k4 b h; omega
  ·omega
end Go.Proofs.Ytfcenbapjhecfaa
namespace Go.Proofs.Ytfcenbapjhecfaa
open Go Go.Abs
attribute [local irreducible] aC ah aU aO aH aJ az aK aP bb Go.Abs.Fn aM Go.Abs.Pure ar aD Yl
theorem uc (x y:List Int) (hx:x.length ≤ 1000000000) (hy:y.length ≤ 1000000000):Pure Try.prog 55 [bA x,bA y] (.bool (decide (x=y))):=by
 refine Pure.of_c2 follows Ay (Nat.le_of_ble_eq_true rfl) ?_
 simp only [b55,cO,cG,cN,cM,cD,cF,cB,aF,aW]
 by_cases hl:x.length=y.length
 rotate_left
 ·have z:decide ((x.length:Int) ≠ y.length)=true:=decide_eq_true (by omega)
  (have zz:=@z; repeat' (first|refine zW ?_|apply a_n|apply a_r|refine zO ?_|refine vZ ?_|refine cTZ ?_|refine ak rfl ?_|refine r1Z ?_|fail)) <;> (try clear zz)
  exact bn (by symm; rw [decide_eq_false_iff_not]; rintro rfl; exact hl rfl)
 have z:decide ((x.length:Int) ≠ y.length)=false:=decide_eq_false (by omega)
 (have zz:=@z; repeat' (first|refine zW ?_|apply a_n|refine zO ?_|refine vZ ?_|refine cFZ ?_|fail)) <;> (try clear zz)
 refine jq (X:=Nat) (fun k=>[(0,bA x),(1,bA y),(5,.int .i64 k)]) (fun k=>k ≤ x.length∧∀ i,i < k→x.getD i default=y.getD i default) (fun k=>x.length - k) 0 ⟨Nat.zero_le _,fun i h=>absurd h (by omega)⟩ ag0 ?_
 rintro k ⟨h1,h2⟩
 by_cases hk:k < x.length
 rotate_left
 ·(have zz:=and_self; repeat' (first|refine zW ?_|apply a_n|apply a_x|refine zO ?_|refine vZ ?_|(refine zGZ ?_ ?_ <;> (intro _hg; try (exfalso; omega)))|refine ak rfl ?_|refine r1Z ?_|fail)) <;> (try clear zz)
  refine bn ?_
  symm
  rw [decide_eq_true_eq]
  refine List.ext_getElem hl fun i a b=>?_
  have:=h2 i (by omega)
  simpa [List.getD,a,b] using this
 by_cases he:x.getD k default=y.getD k default
 ·have z2:decide (x.getD k default ≠ y.getD k default)=false:=decide_eq_false (fun h=>h he)
  (have zz:=@z2; repeat' (first|refine zW ?_|apply a_n|refine zO ?_|refine vZ ?_|refine cFZ ?_|(refine zGZ ?_ ?_ <;> (intro _hg; try (exfalso; omega)))|fail)) <;> (try clear zz)
  exact ⟨k + 1,⟨by omega,fun i hi=>by
   rcases Nat.lt_succ_iff_lt_or_eq.1 hi with h' | rfl
   ·exact h2 i h'
   ·exact he⟩,by omega,ag0,rfl,rfl⟩
 ·have z2:decide (x.getD k default ≠ y.getD k default)=true:=decide_eq_true he
  (have zz:=@z2; repeat' (first|refine zW ?_|apply a_n|apply a_r|refine zO ?_|refine vZ ?_|refine cTZ ?_|(refine zGZ ?_ ?_ <;> (intro _hg; try (exfalso; omega)))|refine ak rfl ?_|refine r1Z ?_|fail)) <;> (try clear zz)
  exact bn (by symm; rw [decide_eq_false_iff_not]; rintro rfl; exact he rfl)
theorem nQ (c:Int) (x:List (List Int)) (hx:x.length ≤ 1000000) (hxs:∀ r ∈ x,r.length ≤ 1000000):Pure Try.prog 24 [kq c x,kq c x] (.bool true):=by
 refine Pure.of_c2 follows Bb (Nat.le_of_ble_eq_true rfl) ?_
 simp only [b24,cO,cG,cN,cM,cD,cF,cB,aF,aW]
 unfold kq
 have z1:decide (c ≠ c)=false:=by simp
 have z2:decide ((x.length:Int) ≠ x.length)=false:=by simp
 (have zz:=aI @z1 @z2; repeat' (first|refine zW ?_|apply a_n|refine zO ?_|refine vY ?_|refine bxY ?_|refine gTY ?_|refine cFY ?_|fail)) <;> (try clear zz)
 refine bk (X:=Nat) (fun k=>[(2,.ptr 0 2 0),(3,.ptr 1 2 0),(5,.int .i64 k)]) (fun k H nx=>k ≤ x.length∧H 0=some [.int .i64 c,cC x]∧H 1=some [.int .i64 c,cC x]) (fun k=>x.length - k) 0 ⟨Nat.zero_le _,by rw [ag (by omega),ai],ai⟩ (by (iterate 3 refine And.intro rfl ?_); trivial) ?_
 rintro k H nx ⟨h1,g0,g1⟩
 by_cases hk:k < x.length
 rotate_left
 ·(have zz:=aI @g0 @g1; repeat' (first|refine zW ?_|apply a_n|apply a_x|refine zO ?_|refine vY ?_|(refine zGY ?_ ?_ <;> (intro _hg; try (exfalso; omega)))|refine ak rfl ?_|refine r1Y ?_|fail)) <;> (try clear zz)
  exact .bool _
 have hs:=uc (x.getD k default) (x.getD k default) (by have:=hxs _ (aX hk); omega) (by have:=hxs _ (aX hk); omega)
 rw [decide_eq_true rfl] at hs
 (have zz:=aI @g0 @g1; repeat' (first|refine zW ?_|refine zM ?_|apply a_n|refine zO ?_|refine vY ?_|refine cY ?_ (hp:=hs) (hs:=by (first | refine ac ?_ rfl | apply ae); (repeat' (first | exact aa | apply ao | apply af | exact eO _)); first | done | fail)|refine cFY ?_|(refine zGY ?_ ?_ <;> (intro _hg; try (exfalso; omega)))|fail)) <;> (try clear zz)
 exact ⟨k + 1,by omega,⟨by omega,g0,g1⟩,ag0⟩
end Go.Proofs.Ytfcenbapjhecfaa
namespace Go.Proofs.Ytfcenbapjhecfaa
open Go Go.Abs
attribute [local irreducible] aC ah aU aO aH aJ az aK aP bb Go.Abs.Fn aM Go.Abs.Pure ar aD Yl
end Go.Proofs.Ytfcenbapjhecfaa
namespace Go.Proofs.Ytfcenbapjhecfaa
open Go Go.Abs
theorem ixV {l:List Int} {k:Nat} (h:k < l.length):dE 1 (bA l) (.int .i64 (k:Int))=some (.iptr [.int .i64 (l.getD k default)] 0):=by
 rw [nM,if_pos ⟨by omega,by omega⟩,Int.toNat_natCast]
attribute [local irreducible] aC ah aU aO aH aJ az aK aP bb Go.Abs.Fn aM Go.Abs.Pure ar aD Yl
end Go.Proofs.Ytfcenbapjhecfaa
namespace Go.Proofs.Ytfcenbapjhecfaa
open Go Go.Abs
def bU (l:List Int):Spx:=l.map fun c=>⟨c,0⟩
theorem ul {l:List Int} {k:Nat} (h:k < l.length):bU (l.take (k + 1))=bU (l.take k) ++ [⟨l.getD k default,0⟩]:=by
 unfold bU; rw [cR h,List.map_append]; rfl
attribute [local irreducible] aC ah aU aO aH aJ az aK aP bb Go.Abs.Fn aM Go.Abs.Pure ar aD Yl
theorem rX (l:List Int) (hl:l.length ≤ 1000):de Try.prog 36 [bA l] (ax (bU l)):=by
 refine de.of_c2 follows Ai (Nat.le_of_ble_eq_true rfl) ?_
 simp only [b36,cO,cG,cN,cM,cD,cF,cB,aF,aW]
 (have zz:=and_self; repeat' (first|refine zW ?_|apply a_n|refine zO ?_|refine vY ?_|fail)) <;> (try clear zz)
 refine bk (X:=AV × Nat) (fun x=>[(3,x.1),(6,bA l),(7,.int .i64 l.length),(8,.int .i64 x.2)]) (fun x H nx=>x.2 ≤ l.length∧Row H 2 x.1 (cX (bU (l.take x.2)))∧∀ b,cH x.1=some b→b < nx) (fun x=>l.length - x.2) (.esl,0) ⟨Nat.zero_le _,Row.nil,fun b hb=>(by cases hb)⟩ ag0 ?_
 rintro ⟨sv,k⟩ H nx ⟨k1,k3,k4⟩
 dsimp only at k1 k3 k4 ⊢
 by_cases hk:k < l.length
 rotate_left
 ·rw [List.take_of_length_le (by omega)] at k3
  (have zz:=and_self; repeat' (first|refine zW ?_|apply a_n|apply a_x|refine zO ?_|refine vY ?_|(refine zGY ?_ ?_ <;> (intro _hg; try (exfalso; omega)))|refine ak rfl ?_|refine r1Y ?_|fail)) <;> (try clear zz)
  exact lq k3
 have ix:=ixV hk
 have hpt:=ul hk
 have hcl:(cX (bU (l.take k))).length=k * 2:=by rw [fk]; unfold bU; rw [List.length_map,List.length_take]; omega
 (have zz:=@ix; repeat' (first|refine zW ?_|apply a_n|refine zO ?_|refine vY ?_|refine blY ?_|(refine zGY ?_ ?_ <;> (intro _hg; try (exfalso; omega)))|fail)) <;> (try clear zz)
 refine hJ rfl ev0 (k3.same fun b hb=>?_) ev0 oe rfl rfl (by omega) (by omega) (by omega) ?_
 ·have:=k4 b hb; rw [ag (by omega)]
 rintro s2 E e hrow hle1 hle2 hsame hb2
 (have zz:=and_self; repeat' (first|apply a_n|refine zO ?_|refine vY ?_|fail)) <;> (try clear zz)
 refine ⟨(s2,k + 1),by dsimp only; omega,⟨by dsimp only; omega,?_,fun b hb=>?_⟩,ag0⟩
 ·dsimp only
  rw [hpt,gK]; exact hrow
 ·rcases hb2 b hb with h | h
  ·have:=k4 b h; omega
  ·omega
end Go.Proofs.Ytfcenbapjhecfaa
namespace Go.Proofs.Ytfcenbapjhecfaa
open Go Go.Abs
end Go.Proofs.Ytfcenbapjhecfaa
namespace Go.Proofs.Ytfcenbapjhecfaa
open Go Go.Abs
attribute [local irreducible] aC ah aU aO aH aJ az aK aP bb Go.Abs.Fn aM Go.Abs.Pure ar aD Yl
end Go.Proofs.Ytfcenbapjhecfaa
namespace Go.Proofs.Ytfcenbapjhecfaa
open Go Go.Abs
attribute [local irreducible] aC ah aU aO aH aJ az aK aP bb Go.Abs.Fn aM Go.Abs.Pure ar aD Yl
end Go.Proofs.Ytfcenbapjhecfaa
namespace Go.Proofs.Ytfcenbapjhecfaa
open Go Go.Abs
structure PairV where
 a:List Spx
 b:List Spx
 d:Int
attribute [local irreducible] aC ah aU aO aH aJ az aK aP bb Go.Abs.Fn aM Go.Abs.Pure ar aD Yl
end Go.Proofs.Ytfcenbapjhecfaa
namespace Go.Proofs.Ytfcenbapjhecfaa
open Go Go.Abs
end Go.Proofs.Ytfcenbapjhecfaa
namespace Go.Proofs.Ytfcenbapjhecfaa
open Go Go.Abs
attribute [local irreducible] aC ah aU aO aH aJ az aK aP bb Go.Abs.Fn aM Go.Abs.Pure ar aD Yl
theorem v5 (l m:List Int) (hl:l.length ≤ 1000000) (hm:m.length ≤ 1000000):Pure Try.prog 29 [bA l,bA m] (.bool (decide (l=m))):=by
 refine Pure.of_c2 follows Aq (Nat.le_of_ble_eq_true rfl) ?_
 simp only [b29,cO,cG,cN,cM,cD,cF,cB,aF,aW]
 (have zz:=and_self; repeat' (first|refine zW ?_|apply a_n|apply a_r|refine zO ?_|refine vZ ?_|(refine zGZ ?_ ?_ <;> (intro _hg; try (exfalso; omega)))|refine ak rfl ?_|refine r1Z ?_|fail)) <;> (try clear zz)
 ·refine bn ?_
  symm; rw [decide_eq_false_iff_not]; rintro rfl; omega
 refine jq (X:=Nat) (fun k=>[(0,bA l),(1,bA m),(12,.int .i64 l.length),(13,.int .i64 k)]) (fun k=>k ≤ l.length∧∀ i,i < k→l.getD i default=m.getD i default) (fun k=>l.length - k) 0 ⟨Nat.zero_le _,by simp⟩ ag0 ?_
 rintro k ⟨h1,h2⟩
 (have zz:=and_self; repeat' (first|refine zW ?_|apply a_n|apply a_x|apply a_r|refine zO ?_|refine vZ ?_|(refine zGZ ?_ ?_ <;> (intro _hg; try (exfalso; omega)))|refine ak rfl ?_|refine r1Z ?_|fail)) <;> (try clear zz)
 ·refine bn ?_
  symm; rw [decide_eq_false_iff_not]; rintro rfl; exact absurd rfl ‹_›
 ·refine ⟨k + 1,⟨by omega,fun i hi=>?_⟩,by omega,ag0,rfl,rfl⟩
  rcases Nat.lt_succ_iff_lt_or_eq.1 hi with h | rfl
  ·exact h2 i h
  ·omega
 ·refine bn ?_
  symm; rw [decide_eq_true_iff]
  refine List.ext_getElem (by omega) (fun i h3 h4=>?_)
  have:=h2 i (by omega)
  simpa [List.getD,h3,h4] using this
end Go.Proofs.Ytfcenbapjhecfaa
namespace Go.Proofs.Ytfcenbapjhecfaa
open Go Go.Abs
def exC:List Spx:=[bU [0,1,2],bU [2,3]]
def exA:List Spx:=[bU [0,1],bU [0,2],bU [1,2]]
def exB:List Spx:=[bU [0],bU [2]]
def exS:List Spx:=[bU [0,1],bU [2,3]]
theorem vI:de Try.prog 36 [bA [0,1,2]] (ax (bU [0,1,2])):=rX _ (by decide)
theorem lr:de Try.prog 36 [bA [0,1]] (ax (bU [0,1])):=rX _ (by decide)
theorem wN:de Try.prog 36 [bA [0,2]] (ax (bU [0,2])):=rX _ (by decide)
theorem lD:de Try.prog 36 [bA [1,2]] (ax (bU [1,2])):=rX _ (by decide)
theorem pu:de Try.prog 36 [bA [2,3]] (ax (bU [2,3])):=rX _ (by decide)
theorem yI:de Try.prog 36 [bA [0]] (ax (bU [0])):=rX _ (by decide)
theorem yA:de Try.prog 36 [bA [2]] (ax (bU [2])):=rX _ (by decide)
theorem y8:Pure Try.prog 17 [au [bU [0,1,2]]] (.tup [au exA,.int .i64 0]):=by
 have h:=gS [bU [0,1,2]] ⟨by decide,by decide⟩
 rwa [show eT [bU [0,1,2]]=(exA,0) by decide +kernel] at h
theorem zH:Pure Try.prog 17 [au [bU [0,1],bU [1,2]]] (.tup [au exB,.int .i64 0]):=by
 have h:=gS [bU [0,1],bU [1,2]] ⟨by decide,by decide⟩
 rwa [show eT [bU [0,1],bU [1,2]]=(exB,0) by decide +kernel] at h
theorem zT:Pure Try.prog 19 [au exA] (.tup [.bool true,.int .i64 0]):=by
 have h:=xp exA ⟨by decide,by decide⟩
 rwa [show ux exA=(true,0) by decide +kernel] at h
theorem A9:Pure Try.prog 12 [au [bU [0,1],bU [1,2]],au [bU [1,2],bU [2,3]]] (.tup [au exS,.int .i64 0]):=by
 have h:=fe [bU [0,1],bU [1,2]] [bU [1,2],bU [2,3]] ⟨by decide,by decide⟩ ⟨by decide,by decide⟩
 rwa [show eH [bU [0,1],bU [1,2]] [bU [1,2],bU [2,3]]=(exS,0) by decide +kernel] at h
theorem xt:Pure Try.prog 22 [im exC,.int .i64 1] (.tup [(.agg [.int .i64 4,cC [[0,1],[0,2],[1,2,3],[3]]]),.int .i64 0]):=by
 have h:=wj exC 1 (by decide) (by decide)
 rwa [show nV exC 1=((4,[[0,1],[0,2],[1,2,3],[3]]),0) by decide +kernel] at h
theorem xu:Pure Try.prog 22 [im exC,.int .i64 2] (.tup [(.agg [.int .i64 1,cC [[0],[0],[0],[]]]),.int .i64 0]):=by
 have h:=wj exC 2 (by decide) (by decide)
 rwa [show nV exC 2=((1,[[0],[0],[0],[]]),0) by decide +kernel] at h
theorem yT:Pure Try.prog 25 [im exC,au exS] (.tup [bA [0,3],.int .i64 0]):=by
 have h:=x9 exC exS (by decide) (by decide) ⟨by decide,by decide⟩
 rwa [show wR exC exS=([0,3],0) by decide +kernel] at h
theorem gR (l:List Spx) (h:ShC l):Pure Try.prog 16 [au l,au l] (.bool true):=by
 have:=tt l l h.1 h.1 h.2 h.2
 rwa [decide_eq_true rfl] at this
theorem yz {H:Hp} {b c:Nat} {cs:List AV} {x y:AV} (h1:H b=some cs) (h2:H c=some [x]) (hne:c ≠ b) (hs:Snap (only b cs) x y):Fz (only b cs) H (only c [y]) where
 sub:=iO h1
 to:=fun a cs' h=>by
  unfold only at h
  split at h
  ·rename_i e
   cases h
   refine ⟨[x],by rw [e]; exact h2,?_,rfl,fun i u v hu hv=>?_⟩
   ·unfold only; rw [if_neg (by rw [e]; exact hne)]
   ·match i with
    | 0=>simp at hu hv; subst hu; subst hv; exact .inr hs
    | i + 1=>simp at hu
  ·cases h
theorem fR {H:Hp} {b n:Nat} {l:List Spx} (h:H b=some (l.map ax)) (hn:n=l.length):Snap H (.msl b n 1 0 n) (au l):=by
 subst hn
 have:=Row.box (H:=H) (sz:=1) b l.length (l.map ax) h (by simp)
 rw [Nat.mul_one] at this
 exact gI this
theorem pQ {H:Hp} {b n:Nat} {cs:List AV} {l:List (List Int)} (hb:H b=some cs) (hn:cs.length=n) (h:aD H cs (l.map bA)):Snap H (.msl b n 1 0 n) (cC l):=by
 have hl:=h.1
 refine ja (l:=l.map bA) hb hn (by omega) (by omega) (fun y hy=>?_) (fun i a c ha hc=>?_)
 ·obtain ⟨z,_,rfl⟩:=List.mem_map.1 hy; rfl
 ·rw [Nat.zero_add] at ha
  exact h.2 i a c ha hc
theorem z9 {g:FuncId} {r:AV} {l:List Spx} (hp:Pure Try.prog g [au l] r) {H:Hp} {b nx c n:Nat} {cs:List AV} (h1:H b=some (l.map ax)) (hn:n=l.length) (h2:H c=some cs) (hne:c ≠ b):Abs.Fn Try.prog g [.msl b n 1 0 n] H nx fun r' H' nx'=>r'=r∧H'=only c cs∧nx'=nx :=
 Fn.of_pureZ hp (Hf:=only b (l.map ax)) (H':=only c cs) (iO h1) (fun a cs' h=>by
  unfold only at h
  split at h
  ·rename_i e; cases h; subst e
   exact ⟨h2,by unfold only; rw [if_neg hne]⟩
  ·cases h) (am (fR lC hn) aa) ⟨rfl,rfl,rfl⟩
theorem Bg {g:FuncId} {r:AV} {l m:List Spx} (hp:Pure Try.prog g [au l,au m] r) {H:Hp} {b d nx c n k:Nat} {cs:List AV} (h1:H b=some (l.map ax)) (hn:n=l.length) (h3:H d=some (m.map ax)) (hk:k=m.length) (hbd:d ≠ b) (h2:H c=some cs) (hne:c ≠ b) (hne2:c ≠ d):Abs.Fn Try.prog g [.msl b n 1 0 n,.msl d k 1 0 k] H nx fun r' H' nx'=>r'=r∧H'=only c cs∧nx'=nx :=
 Fn.of_pureZ hp (Hf:=on2 b (l.map ax) d (m.map ax)) (H':=only c cs) (oS h1 h3) (fun a cs' h=>by
  unfold only at h
  split at h
  ·rename_i e; cases h; subst e
   exact ⟨h2,by unfold on2; rw [if_neg hne,if_neg hne2]⟩
  ·cases h) (am (fR xx hn) (am (fR (xz hbd) hk) aa)) ⟨rfl,rfl,rfl⟩
theorem yW:Pure Try.prog 29 [bA [0,3],bA [0,3]] (.bool true):=by
 have:=v5 [0,3] [0,3] (by decide) (by decide)
 rwa [decide_eq_true rfl] at this
attribute [local irreducible] aC ah aU aO aH aJ az aK aP bb Go.Abs.Fn aM Go.Abs.Pure ar aD Yl
set_option maxHeartbeats 2000000 in
theorem fW:Pure Try.prog 11 [] (.bool true):=by
 refine Pure.of_c2 follows AG (Nat.le_of_ble_eq_true rfl) ?_
 simp only [b11,cO,cG,cN,cM,cD,cF,cB,aF,aW]
 have h3:only 3 [au exC] 3=some [au exC]:=lC
 (have zz:=aI @h3 (aI @aB (aI @aw (aI @av @an))); repeat' (first|refine zW ?_|apply a_n|refine zO ?_|refine vZ ?_|refine blZ ?_|fail)) <;> (try clear zz)
 refine bT ev0 ev0 vI (am (bh (n:=3) (len:=3) (l:=[0,1,2]) (by exact rfl) rfl rfl) aa) ?_
 (have zz:=aI @h3 (aI @aB (aI @aw (aI @av @an))); repeat' (first|apply a_n|refine zO ?_|refine blZ ?_|fail)) <;> (try clear zz)
 refine bT ev0 ev0 pu (am (bh (n:=2) (len:=2) (l:=[2,3]) (by exact rfl) rfl rfl) aa) ?_
 (have zz:=aI @h3 (aI @aB (aI @aw (aI @av @an))); repeat' (first|apply a_n|refine zO ?_|refine vZ ?_|refine alZ ?_|refine stZ ?_|refine blZ ?_|fail)) <;> (try clear zz)
 refine fX ?_
 refine sU (only 2 [ax (bU [0,1,2]),ax (bU [2,3])]) (only 3 [au exC]) [(1,.ptr 3 1 0)] (yz (x:=.msl 2 2 1 0 2) rfl rfl (by decide) (fR (l:=exC) rfl rfl)) ⟨.inl rfl,trivial⟩ ?_
 (have zz:=aI @h3 (aI @aB (aI @aw (aI @av @an))); repeat' (first|apply a_n|refine zO ?_|refine blZ ?_|fail)) <;> (try clear zz)
 refine bT ev0 ev0 vI (am (bh (n:=3) (len:=3) (l:=[0,1,2]) (by exact rfl) rfl rfl) aa) ?_
 (have zz:=aI @h3 (aI @aB (aI @aw (aI @av @an))); repeat' (first|apply a_n|refine zO ?_|refine blZ ?_|fail)) <;> (try clear zz)
 refine aS ev0 ev0 (z9 y8 (b:=5) (c:=3) (cs:=[au exC]) (by exact rfl) (by exact rfl) (by exact rfl) (by decide)) ?_
 rintro _ _ _ ⟨rfl,rfl,rfl⟩
 (have zz:=aI @h3 (aI @aB (aI @aw (aI @av @an))); repeat' (first|refine zW ?_|apply a_n|refine zO ?_|refine vZ ?_|refine cZ ?_ (hp:=by first | exact zT | exact xt | exact xu | exact yT) (hs:=by (first | refine ac ?_ rfl | apply ae); (repeat' (first | exact aa | apply ao | apply af | exact ay _ | exact bK _)); first | done | fail)|refine blZ ?_|fail)) <;> (try clear zz)
 refine bT ev0 ev0 lr (am (bh (n:=2) (len:=2) (l:=[0,1]) (by exact rfl) rfl rfl) aa) ?_
 (have zz:=aI @h3 (aI @aB (aI @aw (aI @av @an))); repeat' (first|apply a_n|refine zO ?_|refine blZ ?_|fail)) <;> (try clear zz)
 refine bT ev0 ev0 lD (am (bh (n:=2) (len:=2) (l:=[1,2]) (by exact rfl) rfl rfl) aa) ?_
 (have zz:=aI @h3 (aI @aB (aI @aw (aI @av @an))); repeat' (first|apply a_n|refine zO ?_|refine blZ ?_|fail)) <;> (try clear zz)
 refine aS ev0 ev0 (z9 zH (b:=8) (c:=3) (cs:=[au exC]) (by exact rfl) (by exact rfl) (by exact rfl) (by decide)) ?_
 rintro _ _ _ ⟨rfl,rfl,rfl⟩
 (have zz:=aI @h3 (aI @aB (aI @aw (aI @av @an))); repeat' (first|refine zW ?_|apply a_n|refine zO ?_|refine vZ ?_|refine blZ ?_|fail)) <;> (try clear zz)
 refine bT ev0 ev0 lr (am (bh (n:=2) (len:=2) (l:=[0,1]) (by exact rfl) rfl rfl) aa) ?_
 (have zz:=aI @h3 (aI @aB (aI @aw (aI @av @an))); repeat' (first|apply a_n|refine zO ?_|refine blZ ?_|fail)) <;> (try clear zz)
 refine bT ev0 ev0 lD (am (bh (n:=2) (len:=2) (l:=[1,2]) (by exact rfl) rfl rfl) aa) ?_
 (have zz:=aI @h3 (aI @aB (aI @aw (aI @av @an))); repeat' (first|apply a_n|refine zO ?_|refine blZ ?_|fail)) <;> (try clear zz)
 refine bT ev0 ev0 lD (am (bh (n:=2) (len:=2) (l:=[1,2]) (by exact rfl) rfl rfl) aa) ?_
 (have zz:=aI @h3 (aI @aB (aI @aw (aI @av @an))); repeat' (first|apply a_n|refine zO ?_|refine blZ ?_|fail)) <;> (try clear zz)
 refine bT ev0 ev0 pu (am (bh (n:=2) (len:=2) (l:=[2,3]) (by exact rfl) rfl rfl) aa) ?_
 (have zz:=aI @h3 (aI @aB (aI @aw (aI @av @an))); repeat' (first|apply a_n|refine zO ?_|refine blZ ?_|fail)) <;> (try clear zz)
 refine aS ev0 ev0 (Bg A9 (b:=11) (d:=14) (c:=3) (cs:=[au exC]) (by exact rfl) (by exact rfl) (by exact rfl) (by exact rfl) (by decide) (by exact rfl) (by decide) (by decide)) ?_
 rintro _ _ _ ⟨rfl,rfl,rfl⟩
 (have zz:=aI @h3 (aI @aB (aI @aw (aI @av @an))); repeat' (first|refine zW ?_|apply a_n|refine zO ?_|refine vZ ?_|refine blZ ?_|refine gTZ ?_|(refine zGZ ?_ ?_ <;> (intro _hg; try (exfalso; omega)))|fail)) <;> (try clear zz)
 refine bT ev0 ev0 lr (am (bh (n:=2) (len:=2) (l:=[0,1]) (by exact rfl) rfl rfl) aa) ?_
 (have zz:=aI @h3 (aI @aB (aI @aw (aI @av @an))); repeat' (first|apply a_n|refine zO ?_|refine blZ ?_|refine gTZ ?_|fail)) <;> (try clear zz)
 refine bT ev0 ev0 wN (am (bh (n:=2) (len:=2) (l:=[0,2]) (by exact rfl) rfl rfl) aa) ?_
 (have zz:=aI @h3 (aI @aB (aI @aw (aI @av @an))); repeat' (first|apply a_n|refine zO ?_|refine blZ ?_|refine gTZ ?_|fail)) <;> (try clear zz)
 refine bT ev0 ev0 lD (am (bh (n:=2) (len:=2) (l:=[1,2]) (by exact rfl) rfl rfl) aa) ?_
 (have zz:=aI @h3 (aI @aB (aI @aw (aI @av @an))); repeat' (first|apply a_n|refine zO ?_|refine blZ ?_|refine gTZ ?_|fail)) <;> (try clear zz)
 refine bJ ev0 ev0 (gR exA ⟨by decide,by decide⟩) (ac (am (ay _ _) (am (fR (b:=18) (n:=3) (by exact rfl) (by exact rfl)) aa)) rfl) ?_
 (have zz:=aI @h3 (aI @aB (aI @aw (aI @av @an))); repeat' (first|apply a_n|refine zO ?_|refine vZ ?_|refine blZ ?_|refine gTZ ?_|fail)) <;> (try clear zz)
 refine bT ev0 ev0 yI (am (bh (n:=1) (len:=1) (l:=[0]) (by exact rfl) rfl rfl) aa) ?_
 (have zz:=aI @h3 (aI @aB (aI @aw (aI @av @an))); repeat' (first|apply a_n|refine zO ?_|refine blZ ?_|refine gTZ ?_|fail)) <;> (try clear zz)
 refine bT ev0 ev0 yA (am (bh (n:=1) (len:=1) (l:=[2]) (by exact rfl) rfl rfl) aa) ?_
 (have zz:=aI @h3 (aI @aB (aI @aw (aI @av @an))); repeat' (first|apply a_n|refine zO ?_|refine blZ ?_|refine gTZ ?_|fail)) <;> (try clear zz)
 refine bJ ev0 ev0 (gR exB ⟨by decide,by decide⟩) (ac (am (ay _ _) (am (fR (b:=21) (n:=2) (by exact rfl) (by exact rfl)) aa)) rfl) ?_
 (have zz:=aI @h3 (aI @aB (aI @aw (aI @av @an))); repeat' (first|apply a_n|refine zO ?_|refine vZ ?_|refine blZ ?_|refine gTZ ?_|fail)) <;> (try clear zz)
 refine bT ev0 ev0 lr (am (bh (n:=2) (len:=2) (l:=[0,1]) (by exact rfl) rfl rfl) aa) ?_
 (have zz:=aI @h3 (aI @aB (aI @aw (aI @av @an))); repeat' (first|apply a_n|refine zO ?_|refine blZ ?_|refine gTZ ?_|fail)) <;> (try clear zz)
 refine bT ev0 ev0 pu (am (bh (n:=2) (len:=2) (l:=[2,3]) (by exact rfl) rfl rfl) aa) ?_
 (have zz:=aI @h3 (aI @aB (aI @aw (aI @av @an))); repeat' (first|apply a_n|refine zO ?_|refine blZ ?_|refine gTZ ?_|fail)) <;> (try clear zz)
 refine bJ ev0 ev0 (gR exS ⟨by decide,by decide⟩) (ac (am (ay _ _) (am (fR (b:=24) (n:=2) (by exact rfl) (by exact rfl)) aa)) rfl) ?_
 (have zz:=aI @h3 (aI @aB (aI @aw (aI @av @an))); repeat' (first|refine zW ?_|apply a_n|refine zO ?_|refine vZ ?_|refine cZ ?_ (hp:=by first | exact zT | exact xt | exact xu | exact yT) (hs:=by (first | refine ac ?_ rfl | apply ae); (repeat' (first | exact aa | apply ao | apply af | exact ay _ | exact bK _)); first | done | fail)|refine alZ ?_|refine stZ ?_|refine blZ ?_|refine gTZ ?_|(refine zGZ ?_ ?_ <;> (intro _hg; try (exfalso; omega)))|refine cFZ ?_|fail)) <;> (try clear zz)
 refine bJ ev0 ev0 (nQ 4 [[0,1],[0,2],[1,2,3],[3]] (by decide) (by decide)) (ac (am ((show Dat (.agg [.int .i64 4,cC [[0,1],[0,2],[1,2,3],[3]]]) from nb 4 [[0,1],[0,2],[1,2,3],[3]]) _) (am (nj (am (.int _ _) (am (pQ (b:=31) (n:=4) (cs:=[.msl 27 2 1 0 2,.msl 28 2 1 0 2,.msl 29 3 1 0 3,.msl 30 1 1 0 1]) (by exact rfl) (by exact rfl) (am (bh (b:=27) (n:=2) (len:=2) (l:=[0,1]) (by exact rfl) rfl rfl) (am (bh (b:=28) (n:=2) (len:=2) (l:=[0,2]) (by exact rfl) rfl rfl) (am (bh (b:=29) (n:=3) (len:=3) (l:=[1,2,3]) (by exact rfl) rfl rfl) (am (bh (b:=30) (n:=1) (len:=1) (l:=[3]) (by exact rfl) rfl rfl) aa))))) aa))) aa)) rfl) ?_
 (have zz:=aI @h3 (aI @aB (aI @aw (aI @av @an))); repeat' (first|apply a_n|refine zO ?_|refine vZ ?_|refine blZ ?_|refine gTZ ?_|fail)) <;> (try clear zz)
 refine bJ ev0 ev0 (nQ 1 [[0],[0],[0],[]] (by decide) (by decide)) (ac (am ((show Dat (.agg [.int .i64 1,cC [[0],[0],[0],[]]]) from nb 1 [[0],[0],[0],[]]) _) (am (nj (am (.int _ _) (am (pQ (b:=35) (n:=4) (cs:=[.msl 32 1 1 0 1,.msl 33 1 1 0 1,.msl 34 1 1 0 1,.esl]) (by exact rfl) (by exact rfl) (am (bh (b:=32) (n:=1) (len:=1) (l:=[0]) (by exact rfl) rfl rfl) (am (bh (b:=33) (n:=1) (len:=1) (l:=[0]) (by exact rfl) rfl rfl) (am (bh (b:=34) (n:=1) (len:=1) (l:=[0]) (by exact rfl) rfl rfl) (am (.eslsl 1) aa))))) aa))) aa)) rfl) ?_
 (have zz:=aI @h3 (aI @aB (aI @aw (aI @av @an))); repeat' (first|apply a_n|refine zO ?_|refine vZ ?_|refine blZ ?_|refine gTZ ?_|fail)) <;> (try clear zz)
 refine bJ ev0 ev0 yW (ac (am (eO _ _) (am (bh (b:=36) (n:=2) (len:=2) (l:=[0,3]) (by exact rfl) rfl rfl) aa)) rfl) ?_
 (have zz:=aI @h3 (aI @aB (aI @aw (aI @av @an))); repeat' (first|apply a_n|refine zO ?_|refine vZ ?_|refine ak rfl ?_|refine r1Z ?_|fail)) <;> (try clear zz)
 exact .bool _
end Go.Proofs.Ytfcenbapjhecfaa
namespace Go.Proofs.Ytfcenbapjhecfaa
open Go Go.Abs
theorem tG {a:List Spx} (h:a.length ≤ 1000000) (hs:∀ s ∈ a,be s=0):ShC a:=⟨show _ ≤ _ by omega,iY hs⟩
attribute [local irreducible] aC ah aU aO aH aJ az aK aP bb Go.Abs.Fn aM Go.Abs.Pure ar aD Yl
end Go.Proofs.Ytfcenbapjhecfaa
namespace Go.Proofs.Ytfcenbapjhecfaa
open Go Go.Abs
theorem rR {s:Spx}:(a7 s).length ≤ s.length:=by
 rw [← iU.length_eq]
 unfold fcs; split
 ·exact Nat.zero_le _
 ·rw [lw]; exact Nat.le_refl _
theorem mj:∀ (a o:List Spx),(∀ s ∈ a,s.length ≤ 8)→(fx a o).length ≤ o.length + a.length * 8
 | [],o,_=>Nat.le_add_right _ _
 | s :: a,o,h=>by
  have h1:=mj a (bz aN o (a7 s)) fun t ht=>h t (List.mem_cons_of_mem _ ht)
  have h2:=fK (K:=aN) (a:=o) (b:=a7 s)
  have h3:=rR (s:=s)
  have h4:=h s List.mem_cons_self
  show (fx a (bz aN o (a7 s))).length ≤ _
  rw [List.length_cons]; omega
theorem fP {a:List Spx} (h:∀ s ∈ a,s.length ≤ 8):(bq a).length ≤ a.length * 8:=by
 have:=mj a [] h
 rw [List.length_nil,Nat.zero_add] at this
 exact this
def iQ (a b:List Spx):Prop:=¬ (0 < a.length∧0 < b.length∧(a.getD 0 default).length ≠ (b.getD 0 default).length)
theorem wn {a b:List Spx} (h:(eH a b).2=0):bB a=0∧bB b=0∧iQ a b∧eH a b=(bz aN a b,0):=by
 unfold eH at h ⊢
 split at h
 ·exact absurd h ‹_›
 split at h
 ·exact absurd h ‹_›
 split at h
 ·exact absurd h (by decide)
 split at h
 ·exact absurd h (by decide)
 ·rename_i h1 h2 h3 h4
  exact ⟨Decidable.of_not_not h1,Decidable.of_not_not h2,h3,by rw [if_neg h1,if_neg h2,if_neg h3,if_neg h4]⟩
theorem fL {a b:List Spx} (h1:bB a=0) (h2:bB b=0) (h3:iQ a b) (h4:a.length + b.length ≤ 4096):eH a b=(bz aN a b,0):=by
 have:=fK (K:=aN) (a:=a) (b:=b)
 unfold eH
 rw [if_neg (fun h=>h h1),if_neg (fun h=>h h2),if_neg h3,if_neg (by omega)]
theorem qK {a b:List Spx} (ha:bB a=0) (hb:bB b=0) (h:iQ a b):∃ n,(∀ s ∈ a,s.length=n)∧∀ s ∈ b,s.length=n:=by
 obtain ⟨p1,p2,p3,p4⟩:=bR ha
 obtain ⟨q1,q2,q3,q4⟩:=bR hb
 by_cases h1:a=[]
 ·subst h1; exact ⟨_,fun s hs=>(by cases hs),q4⟩
 by_cases h2:b=[]
 ·subst h2; exact ⟨_,p4,fun s hs=>(by cases hs)⟩
 have e1:=List.length_pos_iff.2 h1
 have e2:=List.length_pos_iff.2 h2
 refine ⟨_,p4,fun s hs=>?_⟩
 rw [q4 s hs]
 refine Decidable.byContradiction fun e=>h ⟨e1,e2,fun e3=>e e3.symm⟩
theorem ws {a b:List Spx} {n:Nat} (h1:∀ s ∈ a,s.length=n) (h2:∀ s ∈ b,s.length=n):iQ a b:=fun ⟨e1,e2,e3⟩=>e3 (by rw [h1 _ (aX e1),h2 _ (aX e2)])
theorem l7 {a b:List Spx} (ha:bB a=0) (hb:bB b=0) (h:iQ a b) (hl:a.length + b.length ≤ 4096):bB (bz aN a b)=0:=by
 obtain ⟨n,h1,h2⟩:=qK ha hb h
 obtain ⟨p1,p2,p3,p4⟩:=bR ha
 obtain ⟨q1,q2,q3,q4⟩:=bR hb
 have:=fK (K:=aN) (a:=a) (b:=b)
 exact sg (n:=n) (by omega) (pD ha hb) (cS dK p3 q3) (lL p3 q3 _ h1 h2)
theorem ke {a:List Spx} (ha:bB a=0) (hl:a.length ≤ 500):bB (bq a)=0:=by
 obtain ⟨p1,p2,p3,p4⟩:=bR ha
 have:=fP (mC p2)
 exact sg (by omega) (nU p2) (dU (c7 p2)) (kj (c7 p2) p4)
theorem gW {a:List Spx} (ha:bB a=0) (hl:a.length ≤ 500):eT a=(bq a,0):=by
 have:=fP (mC (bR ha).2.1)
 unfold eT
 rw [if_neg (fun h=>h ha),if_neg (by omega)]
theorem Ak (a b c:List Spx) (ha:ShC a) (hb:ShC b) (hc:ShC c):Pure Try.prog 10 [dp [a,b,c]] (.bool (fv a && (fv b && fv c))):=by
 have:=wJ [a,b,c] (show _ ≤ _ by simp) (fun x hx=>by
  rcases List.mem_cons.1 hx with rfl | hx
  ·exact ha
  ·rcases List.mem_cons.1 hx with rfl | hx
   ·exact hb
   ·rw [List.mem_singleton.1 hx]; exact hc)
 rwa [show [a,b,c].all fv=(fv a && (fv b && fv c)) by simp] at this
theorem rZ {H:Hp} {b:Nat} {x y z:List Spx} (h:H b=some [au x,au y,au z]):aD H [.msl b 3 1 0 3] [dp [x,y,z]] :=
 am (jF (l:=[au x,au y,au z]) h rfl rfl (by
  intro w hw
  simp only [List.mem_cons,List.not_mem_nil,or_false] at hw
  rcases hw with rfl | rfl | rfl
  ·exact ⟨rfl,ay _⟩
  ·exact ⟨rfl,ay _⟩
  ·exact ⟨rfl,ay _⟩)) aa
theorem qf {a b c:List Spx} (h1:bB a=0) (h2:bB b=0) (h3:bB c=0) (c1:iQ a b) (c2:iQ b c) (c3:iQ a c) (la:a.length ≤ 40) (lb:b.length ≤ 40) (lc:c.length ≤ 40) :
    ∃ ab bc x da db dab:List Spx,eH a b=(ab,0)∧eH b c=(bc,0)∧eH b a=(ab,0)∧eH ab c=(x,0)∧eH a bc=(x,0)∧eH a a=([],0)∧eT a=(da,0)∧eT b=(db,0)∧eH da db=(dab,0)∧eT ab=(dab,0)∧ux dab=(true,0)∧eT da=([],0)∧ShC ab∧ShC bc∧ShC x∧ShC da∧ShC db∧ShC dab:=by
 obtain ⟨p1,p2,p3,p4⟩:=bR h1
 obtain ⟨q1,q2,q3,q4⟩:=bR h2
 obtain ⟨r1,r2,r3,r4⟩:=bR h3
 have cba:iQ b a:=fun h=>c1 ⟨h.2.1,h.1,fun e=>h.2.2 e.symm⟩
 have caa:iQ a a:=fun h=>h.2.2 rfl
 have lab:=fK (K:=aN) (a:=a) (b:=b)
 have lbc:=fK (K:=aN) (a:=b) (b:=c)
 have hab:=l7 h1 h2 c1 (by omega)
 have hbc:=l7 h2 h3 c2 (by omega)
 have asab:=cS dK p3 q3
 have asbc:=cS dK q3 r3
 have cabc:iQ (bz aN a b) c:=fun ⟨e1,e2,e3⟩=>by
  rcases (di dK p3 q3).1 (aX e1) with ⟨g1,_⟩ | ⟨g1,_⟩
  ·exact c3 ⟨List.length_pos_iff.2 (fun e=>by rw [e] at g1; cases g1),e2,by rw [← p4 _ g1]; exact e3⟩
  ·exact c2 ⟨List.length_pos_iff.2 (fun e=>by rw [e] at g1; cases g1),e2,by rw [← q4 _ g1]; exact e3⟩
 have cabc2:iQ a (bz aN b c):=fun ⟨e1,e2,e3⟩=>by
  rcases (di dK q3 r3).1 (aX e2) with ⟨g1,_⟩ | ⟨g1,_⟩
  ·exact c1 ⟨e1,List.length_pos_iff.2 (fun e=>by rw [e] at g1; cases g1),by rw [← q4 _ g1]; exact e3⟩
  ·exact c3 ⟨e1,List.length_pos_iff.2 (fun e=>by rw [e] at g1; cases g1),by rw [← r4 _ g1]; exact e3⟩
 have la8:=fP (mC p2)
 have lb8:=fP (mC q2)
 have hda:=ke h1 (by omega)
 have hdb:=ke h2 (by omega)
 obtain ⟨n,n1,n2⟩:=qK h1 h2 c1
 have cd:iQ (bq a) (bq b):=ws (kj (c7 p2) n1) (kj (c7 q2) n2)
 have hdab:=ke hab (by omega)
 have hlin:=uU p3 q3 (c7 p2) (c7 q2)
 have sh:∀ {l:List Spx},bB l=0→ShC l:=fun h=>tG (by have:=(bR h).1; omega) (bR h).2.1
 have hx:=l7 hab h3 cabc (by omega)
 refine ⟨bz aN a b,bz aN b c,bz aN (bz aN a b) c,bq a,bq b,bq (bz aN a b),fL h1 h2 c1 (by omega),fL h2 h3 c2 (by omega),?_,fL hab h3 cabc (by omega),?_,?_,gW h1 (by omega),gW h2 (by omega),?_,gW hab (by omega),?_,?_,sh hab,sh hbc,sh hx,sh hda,sh hdb,sh hdab⟩
 ·rw [fL h2 h1 cba (by omega),uW dK q3 p3]
 ·rw [fL h1 hbc cabc2 (by omega),tx dK p3 q3 r3]
 ·rw [fL h1 h1 caa (by omega),uR dK p3]
 ·rw [fL hda hdb cd (by omega),hlin]
 ·unfold ux
  rw [if_neg (fun h=>h hdab),og (c7 (pD h1 h2))]
  rfl
 ·rw [gW hda (by omega),og (c7 p2)]
attribute [local irreducible] aC ah aU aO aH aJ az aK aP bb Go.Abs.Fn aM Go.Abs.Pure ar aD Yl
set_option maxHeartbeats 2000000 in
theorem uA (a b c:List Spx) (ha:ShC a) (hb:ShC b) (hc:ShC c):Pure Try.prog 6 [au a,au b,au c] (.bool true):=by
 refine Pure.of_c2 follows is6 (Nat.le_of_ble_eq_true rfl) ?_
 simp only [b6,cO,cG,cN,cM,cD,cF,cB,aF,aW]
 have f1:=Ak a b c ha hb hc
 (have zz:=aI @av @an; repeat' (first|refine zW ?_|apply a_n|refine zO ?_|refine vY ?_|refine blY ?_|fail)) <;> (try clear zz)
 refine bJ ev0 ev0 f1 (ac (rZ (by rw [ai])) rfl) ?_
 cases hfew:fv a && (fv b && fv c)
 ·(have zz:=and_self; repeat' (first|refine zW ?_|apply a_n|apply a_r|refine zO ?_|refine vY ?_|refine cY ?_ (hp:=fW) (hs:=by (first | refine ac ?_ rfl | apply ae); (repeat' (first | exact aa | apply ao | apply af | exact ay _)); first | done | fail)|refine cTY ?_|refine ak rfl ?_|refine r1Y ?_|fail)) <;> (try clear zz)
  exact .bool _
 have s1:=fe a b ha hb
 have s2:=fe b c hb hc
 have s3:=wM c hc
 have z0:decide ((0:Int) ≠ 0)=false:=rfl
 by_cases g1:(eH a b).2=0
 rotate_left
 ·have z:decide ((eH a b).2 ≠ 0)=true:=decide_eq_true g1
  generalize eH a b=P at *
  obtain ⟨p,e⟩:=P
  generalize eH b c=Q at *
  obtain ⟨q,f⟩:=Q
  dsimp only at s1 s2 z
  (have zz:=@z; repeat' (first|refine zW ?_|refine zM ?_|apply a_n|apply a_r|refine zO ?_|refine vY ?_|refine cY ?_ (hp:=by first | exact s1 | exact s2 | exact s3 | exact fW) (hs:=by (first | refine ac ?_ rfl | apply ae); (repeat' (first | exact aa | apply ao | apply af | exact ay _)); first | done | fail)|refine gFY ?_|refine cTY ?_|refine cFY ?_|refine ak rfl ?_|refine r1Y ?_|fail)) <;> (try clear zz)
  exact .bool _
 obtain ⟨h1,h2,c1,e1⟩:=wn g1
 by_cases g2:(eH b c).2=0
 rotate_left
 ·have z:decide ((eH b c).2 ≠ 0)=true:=decide_eq_true g2
  rw [e1] at s1
  generalize eH b c=Q at *
  obtain ⟨q,f⟩:=Q
  dsimp only at s1 s2 z
  (have zz:=aI @z @z0; repeat' (first|refine zW ?_|refine zM ?_|apply a_n|apply a_r|refine zO ?_|refine vY ?_|refine cY ?_ (hp:=by first | exact s1 | exact s2 | exact s3 | exact fW) (hs:=by (first | refine ac ?_ rfl | apply ae); (repeat' (first | exact aa | apply ao | apply af | exact ay _)); first | done | fail)|refine gTY ?_|refine gFY ?_|refine cTY ?_|refine cFY ?_|refine ak rfl ?_|refine r1Y ?_|fail)) <;> (try clear zz)
  exact .bool _
 obtain ⟨_,h3,c2,e2⟩:=wn g2
 rw [h3] at s3
 rw [Bool.and_eq_true,Bool.and_eq_true] at hfew
 have la:=np hfew.1 h1
 have lb:=np hfew.2.1 h2
 have lc:=np hfew.2.2 h3
 by_cases c3:iQ a c
 rotate_left
 ·have c3:=Decidable.of_not_not c3
  have i1:=ln c3.1
  have i2:=ln c3.2.1
  have z1:decide ((0:Int) < a.length)=true:=decide_eq_true (by omega)
  have z2:decide ((0:Int) < c.length)=true:=decide_eq_true (by omega)
  have z3:decide (((a.getD 0 default).length:Int) ≠ (c.getD 0 default).length)=true:=decide_eq_true (by omega)
  rw [e1] at s1
  rw [e2] at s2
  dsimp only at s1 s2
  generalize bz aN a b=M at *
  generalize bz aN b c=N at *
  (have zz:=aI @z0 (aI @z1 (aI @z2 (aI @z3 (aI @i1 (aI @i2 (aI @aj @ap)))))); repeat' (first|refine zW ?_|refine zM ?_|apply a_n|apply a_r|refine zO ?_|refine vY ?_|refine cY ?_ (hp:=by first | exact s1 | exact s2 | exact s3 | exact fW) (hs:=by (first | refine ac ?_ rfl | apply ae); (repeat' (first | exact aa | apply ao | apply af | exact ay _)); first | done | fail)|refine gTY ?_|refine cTY ?_|refine cFY ?_|refine ak rfl ?_|refine r1Y ?_|fail)) <;> (try clear zz)
  exact .bool _
 obtain ⟨ab,bc,x,da,db,dab,k1,k2,k3,k4,k5,k6,k7,k8,k9,k10,k11,k12,m1,m2,m3,m4,m5,m6⟩:=qf h1 h2 h3 c1 c2 c3 la lb lc
 rw [k1] at s1
 rw [k2] at s2
 have t1:=fe b a hb ha
 have t2:=fe ab c m1 hc
 have t3:=fe a bc ha m2
 have t4:=fe a a ha ha
 have t5:=gS a ha
 have t6:=gS b hb
 have t7:=fe da db m4 m5
 have t8:=gS ab m1
 have t9:=xp dab m6
 have t10:=gS da m4
 rw [k3] at t1
 rw [k4] at t2
 rw [k5] at t3
 rw [k6] at t4
 rw [k7] at t5
 rw [k8] at t6
 rw [k9] at t7
 rw [k10] at t8
 rw [k11] at t9
 rw [k12] at t10
 dsimp only at s1 s2 t1 t2 t3 t4 t5 t6 t7 t8 t9 t10
 have u1:=gR ab m1
 have u2:=gR x m3
 have u3:=gR dab m6
 have al:bI (au [])=some (.int .i64 0):=rfl
 clear k1 k2 k3 k4 k5 k6 k7 k8 k9 k10 k11 k12 e1 e2 g1 g2
 by_cases ya:0 < a.length
 ·have z1:decide ((0:Int) < a.length)=true:=decide_eq_true (by omega)
  by_cases yc:0 < c.length
  ·have z2:decide ((0:Int) < c.length)=true:=decide_eq_true (by omega)
   have i1:=ln ya
   have i2:=ln yc
   have z3:decide (((a.getD 0 default).length:Int) ≠ (c.getD 0 default).length)=false:=decide_eq_false fun e=>c3 ⟨ya,yc,by omega⟩
   (have zz:=aI @z0 (aI @z1 (aI @z2 (aI @z3 (aI @i1 (aI @i2 (aI @al (aI @aj @ap))))))); repeat' (first|refine zW ?_|refine zM ?_|apply a_n|refine zO ?_|refine vY ?_|refine cY ?_ (hp:=by first | exact s1 | exact s2 | exact s3 | exact t1 | exact t2 | exact t3 | exact t4 | exact t5 | exact t6 | exact t7 | exact t8 | exact t9 | exact t10 | exact u1 | exact u2 | exact u3 | exact fW) (hs:=by (first | refine ac ?_ rfl | apply ae); (repeat' (first | exact aa | apply ao | apply af | exact ay _)); first | done | fail)|refine gTY ?_|refine cFY ?_|(refine zGY ?_ ?_ <;> (intro _hg; try (exfalso; omega)))|refine ak rfl ?_|refine r1Y ?_|fail)) <;> (try clear zz)
   exact .bool _
  ·have z2:decide ((0:Int) < c.length)=false:=decide_eq_false (by omega)
   (have zz:=aI @z0 (aI @z1 (aI @z2 (aI @al (aI @aj @ap)))); repeat' (first|refine zW ?_|refine zM ?_|apply a_n|refine zO ?_|refine vY ?_|refine cY ?_ (hp:=by first | exact s1 | exact s2 | exact s3 | exact t1 | exact t2 | exact t3 | exact t4 | exact t5 | exact t6 | exact t7 | exact t8 | exact t9 | exact t10 | exact u1 | exact u2 | exact u3 | exact fW) (hs:=by (first | refine ac ?_ rfl | apply ae); (repeat' (first | exact aa | apply ao | apply af | exact ay _)); first | done | fail)|refine gTY ?_|refine gFY ?_|refine cFY ?_|(refine zGY ?_ ?_ <;> (intro _hg; try (exfalso; omega)))|refine ak rfl ?_|refine r1Y ?_|fail)) <;> (try clear zz)
   exact .bool _
 ·have z1:decide ((0:Int) < a.length)=false:=decide_eq_false (by omega)
  (have zz:=aI @z0 (aI @z1 (aI @al (aI @aj @ap))); repeat' (first|refine zW ?_|refine zM ?_|apply a_n|refine zO ?_|refine vY ?_|refine cY ?_ (hp:=by first | exact s1 | exact s2 | exact s3 | exact t1 | exact t2 | exact t3 | exact t4 | exact t5 | exact t6 | exact t7 | exact t8 | exact t9 | exact t10 | exact u1 | exact u2 | exact u3 | exact fW) (hs:=by (first | refine ac ?_ rfl | apply ae); (repeat' (first | exact aa | apply ao | apply af | exact ay _)); first | done | fail)|refine gTY ?_|refine gFY ?_|refine cFY ?_|(refine zGY ?_ ?_ <;> (intro _hg; try (exfalso; omega)))|refine ak rfl ?_|refine r1Y ?_|fail)) <;> (try clear zz)
  exact .bool _
end Go.Proofs.Ytfcenbapjhecfaa
namespace Go.Proofs.Ytfcenbapjhecfaa
open Go Go.Abs
open Nat (reduceEqDiff reduceAdd reduceLeDiff)
attribute [local irreducible] aC ah aU aO aH aJ az aK aP bb Go.Abs.Fn aM Go.Abs.Pure ar aD Yl
end Go.Proofs.Ytfcenbapjhecfaa
namespace Go.Proofs.Ytfcenbapjhecfaa
open Go Go.Abs
attribute [local irreducible] aC ah aU aO aH aJ az aK aP bb Go.Abs.Fn aM Go.Abs.Pure ar aD Yl
end Go.Proofs.Ytfcenbapjhecfaa
namespace Go.Proofs.Ytfcenbapjhecfaa
open Go Go.Abs
attribute [local irreducible] aC ah aU aO aH aJ az aK aP bb Go.Abs.Fn aM Go.Abs.Pure ar aD Yl
end Go.Proofs.Ytfcenbapjhecfaa
namespace Go.Proofs.Ytfcenbapjhecfaa
open Go Go.Abs
attribute [local irreducible] aC ah aU aO aH aJ az aK aP bb Go.Abs.Fn aM Go.Abs.Pure ar aD Yl
end Go.Proofs.Ytfcenbapjhecfaa
namespace Go.Proofs.Ytfcenbapjhecfaa
open Go Go.Abs
attribute [local irreducible] aC ah aU aO aH aJ az aK aP bb Go.Abs.Fn aM Go.Abs.Pure ar aD Yl
end Go.Proofs.Ytfcenbapjhecfaa
namespace Go.Proofs.Ytfcenbapjhecfaa
open Go Go.Abs
def zn (l:List Int):Prop:=l.Pairwise (· < ·)
end Go.Proofs.Ytfcenbapjhecfaa
namespace Go.Proofs.Ytfcenbapjhecfaa
open Go Go.Abs
theorem zn.nodup {l:List Int} (h:zn l):l.Nodup:=List.Pairwise.imp (fun {x y} (h:x < y) e=>by omega) h
end Go.Proofs.Ytfcenbapjhecfaa
namespace Go.Proofs.Ytfcenbapjhecfaa
open Go Go.Abs
attribute [local irreducible] aC ah aU aO aH aJ az aK aP bb Go.Abs.Fn aM Go.Abs.Pure ar aD Yl
end Go.Proofs.Ytfcenbapjhecfaa
namespace Go.Proofs.Ytfcenbapjhecfaa
open Go Go.Abs
attribute [local irreducible] aC ah aU aO aH aJ az aK aP bb Go.Abs.Fn aM Go.Abs.Pure ar aD Yl
end Go.Proofs.Ytfcenbapjhecfaa
namespace Go.Proofs.Ytfcenbapjhecfaa
open Go Go.Abs
attribute [local irreducible] aC ah aU aO aH aJ az aK aP bb Go.Abs.Fn aM Go.Abs.Pure ar aD Yl
end Go.Proofs.Ytfcenbapjhecfaa
namespace Go.Proofs.Ytfcenbapjhecfaa
open Go Go.Abs Go.RowKit
section
variable {H:Type} {enc:TypeId × Value→H} {W:World}
theorem oi:dx enc Try.prog W 3 (AV.int .i64) (fun n=>(Lit.int .i64 n).wf=true):=uv Try.underlying3
set_option maxRecDepth 100000 in
theorem An:dx enc Try.prog W 101 bO (fun _=>True) :=
 (oK Try.underlying101 (by kernel_rfl) (kW (off:=0) (off':=1) rfl (by kernel_rfl) oi (kW (off:=1) (off':=2) rfl (by kernel_rfl) oi sc))).map
  (fun a=>(⟨a.1,a.2.1⟩:Vtx)) (fun _ _=>trivial) (fun _ _=>rfl)
theorem oXs:dx enc Try.prog W 52 ax Shn :=
 (kO Try.underlying52 (sz:=2) (by_:=16) (by kernel_rfl) (by kernel_rfl) (by omega) (fun _=>rfl) An).mono fun l h=>by have:=h.2.2; show _ ≤ _; omega
theorem x5:dx enc Try.prog W 22 au (fun l=>Shn l∧∀ x ∈ l,Shn x) :=
 (kO Try.underlying22 (sz:=1) (by_:=24) (by kernel_rfl) (by kernel_rfl) Nat.one_pos (fun _=>rfl) oXs).mono fun l h=>⟨by have:=h.2.2; show _ ≤ _; omega,h.1⟩
end
theorem lG {f:FuncId} {xs:List AV} {vs:List Value} (h:Go.Abs.Pure Try.prog f xs (.bool true)) (w:World) (hv:bM (E0 (pj w)) w xs vs) :
    Calls Try.prog f vs.toArray w fun e w'=>e=.returned (.bool true)∧Below w.heap.size w w':=by
 refine (h.2 (pj w) w vs (fun _ h=>h) hv).mono ?_
 rintro e w' ⟨v,imm',rfl,hb,_,_,_,hr⟩
 cases hr
 exact ⟨rfl,hb⟩
theorem Ag:laidOutB Try.prog=true:=by kernel_rfl
end Go.Proofs.Ytfcenbapjhecfaa
namespace Go.Proofs.Ytfcenbapjhecfaa
open Go Go.Abs Go.RowKit
section
variable {H:Type} {enc:TypeId × Value→H} {W:World}
end
end Go.Proofs.Ytfcenbapjhecfaa
namespace Go.Proofs.Ytfcenbapjhecfaa
open Go Go.Abs Go.RowKit Go.ChangeShapes Go.WideShapes Go.ChangeAt
theorem nt {H:Type} {enc:TypeId × Value→H} {P:Program} {f:Func} {s:ChangeSpec} {apart fresh handsOn again:Bool} {W W':World} {args:Array Value} {v:Value} {ds gs:List (DataW H)} {before pa pv:List MemPlace}
    (hW:DataW.Whole enc P f.params.toList s.vars apart W args.toList ds gs before)
    (hres:∀ (b:Nat) (sp:Nat→Bool) (hd:Bool),DataW.TrodAll enc P W' b sp hd f.resultTypes.toList (v.resultList f.resultTypes.size) (s.fn H (ds ++ gs)).results [])
    (hargs:∀ sp:Nat→Bool,(∀ p ∈ before,sp p.block=true)→DataW.TrodAll enc P W' 0 sp true f.params.toList args.toList (s.fn H (ds ++ gs)).args pa)
    (hvars:∀ sp:Nat→Bool,(∀ p ∈ before,sp p.block=true)→DataW.TrodVars enc P W' sp s.vars (s.fn H (ds ++ gs)).vars pv)
    (hps:before=pa ++ pv) (hb:Below W.heap.size W W')
    (hok:∀ (j:Nat) (t:TypeId) (r:Value),f.resultTypes[j]?=some t→(v.resultList f.resultTypes.size)[j]?=some r→Value.okWide P W' .any 0 t r) :
    s.post enc P f apart fresh handsOn again W args v W':=by
 have hold:∀ p ∈ before,(fun b=>decide (b < W.heap.size)) p.block=true:=fun p hp=>by simpa using hW.lt p hp
 have hlt:=fun p hp=>hW.lt p hp
 refine ⟨ds,gs,before,[],pa,pv,hW,hres _ _ _,hargs _ hold,hvars _ hold,World.keptBut_mono (fun p hp=>⟨hp,?_⟩) (hb.frame _),fun _=>?_⟩
 ·rw [hps,List.mem_append] at hp
  exact Or.inr hp
 ·obtain ⟨_,_,_,_,_,hz,hn⟩:=hW
  refine ⟨hok,_,_,([] ++ pa) ++ pv,⟨[] ++ pa,pv,trodAll_append (hargs _ (fun _ _=>rfl)) (hres _ _ _),hvars _ (fun _ _=>rfl),rfl,?_,?_⟩,?_⟩
  ·intro b off hp
   have hp':MemPlace.cell b off ∈ before:=by rw [hps]; simpa using hp
   rw [hb.frozen (hlt _ hp')]
   exact hz b off hp'
  ·intro ha
   have:=hn ha
   rw [hps] at this
   simpa using this
  ·intro p hp _
   rw [hps]
   simpa using hp
theorem uS {E:Env} {w:World}:bM E w [] []:=⟨rfl,fun i x y h=>(by cases h)⟩
theorem ko {E:Env} {w:World} {x:AV} {y:Value} {xs:List AV} {ys:List Value} (h:Rel E w x y) (hs:bM E w xs ys):bM E w (x :: xs) (y :: ys):=by
 refine ⟨by simp [hs.1],fun i a b ha hb=>?_⟩
 cases i with
 | zero=>simp at ha hb; subst ha hb; exact h
 | succ i=>simp at ha hb; exact hs.2 i a b ha hb
theorem own:ownKnob Try.prog.godebug=none:=by kernel_rfl
end Go.Proofs.Ytfcenbapjhecfaa