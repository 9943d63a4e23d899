/- Texts of this claim, one after the other: U13p, T106, T109, T110, T111, T112, T113, T107, T114, T115, T116, T117, T119, T124, T125, T120, T123, T126, T127, T128, T129, T130, T131, T132, T134, T160, T161, T200, T135, T136, T137, T138, T170, T151, T139, T140, T141, T142, T171, T143, T163, T164, A33, T122, T133, T162, T165, T190, T172, T173, T146, T174, T175, T176, T177, T144, T147, T166, T167, T201, T202, T203, T148, T179, T178, T180, A17, T204, T205, T118, T149, T208, T121. -/
import Derived.Test.YtpfkjcjgdilkkaaGreatXG5
import Derived.Test.YtpfkjcjgdilkkaaGreatXG4
import Derived.Test.YtpfkjcjgdilkkaaGreatXG3
import Derived.Test.YtpfkjcjgdilkkaaGreatRows
import Derived.WalkKit
import Derived.ProofKit
import Derived.OpenShut

set_option linter.unusedSimpArgs false
set_option linter.unusedVariables false
namespace Go.Proofs.YtpfkjcjgdilkkaaGreat
open Go Go.Abs
open Nat (reduceEqDiff reduceAdd reduceLeDiff)
section
variable {α:Type} [Inhabited α] {f:α→AV} {K:α→α→Int} {G:α→Prop} {g:Nat} {caps:List AV}
attribute [local irreducible] aD ah aX aP aH aK az aL aR be Go.Abs.Fn aO Go.Abs.Pure ar aE Yl
theorem zd {H:Hp} {nx:Nat}:Abs.Fn Tryz.prog 112 [.esl,.int .i64 0,.int .i64 0,.func g caps] H nx fun r H' nx'=>nx'=nx∧H'=H:=by
 refine Abs.Fn.of_c2 follows uZ (Nat.le_of_ble_eq_true rfl) ?_
 simp only [wM,cO,cG,cN,cM,cD,cF,cB,ax,aN]
 (have zz:=and_self; repeat' (first|refine zW ?_|apply a_n|refine zO ?_|refine vZ ?_|fail)) <;> (try clear zz)
 refine aS (X:=Unit) (fun x=>[(0,.esl),(1,.int .i64 0),(2,.int .i64 0),(3,.func g caps),(8,.int .i64 1)]) (fun x H' nx'=>H'=H∧nx'=nx) (fun x=>0) () ⟨rfl,rfl⟩ (by simp (disch:=omega) only [agr,ZG,reduceEqDiff,↓reduceIte,Int.zero_add,true_and]) ?_
 rintro _ _ _ ⟨rfl,rfl⟩
 (have zz:=and_self; repeat' (first|refine zW ?_|apply a_n|apply a_x|refine zO ?_|refine vZ ?_|(refine zGZ ?_ ?_ <;> (intro _hg; try (exfalso; omega)))|refine af rfl ?_|fail)) <;> (try clear zz)
 exact ⟨rfl,rfl⟩
theorem yD {H:Hp} {nx:Nat}:Abs.Fn Tryz.prog 103 [.esl,.int .i64 0,.int .i64 0,.int .i64 0,.func g caps] H nx fun r H' nx'=>nx'=nx∧H'=H:=by
 refine Abs.Fn.of_c2 follows uJ (Nat.le_of_ble_eq_true rfl) ?_
 simp only [wJ,cO,cG,cN,cM,cD,cF,cB,ax,aN]
 (have zz:=and_self; repeat' (first|refine zW ?_|apply a_n|refine zO ?_|refine vZ ?_|fail)) <;> (try clear zz)
 refine aS (X:=Unit) (fun x=>[(0,.esl),(1,.int .i64 0),(2,.int .i64 0),(3,.int .i64 0),(4,.func g caps)]) (fun x H' nx'=>H'=H∧nx'=nx) (fun x=>0) () ⟨rfl,rfl⟩ ag0 ?_
 rintro _ _ _ ⟨rfl,rfl⟩
 (have zz:=and_self; repeat' (first|refine zW ?_|apply a_n|refine zO ?_|refine vZ ?_|(refine zGZ ?_ ?_ <;> (intro _hg; try (exfalso; omega)))|fail)) <;> (try clear zz)
 refine ay ev0 ev0 zd ?_
 rintro _ _ _ ⟨rfl,rfl⟩
 (have zz:=and_self; repeat' (first|apply a_n|apply a_r|refine zO ?_|refine af rfl ?_|fail)) <;> (try clear zz)
 exact ⟨rfl,rfl⟩
theorem uR {H:Hp} {nx:Nat}:Abs.Fn Tryz.prog 69 [.esl,.func g caps] H nx fun r H' nx'=>nx'=nx∧H'=H:=by
 refine Abs.Fn.of_c2 follows zu (Nat.le_of_ble_eq_true rfl) ?_
 simp only [b69,cO,cG,cN,cM,cD,cF,cB,ax,aN]
 have w8:IntKind.wrap .u64 0=0:=by decide
 (have zz:=@w8; repeat' (first|refine zW ?_|apply a_n|refine zO ?_|refine vZ ?_|fail)) <;> (try clear zz)
 refine ay ev0 (have zz:=@w8; evZ) xp ?_
 rintro _ _ _ ⟨rfl,rfl,rfl⟩
 (have zz:=and_self; repeat' (first|apply a_n|refine zO ?_|refine vZ ?_|fail)) <;> (try clear zz)
 refine ay ev0 ev0 yD ?_
 rintro _ _ _ ⟨rfl,rfl⟩
 (have zz:=and_self; repeat' (first|apply a_n|refine zO ?_|refine af rfl ?_|fail)) <;> (try clear zz)
 exact ⟨rfl,rfl⟩
theorem rZ (hc:Cmp2 Tryz.prog f K G g caps) {L:List α} {H:Hp} {b nx n:Nat} (hH:H b=some (L.c2 f)) (hbx:b < nx) (hn:L.length=n) (hn0:0 < n) (hG:∀ x ∈ L,G x) (hn2:n ≤ 1000000000) :
    Abs.Fn Tryz.prog 69 [.msl b (n * 2) 2 0 n,.func g caps] H nx fun r H' nx'=>∃ L',PS H H' nx nx' b (L'.c2 f)∧L'.Perm L∧aM K 0 n L':=by
 refine Abs.Fn.of_c2 follows zu (Nat.le_of_ble_eq_true rfl) ?_
 simp only [b69,cO,cG,cN,cM,cD,cF,cB,ax,aN]
 have w:IntKind.wrap .u64 (n:Int)=n:=eF (by omega) (by omega)
 (have zz:=@w; repeat' (first|refine zW ?_|apply a_n|refine zO ?_|refine vZ ?_|fail)) <;> (try clear zz)
 refine ay ev0 (have zz:=@w; evZ) (v6 hn0 (by omega)) ?_
 rintro _ _ _ ⟨rfl,rfl,k,rfl,h3,h4⟩
 have hk:k ≤ 62:=by
  rcases Nat.lt_or_ge 62 k with h | h
  ·have:=Nat.pow_le_pow_right (n:=2) (by omega) h
   omega
  ·exact h
 (have zz:=and_self; repeat' (first|apply a_n|refine zO ?_|refine vZ ?_|fail)) <;> (try clear zz)
 refine ay ev0 (have zz:=@Int.natCast_zero; evZ) (AG hc hn2 (n + 1) 0 n k L _ _ (by omega) hH hbx hn hG (by omega) (Nat.le_refl _) (by omega) (fun q h=>by omega)) ?_
 rintro _ _ _ ⟨N,hps,hp,hs⟩
 (have zz:=and_self; repeat' (first|apply a_n|refine zO ?_|refine af rfl ?_|fail)) <;> (try clear zz)
 exact ⟨N,hps,hp.perm,hs⟩
end
end Go.Proofs.YtpfkjcjgdilkkaaGreat
namespace Go.Proofs.YtpfkjcjgdilkkaaGreat
open Go Go.Abs
open Nat (reduceEqDiff reduceAdd reduceLeDiff)
theorem pn:∀ (l:Spx) (k:Nat),(cX l).drop (k * 2)=cX (l.drop k)
 | [],k=>by simp [cX]
 | a :: l,0=>by simp
 | a :: l,k + 1=>by
  show (ke a ++ cX l).drop _=cX (l.drop k)
  rw [show (k + 1) * 2=(ke a).length + k * 2 by show _=2 + _; omega,List.drop_append,List.drop_eq_nil_of_le (Nat.le_add_right _ _),List.nil_append,Nat.add_sub_cancel_left,pn l k]
theorem li:∀ (l:Spx) (k:Nat),(cX l).take (k * 2)=cX (l.take k)
 | [],k=>by simp [cX]
 | a :: l,0=>by simp [cX]
 | a :: l,k + 1=>by
  show (ke a ++ cX l).take _=ke a ++ cX (l.take k)
  rw [List.take_append,List.take_of_length_le (by show 2 ≤ _; omega),show (k + 1) * 2 - (ke a).length=k * 2 by show _ - 2=_; omega,li l k]
theorem rdX {l:Spx} {k:Nat} (hk:k < l.length):((cX l).drop (k * 2)).take 2=[.int .i64 (l.getD k default).color,.int .i64 (l.getD k default).label]:=by
 rw [pn,eN hk]; rfl
theorem AX {l:Spx} {k:Nat} {w:Vtx} (hk:k < l.length):bi (cX l) (k * 2) [.int .i64 w.color,.int .i64 w.label]=cX (l.set k w):=by
 simp only [bi,List.length_cons,List.length_nil]
 rw [show k * 2 + (0 + 1 + 1)=(k + 1) * 2 by omega,pn,li,List.set_eq_take_append_cons_drop,if_pos hk]
 simp only [cX,List.flatMap_append,List.flatMap_cons,List.append_assoc]
 rfl
theorem lj {c:Prop} [Decidable c] {g:List AV→AV} {x:List AV}:Option.map g (if c then some x else none)=if c then some (g x) else none:=by
 split <;> rfl
theorem tA {L:Spx} {h:Nat} {x:Vtx} (hh:h < L.length):(L.set h x).take (h + 1)=L.take h ++ [x]:=by
 rw [ce (by simpa using hh),List.take_set_of_le (Nat.le_refl h)]
 simp [List.getD,hh]
theorem mf {B n len k:Nat} (h:k < len) (hn:n ≠ 0):gd 2 (.msl B n 2 0 len) (some (.int .i64 k)) none none=some (.msl B n 2 (k * 2) (len - k)):=by
 simp only [gd,ba,Int.natCast_nonneg,if_true,Int.toNat_natCast]
 rw [if_pos ⟨trivial,by omega,Nat.le_refl _,hn⟩,if_pos (.inr h),Nat.zero_add]
theorem ma {B n len k:Nat} (h:k ≤ len) (hn:n ≠ 0):gd 2 (.msl B n 2 0 len) none (some (.int .i64 k)) none=some (.msl B n 2 0 k):=by
 simp only [gd,ba,Int.natCast_nonneg,if_true,Int.toNat_natCast]
 rw [if_pos ⟨trivial,by omega,h,hn⟩,if_pos (.inl trivial),Nat.zero_mul,Nat.sub_zero]
theorem sX {H:Hp} {B:Nat} {cs:List AV} (hH:H B=some cs):H=aj H B cs:=by
 funext b
 by_cases e:b=B
 ·subst e; rw [ai]; exact hH
 ·rw [al e]
attribute [local irreducible] aD ah aX aP aH aK az aL aR be Go.Abs.Fn aO Go.Abs.Pure ar aE Yl
set_option maxHeartbeats 1000000 in
theorem lM (l:Spx) (hl:Shn l) (h0:l ≠ []) (H:Hp) (B nx:Nat) (hH:H B=some (cX l)) (hB:B < nx) :
    Abs.Fn Tryz.prog 71 [.msl B (l.length * 2) 2 0 l.length] H nx fun r H' nx'=>r=.msl B (l.length * 2) 2 0 (bq l l.length)∧(∃ C,H'=aj H B C∧C.length=l.length * 2∧C.take (bq l l.length * 2)=cX (cL l l.length))∧nx'=nx:=by
 refine Abs.Fn.of_c2 follows yx (Nat.le_of_ble_eq_true rfl) ?_
 simp only [b71,cO,cG,cN,cM,cD,cF,cB,ax,aN]
 have hl':l.length ≤ 17592186044416:=hl
 have hpos:=List.length_pos_iff.2 h0
 have hid:=sX hH
 (have zz:=and_self; repeat' (first|refine zW ?_|apply a_n|apply a_r|refine zO ?_|refine vZ ?_|(refine zGZ ?_ ?_ <;> (intro _hg; try (exfalso; omega)))|refine af rfl ?_|refine r1Z ?_|fail)) <;> (try clear zz)
 ·have e1:l.length=1:=by omega
  have e2:cL l l.length=l:=by
   match l,e1 with
   | [a],_=>rfl
  refine ⟨?_,⟨_,hid,dZ l,?_⟩,rfl⟩
  ·rw [show bq l l.length=l.length by rw [e1]; rfl]
  ·rw [e2,show bq l l.length=l.length by rw [e1]; rfl,List.take_of_length_le (by rw [dZ]; omega)]
 refine aS (X:=Nat) (fun k=>[(0,.msl B (l.length * 2) 2 0 l.length),(3,.int .i64 k)]) (fun k H' nx'=>H'=H∧nx'=nx∧1 ≤ k∧k ≤ l.length∧bq l k=k∧cL l k=l.take k) (fun k=>l.length - k) 1 ⟨rfl,rfl,Nat.le_refl _,hpos,rfl,by match l,h0 with | a :: r,_=>rfl⟩ ag0 ?_
 rintro k H' nx' ⟨rfl,rfl,k1,k2,k3,k4⟩
 have hcl:=dZ l
 by_cases hk:k < l.length
 ·have tk:(k:Int) - 1=(k - 1:Nat):=by omega
  have q1:=rdX hk
  have q2:=rdX (l:=l) (k:=k - 1) (by omega)
  have hd:=f6 (l.getD k default) (l.getD (k - 1) default)
  by_cases he:l.getD k default=l.getD (k - 1) default
  ·have hs:=mf (B:=B) (n:=l.length * 2) hk (by omega)
   rw [decide_eq_true he] at hd
   (have zz:=aI @tk (aI @hH (aI @Int.toNat_natCast (aI @hcl (aI @q1 (aI @q2 (aI @lj (aI @acq (aI @hd @hs)))))))); repeat' (first|refine zW ?_|apply a_n|refine zO ?_|refine vZ ?_|refine cTZ ?_|(refine zGZ ?_ ?_ <;> (intro _hg; try (exfalso; omega)))|fail)) <;> (try clear zz)
   refine aS (X:=Nat × Spx) (fun x=>[(0,.msl B (l.length * 2) 2 0 l.length),(3,.int .i64 (bq l (k + x.1):Nat)),(4,.msl B (l.length * 2) 2 (k * 2) (l.length - k)),(5,.int .i64 x.1)]) (fun x H2 nx2=>x.2.length=l.length∧1 ≤ x.1∧k + x.1 ≤ l.length∧bq l (k + x.1) + 1 ≤ k + x.1∧H2=aj H' B (cX x.2)∧nx2=nx'∧(∀ p,k + x.1 ≤ p + 1→x.2.getD p default=l.getD p default)∧x.2.take (bq l (k + x.1))=cL l (k + x.1)) (fun x=>l.length - x.1) (1,l)
    ⟨rfl,Nat.le_refl _,hk,by dsimp only; rw [dg (by omega) he]; omega,hid,rfl,fun _ _=>rfl,by dsimp only; rw [dg (by omega) he,fW (by omega) he,k3,k4]⟩ (by simp (disch:=omega) only [agr,ZG,reduceEqDiff,↓reduceIte,dg (show k ≠ 0 by omega) he,k3]) ?_
   rintro ⟨j,L⟩ H2 nx2 ⟨a1,a2,a3,a4,rfl,rfl,a5,a6⟩
   dsimp only at a1 a2 a3 a4 a5 a6 ⊢
   have hcL:(cX L).length=l.length * 2:=by rw [dZ,a1]
   by_cases hj:k + j < l.length
   ·have tj:(j:Int) - 1=(j - 1:Nat):=by omega
    have r1:=a5 (k + j) (by omega)
    have r2:=a5 (k + (j - 1)) (by omega)
    have s1:=rdX (l:=L) (k:=k + j) (by omega)
    have s2:=rdX (l:=L) (k:=k + (j - 1)) (by omega)
    rw [r1] at s1
    rw [r2] at s2
    rw [Nat.add_mul] at s1 s2
    have hd2:=f6 (l.getD (k + j) default) (l.getD (k + (j - 1)) default)
    by_cases hd:l.getD (k + j) default=l.getD (k + (j - 1)) default
    ·have hq:bq l (k + (j + 1))=bq l (k + j):=dg (l:=l) (k:=k + j) (by omega) (by rw [hd,show k + j - 1=k + (j - 1) by omega])
     rw [decide_eq_true hd] at hd2
     (have zz:=aI @tj (aI @Int.toNat_natCast (aI @hcL (aI @s1 (aI @s2 (aI @lj (aI @acn @hd2)))))); repeat' (first|refine zW ?_|apply a_n|refine zO ?_|refine vZ ?_|refine cFZ ?_|(refine zGZ ?_ ?_ <;> (intro _hg; try (exfalso; omega)))|fail)) <;> (try clear zz)
     refine ⟨(j + 1,L),by dsimp only; omega,⟨a1,by dsimp only; omega,by dsimp only; omega,?_,rfl,rfl,fun p hp=>a5 p (by dsimp only at hp; omega),by dsimp only; rw [hq,show k + (j + 1)=k + j + 1 from rfl,fW (by omega) (by rw [hd,show k + j - 1=k + (j - 1) by omega])]; exact a6⟩,(have zz:=@hq; agZ)⟩
     dsimp only
     rw [hq]
     omega
    ·have hq:bq l (k + (j + 1))=bq l (k + j) + 1:=fR (l:=l) (k:=k + j) (by rw [show k + j - 1=k + (j - 1) by omega]; exact hd)
     have hlm:=AX (l:=L) (k:=bq l (k + j)) (w:=l.getD (k + j) default) (by omega)
     rw [decide_eq_false hd] at hd2
     have hle:bq l (k + j) * 2 + 2 ≤ l.length * 2:=by omega
     (have zz:=aI @tj (aI @Int.toNat_natCast (aI @hcL (aI @s1 (aI @s2 (aI @lj (aI @acn @hd2)))))); repeat' (first|refine zW ?_|apply a_n|refine zO ?_|refine vZ ?_|refine stZ ?_|refine cTZ ?_|(refine zGZ ?_ ?_ <;> (intro _hg; try (exfalso; omega)))|fail)) <;> (try clear zz)
     refine ⟨(j + 1,L.set (bq l (k + j)) (l.getD (k + j) default)),by dsimp only; omega,⟨by simp [a1],by dsimp only; omega,by dsimp only; omega,?_,?_,rfl,fun p hp=>?_,by dsimp only; rw [hq,tA (by omega),a6,show k + (j + 1)=k + j + 1 from rfl,f7 (by rw [show k + j - 1=k + (j - 1) by omega]; exact hd)]⟩,(have zz:=@hq; agZ)⟩
     ·dsimp only
      rw [hq]
      omega
     ·dsimp only
      rw [an,hlm]
     ·dsimp only at hp ⊢
      rw [List.getD_eq_getElem?_getD,List.getElem?_set_ne (by omega),← List.getD_eq_getElem?_getD]
      exact a5 p (by omega)
   ·have hn:k + j=l.length:=by omega
    have hl1:=mf (B:=B) (n:=l.length * 2) (show bq l (k + j) < l.length by omega) (by omega)
    have hl2:=ma (B:=B) (n:=l.length * 2) (show bq l (k + j) ≤ l.length by omega) (by omega)
    (have zz:=aI @hl1 @hl2; repeat' (first|refine zW ?_|apply a_n|apply a_x|refine zO ?_|refine vZ ?_|(refine zGZ ?_ ?_ <;> (intro _hg; try (exfalso; omega)))|fail)) <;> (try clear zz)
    refine xP (H':=aj (aj H' B (cX L)) B (bi (cX L) (bq l (k + j) * 2) (a7 (.agg [.int .i64 0,.int .i64 0]) (l.length - bq l (k + j))))) ?_ ?_
    ·((try simp only [cz,ZA,reduceEqDiff,↓reduceIte,reduceAdd,reduceLeDiff]); (try with_reducible rfl))
     simp only [eY]
     rw [if_neg (by omega),ai]
     dsimp only
     rw [if_pos ⟨hcL,trivial,rfl,rfl,by omega⟩]
     rfl
    ·(have zz:=@hl2; repeat' (first|refine zW ?_|apply a_n|apply a_r|refine zO ?_|refine vZ ?_|refine af rfl ?_|refine r1Z ?_|fail)) <;> (try clear zz)
     refine ⟨by rw [hn],⟨_,an _ _ _ _,?_,?_⟩,rfl⟩
     ·have hz:(a7 (AV.agg [.int .i64 0,.int .i64 0]) (l.length - bq l (k + j))).length=(l.length - bq l (k + j)) * 2:=by simp [a7,AV.cells]
      simp only [bi,List.length_append,List.length_take,List.length_drop,hz,hcL]
      omega
     ·rw [← hn,← a6,← li]
      simp only [bi]
      rw [List.append_assoc,List.take_append_of_le_length (by rw [List.length_take,hcL]; omega),List.take_take,Nat.min_self]
  ·rw [decide_eq_false he] at hd
   (have zz:=aI @tk (aI @hH (aI @Int.toNat_natCast (aI @hcl (aI @q1 (aI @q2 (aI @lj (aI @acq @hd))))))); repeat' (first|refine zW ?_|apply a_n|refine zO ?_|refine vZ ?_|refine cFZ ?_|(refine zGZ ?_ ?_ <;> (intro _hg; try (exfalso; omega)))|fail)) <;> (try clear zz)
   exact ⟨k + 1,by omega,⟨rfl,rfl,by omega,by omega,by rw [fR he,k3],by rw [f7 he,k4,ce hk]⟩,ag0⟩
 ·(have zz:=and_self; repeat' (first|refine zW ?_|apply a_n|apply a_x|refine zO ?_|refine vZ ?_|(refine zGZ ?_ ?_ <;> (intro _hg; try (exfalso; omega)))|refine af rfl ?_|refine r1Z ?_|fail)) <;> (try clear zz)
  have e:l.length=k:=by omega
  refine ⟨by rw [e,k3],⟨_,hid,hcl,?_⟩,rfl⟩
  rw [e,k3,k4,← li]
end Go.Proofs.YtpfkjcjgdilkkaaGreat
namespace Go.Proofs.YtpfkjcjgdilkkaaGreat
open Go Go.Abs
theorem yn (a b:Vtx):kF (.st [.int,.int]) (bf a) (bf b)=some (decide (a=b)):=by
 show cu [.int,.int] [.int .i64 a.color,.int .i64 a.label] [.int .i64 b.color,.int .i64 b.label]=_
 rw [rU,f6]
theorem lA (v:Vtx) (ks:List Vtx):ca (.st [.int,.int]) (bf v) (ks.map bf)=some (if v ∈ ks then some (ks.idxOf v) else none):=nK _ bf yn v ks
theorem mc (v:Vtx):fK (.st [.int,.int]) (bf v)=true:=rfl
def gf (l:List Spx) (i:Nat) (v:Vtx):List Nat:=(List.range i).filter fun k=>decide (v ∈ l.getD k default)
def i8 (l:List Spx) (i j:Nat) (v:Vtx):List Nat:=gf l i v ++ if v ∈ (l.getD i default).take j then [i] else []
theorem sS {l:List Spx} {i:Nat} {v:Vtx}:gf l (i + 1) v=i8 l i (l.getD i default).length v:=by
 unfold gf i8
 rw [List.range_succ,List.filter_append,List.take_length]
 congr 1
 by_cases h:v ∈ l.getD i default
 ·rw [if_pos h]; simp only [List.filter,h,decide_true]
 ·rw [if_neg h]; simp only [List.filter,h,decide_false]
theorem tO {l:List Spx} {i:Nat} {v:Vtx}:i8 l i 0 v=gf l i v:=by unfold i8; simp
theorem uk {l:List Spx} {i j:Nat} {v:Vtx} (hj:j < (l.getD i default).length) (ha:cf bl (l.getD i default)):i8 l i (j + 1) v=if v=(l.getD i default).getD j default then i8 l i j v ++ [i] else i8 l i j v:=by
 unfold i8
 generalize l.getD i default=s at *
 rw [ce hj]
 by_cases h:v=s.getD j default
 ·have hn:v ∉ s.take j:=fun hm=>by
    obtain ⟨k,hk,e⟩:=List.getElem_of_mem hm
    rw [List.length_take] at hk
    rw [List.getElem_take] at e
    have:=dh ha (i:=k) (j:=j) (by omega) hj
    rw [← h,← e] at this
    have e2:s.getD k default=s[k]:=by simp [List.getD,show k < s.length by omega]
    rw [e2] at this
    exact iO.ord.irr _ this
  rw [if_pos h,if_neg hn,if_pos (by rw [List.mem_append,h]; simp)]
  simp
 ·rw [if_neg h]
  congr 1
  have e:v ∈ s.take j ++ [s.getD j default] ↔ v ∈ s.take j:=by rw [List.mem_append,List.mem_singleton]; exact ⟨fun h'=>h'.resolve_right h,.inl⟩
  by_cases h2:v ∈ s.take j
  ·rw [if_pos (e.2 h2),if_pos h2]
  ·rw [if_neg (fun h=>h2 (e.1 h)),if_neg h2]
def tF (i:Nat):AV:=.int .i64 (i:Int)
structure IncOk (H:Hp) (b lo hi:Nat) (F:Vtx→List Nat) (ks:List Vtx) (vs:List AV):Prop where
 box:H b=some [.omap (ks.map bf) vs]
 len:vs.length=ks.length
 nodup:ks.Nodup
 dom:∀ v,v ∈ ks ↔ F v ≠ []
 row:∀ j,j < ks.length→Row H 1 (vs.getD j .undef) ((F (ks.getD j default)).map tF)
 bnd:∀ j B,j < ks.length→dB (vs.getD j .undef)=some B→lo ≤ B∧B < hi∧B ≠ b
 apart:∀ i j B,i < ks.length→j < ks.length→i ≠ j→dB (vs.getD i .undef)=some B→dB (vs.getD j .undef) ≠ some B
 lt:b < hi
theorem n4 {l:List AV} {i j:Nat} {x:AV} (h:i < l.length):(l.set i x).getD j .undef=if i=j then x else l.getD j .undef:=by
 simp only [List.getD,List.getElem?_set]
 split
 ·rename_i e; subst e; simp [h]
 ·rfl
theorem pH {α:Type} {l m:List α} {j:Nat} {d:α} (h:j < l.length):(l ++ m).getD j d=l.getD j d:=by
 simp [List.getD,List.getElem?_append_left h]
theorem nR {α:Type} {l:List α} {x d:α}:(l ++ [x]).getD l.length d=x:=by simp [List.getD]
theorem hO {l:List Vtx} {v:Vtx} (h:v ∈ l):l.idxOf v < l.length∧l.getD (l.idxOf v) default=v:=by
 have h1:=List.idxOf_lt_length_iff.2 h
 exact ⟨h1,by simp [List.getD,h1]⟩
theorem tW {l:List Vtx} (h:l.Nodup) {i j:Nat} (hi:i < l.length) (hj:j < l.length) (e:l.getD i default=l.getD j default):i=j:=by
 have hp:=List.pairwise_iff_getElem.1 (List.nodup_iff_pairwise_ne.1 h)
 rw [show l.getD i default=l[i] by simp [List.getD,hi],show l.getD j default=l[j] by simp [List.getD,hj]] at e
 rcases Nat.lt_trichotomy i j with c | c | c
 ·exact absurd e (hp i j hi hj c)
 ·exact c
 ·exact absurd e.symm (hp j i hj hi c)
theorem IncOk.same {H H':Hp} {b lo hi hi':Nat} {F:Vtx→List Nat} {ks:List Vtx} {vs:List AV} (h:IncOk H b lo hi F ks vs) (hb:H' b=H b) (hs:∀ x,lo ≤ x→x < hi→x ≠ b→H' x=H x) (hh:hi ≤ hi'):IncOk H' b lo hi' F ks vs :=
 ⟨hb.trans h.box,h.len,h.nodup,h.dom,fun j hj=>(h.row j hj).same fun B hB=>by have:=h.bnd j B hj hB; exact hs B this.1 this.2.1 this.2.2,fun j B hj hB=>by have:=h.bnd j B hj hB; exact ⟨this.1,by omega,this.2.2⟩,h.apart,by have:=h.lt; omega⟩
theorem IncOk.put {H H':Hp} {b lo hi hi' i:Nat} {F G:Vtx→List Nat} {ks:List Vtx} {vs:List AV} {w:Vtx} {sv:AV} (h:IncOk H b lo hi F ks vs) (hw:w ∈ ks) (hG:∀ v,G v=if v=w then F v ++ [i] else F v) (hrow:Row H' 1 sv ((F w ++ [i]).map tF)) (hB:∀ B,dB sv=some B→dB (vs.getD (ks.idxOf w) .undef)=some B ∨ hi ≤ B∧B < hi'∧B ≠ b) (hb:H' b=some [.omap (ks.map bf) (vs.set (ks.idxOf w) sv)])
    (hs:∀ x,lo ≤ x→x < hi→x ≠ b→dB (vs.getD (ks.idxOf w) .undef) ≠ some x→H' x=H x) (hh:hi ≤ hi') (hlo:lo ≤ hi):IncOk H' b lo hi' G ks (vs.set (ks.idxOf w) sv):=by
 obtain ⟨k1,k2⟩:=hO hw
 have hl:=h.len
 have hg:∀ j,(vs.set (ks.idxOf w) sv).getD j .undef=if ks.idxOf w=j then sv else vs.getD j .undef:=fun j=>n4 (by omega)
 have hne:∀ j,j < ks.length→ks.idxOf w ≠ j→ks.getD j default ≠ w:=fun j hj hn e=>hn (tW h.nodup k1 hj (by rw [k2,e]))
 refine ⟨hb,by simp [hl],h.nodup,fun v=>?_,fun j hj=>?_,fun j B hj=>?_,fun p q B hp hq hpq=>?_,by have:=h.lt; omega⟩
 ·rw [hG,h.dom]
  by_cases e:v=w
  ·subst e
   rw [if_pos rfl]
   exact ⟨fun _=>by simp,fun _=>(h.dom v).1 hw⟩
  ·rw [if_neg e]
 ·rw [hg,hG]
  by_cases e:ks.idxOf w=j
  ·rw [if_pos e,if_pos (by rw [← e]; exact k2),← e,k2]; exact hrow
  ·rw [if_neg e,if_neg (hne j hj e)]
   exact (h.row j hj).same fun B hB'=>by
    have:=h.bnd j B hj hB'
    exact hs B this.1 this.2.1 this.2.2 fun h'=>h.apart (ks.idxOf w) j B k1 hj e h' hB'
 ·rw [hg]
  by_cases e:ks.idxOf w=j
  ·rw [if_pos e]
   intro hB'
   rcases hB B hB' with h' | h'
   ·have:=h.bnd _ B k1 h'; exact ⟨this.1,by omega,this.2.2⟩
   ·exact ⟨by omega,h'.2⟩
  ·rw [if_neg e]
   intro hB'
   have:=h.bnd j B hj hB'
   exact ⟨this.1,by omega,this.2.2⟩
 ·rw [hg,hg]
  by_cases e1:ks.idxOf w=p
  ·rw [if_pos e1,if_neg (by omega)]
   intro h1 h2
   rcases hB B h1 with h' | h'
   ·exact h.apart (ks.idxOf w) q B k1 hq (by omega) h' h2
   ·have:=h.bnd q B hq h2; omega
  ·rw [if_neg e1]
   by_cases e2:ks.idxOf w=q
   ·rw [if_pos e2]
    intro h1 h2
    rcases hB B h2 with h' | h'
    ·exact h.apart p (ks.idxOf w) B hp k1 (by omega) h1 h'
    ·have:=h.bnd p B hp h1; omega
   ·rw [if_neg e2]; exact h.apart p q B hp hq hpq
theorem IncOk.new {H H':Hp} {b lo hi hi' i:Nat} {F G:Vtx→List Nat} {ks:List Vtx} {vs:List AV} {w:Vtx} {sv:AV} (h:IncOk H b lo hi F ks vs) (hw:w ∉ ks) (hG:∀ v,G v=if v=w then F v ++ [i] else F v) (hrow:Row H' 1 sv ([i].map tF)) (hB:∀ B,dB sv=some B→hi ≤ B∧B < hi'∧B ≠ b) (hb:H' b=some [.omap ((ks ++ [w]).map bf) (vs ++ [sv])])
    (hs:∀ x,lo ≤ x→x < hi→x ≠ b→H' x=H x) (hh:hi ≤ hi') (hlo:lo ≤ hi):IncOk H' b lo hi' G (ks ++ [w]) (vs ++ [sv]):=by
 have hl:=h.len
 have hF:F w=[]:=by
  cases hf:F w with
  | nil=>rfl
  | cons a r=>exact absurd ((h.dom w).2 (by rw [hf]; simp)) hw
 have g1:∀ j,j < ks.length→(ks ++ [w]).getD j default=ks.getD j default∧(vs ++ [sv]).getD j .undef=vs.getD j .undef:=fun j hj=>⟨pH hj,pH (by omega)⟩
 have g2:(ks ++ [w]).getD ks.length default=w∧(vs ++ [sv]).getD ks.length .undef=sv:=⟨nR,by rw [← hl]; exact nR⟩
 refine ⟨hb,by simp [hl],?_,fun v=>?_,fun j hj=>?_,fun j B hj=>?_,fun p q B hp hq hpq=>?_,by have:=h.lt; omega⟩
 ·rw [List.nodup_append]
  exact ⟨h.nodup,by simp,fun a ha c hc e=>by rw [List.mem_singleton] at hc; exact hw (by rw [← hc,← e]; exact ha)⟩
 ·rw [hG,List.mem_append,List.mem_singleton]
  by_cases e:v=w
  ·subst e; rw [if_pos rfl]; simp
  ·rw [if_neg e,← h.dom]; simp [e]
 ·rw [List.length_append,List.length_singleton] at hj
  by_cases e:j=ks.length
  ·subst e
   rw [g2.1,g2.2,hG,if_pos rfl,hF]; exact hrow
  ·obtain ⟨e1,e2⟩:=g1 j (by omega)
   have hne:ks.getD j default ≠ w:=fun e'=>hw (e' ▸ aY (by omega))
   rw [e1,e2,hG,if_neg hne]
   exact (h.row j (by omega)).same fun B hB'=>by have:=h.bnd j B (by omega) hB'; exact hs B this.1 this.2.1 this.2.2
 ·rw [List.length_append,List.length_singleton] at hj
  by_cases e:j=ks.length
  ·subst e
   rw [g2.2]; intro hB'
   have:=hB B hB'; exact ⟨by omega,this.2⟩
  ·rw [(g1 j (by omega)).2]; intro hB'
   have:=h.bnd j B (by omega) hB'; exact ⟨this.1,by omega,this.2.2⟩
 ·rw [List.length_append,List.length_singleton] at hp hq
  by_cases e1:p=ks.length
  ·subst e1
   rw [g2.2,(g1 q (by omega)).2]
   intro h1 h2
   have:=hB B h1
   have:=h.bnd q B (by omega) h2
   omega
  ·rw [(g1 p (by omega)).2]
   by_cases e2:q=ks.length
   ·subst e2
    rw [g2.2]
    intro h1 h2
    have:=hB B h2
    have:=h.bnd p B (by omega) h1
    omega
   ·rw [(g1 q (by omega)).2]; exact h.apart p q B (by omega) (by omega) hpq
end Go.Proofs.YtpfkjcjgdilkkaaGreat
namespace Go.Proofs.YtpfkjcjgdilkkaaGreat
open Go Go.Abs
theorem kc {H:Hp} {d:Nat} {x:AV}:di 1 (aj H d [x]) (.msl d 1 1 0 1)=some (1,[x]):=jo (n:=1) (len:=1) (off:=0) (cs:=[x]) ai rfl (by simp)
theorem pp {l:List Spx} {i:Nat} {v:Vtx}:(gf l i v).length ≤ i:=by
 unfold gf
 have:=List.length_filter_le (fun k=>decide (v ∈ l.getD k default)) (List.range i)
 rwa [List.length_range] at this
theorem v7 {l:List Spx} {i j:Nat} {v:Vtx}:(i8 l i j v).length ≤ i + 1:=by
 unfold i8
 have:=pp (l:=l) (i:=i) (v:=v)
 rw [List.length_append]
 split <;> simp <;> omega
attribute [local irreducible] aD ah aX aP aH aK az aL aR be Go.Abs.Fn aO Go.Abs.Pure ar aE Yl
set_option maxHeartbeats 2000000 in
theorem kJ (l:List Spx) (hl:l.length ≤ 100000) (hs:∀ s ∈ l,cf bl s∧s.length ≤ 1000000) (H:Hp) (nx:Nat):Abs.Fn Tryz.prog 65 [aC l] H nx fun r H' nx'=>∃ ks vs,r=.mp nx∧IncOk H' nx nx nx' (gf l l.length) ks vs∧(∀ x,x < nx→H' x=H x)∧nx < nx':=by
 refine Abs.Fn.of_c2 follows z9 (Nat.le_of_ble_eq_true rfl) ?_
 simp only [b65,cO,cG,cN,cM,cD,cF,cB,ax,aN]
 refine cQ ?_
 (have zz:=and_self; repeat' (first|apply a_n|refine zO ?_|refine vZ ?_|fail)) <;> (try clear zz)
 refine cQ ?_
 (have zz:=and_self; repeat' (first|apply a_n|refine zO ?_|fail)) <;> (try clear zz)
 refine xA ?_
 (have zz:=@ao; repeat' (first|refine zW ?_|apply a_n|refine zO ?_|refine vY ?_|fail)) <;> (try clear zz)
 refine aS (X:=Nat × List Vtx × List AV) (fun x=>[(3,.mp nx),(9,aC l),(10,.int .i64 l.length),(11,.int .i64 x.1)]) (fun x H' nx'=>x.1 ≤ l.length∧IncOk H' nx nx nx' (gf l x.1) x.2.1 x.2.2∧(∀ y,y < nx→H' y=H y)∧nx < nx') (fun x=>l.length - x.1) (0,[],[]) ⟨Nat.zero_le _,⟨ai,rfl,List.nodup_nil,fun v=>by simp [gf],fun j h=>absurd h (by simp),fun j B h=>absurd h (by simp),fun i j B h=>absurd h (by simp),by omega⟩,fun y hy=>al (by omega),by omega⟩ ag0 ?_
 rintro ⟨i,ks,vs⟩ H1 nx1 ⟨h1,h2,h3,h4⟩
 dsimp only at h1 h2 ⊢
 by_cases hi:i < l.length
 rotate_left
 ·obtain rfl:i=l.length:=by omega
  (have zz:=and_self; repeat' (first|refine zW ?_|apply a_n|apply a_x|refine zO ?_|refine vY ?_|(refine zGY ?_ ?_ <;> (intro _hg; try (exfalso; omega)))|refine af rfl ?_|refine r1Y ?_|fail)) <;> (try clear zz)
  exact ⟨ks,vs,rfl,h2,h3,h4⟩
 have ix:=eT hi
 obtain ⟨hsa,hsl⟩:=hs _ (aY hi)
 have hstep:=fun j v hj=>uk (l:=l) (i:=i) (j:=j) (v:=v) hj hsa
 have hend:=fun v=>sS (l:=l) (i:=i) (v:=v)
 have hlen:=fun j v=>v7 (l:=l) (i:=i) (j:=j) (v:=v)
 have h20:IncOk H1 nx nx nx1 (i8 l i 0) ks vs:=by rw [show i8 l i 0=gf l i from funext fun v=>tO]; exact h2
 have hend':gf l (i + 1)=i8 l i (l.getD i default).length:=funext hend
 clear h2
 generalize l.getD i default=s at *
 (have zz:=aI @ix @ak; repeat' (first|refine zW ?_|apply a_n|refine zO ?_|refine vY ?_|(refine zGY ?_ ?_ <;> (intro _hg; try (exfalso; omega)))|fail)) <;> (try clear zz)
 refine aS (X:=Nat × List Vtx × List AV) (fun x=>[(3,.mp nx),(9,aC l),(10,.int .i64 l.length),(11,.int .i64 i),(4,.int .i64 i),(5,aq s),(16,aq s),(17,.int .i64 s.length),(18,.int .i64 x.1)]) (fun x H' nx'=>x.1 ≤ s.length∧IncOk H' nx nx nx' (i8 l i x.1) x.2.1 x.2.2∧(∀ y,y < nx→H' y=H y)∧nx < nx') (fun x=>s.length - x.1) (0,ks,vs) ⟨Nat.zero_le _,h20,h3,h4⟩ ag0 ?_
 clear h20 h3 h4
 rintro ⟨j,ks,vs⟩ H2 nx2 ⟨k1,k2,k3,k4⟩
 dsimp only at k1 k2 ⊢
 by_cases hj:j < s.length
 rotate_left
 ·obtain rfl:j=s.length:=by omega
  (have zz:=and_self; repeat' (first|refine zW ?_|apply a_n|apply a_x|refine zO ?_|refine vY ?_|(refine zGY ?_ ?_ <;> (intro _hg; try (exfalso; omega)))|fail)) <;> (try clear zz)
  exact ⟨(i + 1,ks,vs),by dsimp only; omega,⟨by dsimp only; omega,by dsimp only; rw [hend']; exact k2,k3,k4⟩,ag0⟩
 have iy:=ix2 hj
 have hG:=fun v=>hstep j v hj
 have hcl:=hlen j (s.getD j default)
 generalize s.getD j default=w at *
 (have zz:=@iy; repeat' (first|refine zW ?_|apply a_n|refine zO ?_|refine vY ?_|refine alY ?_|refine stY ?_|refine blY ?_|(refine zGY ?_ ?_ <;> (intro _hg; try (exfalso; omega)))|fail)) <;> (try clear zz)
 have g3:∀ x,x < nx2→aj (aj (aj H2 nx2 [.int .i64 0,.int .i64 0]) nx2 (bi [.int .i64 0,.int .i64 0] 0 [.int .i64 w.color,.int .i64 w.label])) (nx2 + 1) [.int .i64 i] x=H2 x:=fun x hx=>by rw [al (by omega),al (by omega),al (by omega)]
 have g4:aj (aj (aj H2 nx2 [.int .i64 0,.int .i64 0]) nx2 (bi [.int .i64 0,.int .i64 0] 0 [.int .i64 w.color,.int .i64 w.label])) (nx2 + 1) [.int .i64 i] (nx2 + 1)=some [.int .i64 i]:=ai
 generalize aj (aj (aj H2 nx2 [.int .i64 0,.int .i64 0]) nx2 (bi [.int .i64 0,.int .i64 0] 0 [.int .i64 w.color,.int .i64 w.label])) (nx2 + 1) [.int .i64 i]=H3 at *
 have hmf:=lA w ks
 have hkl:(ks.map bf).length=ks.length:=List.length_map ..
 by_cases hw:w ∈ ks
 ·rw [if_pos hw] at hmf
  obtain ⟨m1,m2⟩:=hO hw
  have hr:=k2.row (ks.idxOf w) m1
  rw [m2] at hr
  refine vR ev0 ((g3 nx (by omega)).trans k2.box) ev0 (mc w) hmf ?_
  have g5:∀ x,x < nx2→x ≠ nx→aj H3 nx [.omap (bE (bf w) (some (ks.idxOf w)) (ks.map bf)) (gr .esl (some (ks.idxOf w)) vs)] x=H2 x:=fun x hx hn=>by rw [al hn,g3 x hx]
  have g6:aj H3 nx [.omap (bE (bf w) (some (ks.idxOf w)) (ks.map bf)) (gr .esl (some (ks.idxOf w)) vs)] nx=some [.omap (ks.map bf) vs]:=ai
  have g7:aj H3 nx [.omap (bE (bf w) (some (ks.idxOf w)) (ks.map bf)) (gr .esl (some (ks.idxOf w)) vs)] (nx2 + 1)=some [.int .i64 i]:=by rw [al (by omega)]; exact g4
  generalize aj H3 nx [.omap (bE (bf w) (some (ks.idxOf w)) (ks.map bf)) (gr .esl (some (ks.idxOf w)) vs)]=H4 at *
  rw [show q9 .esl (some (ks.idxOf w)) vs=vs.getD (ks.idxOf w) .undef from rfl,show pP (some (ks.idxOf w)) (ks.map bf)=ks.idxOf w from rfl]
  (have zz:=and_self; repeat' (first|apply a_n|refine zO ?_|refine vY ?_|fail)) <;> (try clear zz)
  refine iT (k:=1) (new:=[.int .i64 i]) rfl ev0 (hr.same fun B hB=>?_) ev0 (jo (n:=1) (len:=1) (off:=0) g7 rfl (by omega)) rfl rfl Nat.one_pos (by rw [List.length_map]; omega) (by rw [List.length_map]; omega) ?_
  ·have:=k2.bnd _ B m1 hB
   exact g5 B this.2.1 this.2.2
  rintro s2 H5 nx5 hr5 i1 i2 i3 i4
  (have zz:=and_self; repeat' (first|apply a_n|refine zO ?_|refine vY ?_|fail)) <;> (try clear zz)
  refine uF ev0 ((i3 nx (by omega) (fun h=>(k2.bnd _ nx m1 h).2.2 rfl)).trans g6) ev0 (by rw [hkl]; exact m1) ev0 ?_
  (have zz:=and_self; repeat' (first|apply a_n|refine zO ?_|refine vY ?_|fail)) <;> (try clear zz)
  refine ⟨(j + 1,ks,vs.set (ks.idxOf w) s2),by dsimp only; omega,⟨by dsimp only; omega,IncOk.put k2 hw hG ?_ (fun B hB=>?_) ai (fun x hx hx2 hxn hxr=>?_) (by omega) (by omega),fun y hy=>?_,by omega⟩,ag0⟩
  ·rw [List.map_append]
   exact hr5.same fun B hB=>al fun e=>by
    rcases i4 B hB with h | h
    ·exact (k2.bnd _ B m1 h).2.2 e
    ·omega
  ·rcases i4 B hB with h | h
   ·exact .inl h
   ·exact .inr (by omega)
  ·rw [al hxn,i3 x (by omega) hxr,g5 x hx2 hxn]
  ·rw [al (by omega),i3 y (by omega) (fun h=>by have:=k2.bnd _ y m1 h; omega),g5 y (by omega) (by omega)]; exact k3 y hy
 ·rw [if_neg hw] at hmf
  refine vR ev0 ((g3 nx (by omega)).trans k2.box) ev0 (mc w) hmf ?_
  have g5:∀ x,x < nx2→x ≠ nx→aj H3 nx [.omap (bE (bf w) none (ks.map bf)) (gr .esl none vs)] x=H2 x:=fun x hx hn=>by rw [al hn,g3 x hx]
  have g6:aj H3 nx [.omap (bE (bf w) none (ks.map bf)) (gr .esl none vs)] nx=some [.omap (ks.map bf ++ [bf w]) (vs ++ [.esl])]:=ai
  have g7:aj H3 nx [.omap (bE (bf w) none (ks.map bf)) (gr .esl none vs)] (nx2 + 1)=some [.int .i64 i]:=by rw [al (by omega)]; exact g4
  generalize aj H3 nx [.omap (bE (bf w) none (ks.map bf)) (gr .esl none vs)]=H4 at *
  rw [show q9 .esl none vs=.esl from rfl,show pP none (ks.map bf)=ks.length from hkl]
  (have zz:=and_self; repeat' (first|apply a_n|refine zO ?_|refine vY ?_|fail)) <;> (try clear zz)
  refine iT (k:=1) (new:=[.int .i64 i]) (cs:=[]) rfl ev0 Row.nil ev0 (jo (n:=1) (len:=1) (off:=0) g7 rfl (by omega)) rfl rfl Nat.one_pos (by simp) (by simp) ?_
  rintro s2 H5 nx5 hr5 i1 i2 i3 i4
  have i4':∀ B,dB s2=some B→B=nx2 + 1 + 1∧nx5=nx2 + 1 + 1 + 1:=fun B hB=>(i4 B hB).elim (fun h=>by cases h) id
  (have zz:=and_self; repeat' (first|apply a_n|refine zO ?_|refine vY ?_|fail)) <;> (try clear zz)
  refine uF (i:=ks.length) ev0 ((i3 nx (by omega) (fun h=>by cases h)).trans g6) ev0 (by rw [List.length_append,hkl]; simp) ev0 ?_
  have hset:(vs ++ [AV.esl]).set ks.length s2=vs ++ [s2]:=by rw [← k2.len]; simp
  rw [hset]
  (have zz:=and_self; repeat' (first|apply a_n|refine zO ?_|refine vY ?_|fail)) <;> (try clear zz)
  refine ⟨(j + 1,ks ++ [w],vs ++ [s2]),by dsimp only; omega,⟨by dsimp only; omega,IncOk.new k2 hw hG ?_ (fun B hB=>?_) (by rw [List.map_append]; exact ai) (fun x hx hx2 hxn=>?_) (by omega) (by omega),fun y hy=>?_,by omega⟩,ag0⟩
  ·exact hr5.same fun B hB=>al (by have:=i4' B hB; omega)
  ·have:=i4' B hB; omega
  ·rw [al hxn,i3 x (by omega) (fun h=>by cases h),g5 x hx2 hxn]
  ·rw [al (by omega),i3 y (by omega) (fun h=>by cases h),g5 y (by omega) (by omega)]; exact k3 y hy
end Go.Proofs.YtpfkjcjgdilkkaaGreat
namespace Go.Proofs.YtpfkjcjgdilkkaaGreat
open Go Go.Abs
def bd (l:List Spx) (s:Spx):Bool:=l.any fun t=>decide (s.length < t.length) && bw s t
def iz (c:List Spx) (k:Nat):Int:=if bo (c.getD k default) ≠ 0 then bo (c.getD k default) else if 0 < k∧0 ≤ bB (c.getD (k - 1) default) (c.getD k default) then 14 else 0
def aJ (c:List Spx):Int:=if 4096 < c.length then 5 else if bW (iz c) c.length ≠ 0 then bW (iz c) c.length else if c.any (bd c)=true then 7 else 0
theorem bO {a b:Spx}:bw a b=true ↔ ∀ v ∈ a,v ∈ b:=by
 unfold bw; rw [List.all_eq_true]
 exact ⟨fun h v hv=>of_decide_eq_true (h v hv),fun h v hv=>decide_eq_true (h v hv)⟩
theorem bF {l:List Spx} {s:Spx}:bd l s=true ↔ ∃ t ∈ l,s.length < t.length∧∀ v ∈ s,v ∈ t:=by
 unfold bd; rw [List.any_eq_true]
 constructor
 ·rintro ⟨t,ht,h⟩
  rw [Bool.and_eq_true,decide_eq_true_iff,bO] at h
  exact ⟨t,ht,h⟩
 ·rintro ⟨t,ht,h⟩
  exact ⟨t,ht,by rw [Bool.and_eq_true,decide_eq_true_iff,bO]; exact h⟩
theorem yj {a b:Spx} (ha:cf bl a) (hb:cf bl b) (h:∀ v ∈ a,v ∈ b) (hne:a ≠ b):a.length < b.length:=by
 have h1:a.length ≤ b.length:=List.Nodup.length_le_of_subset (ha.nodup iO) h
 rcases Nat.lt_or_ge a.length b.length with h2 | h2
 ·exact h2
 ·exfalso
  refine hne (j8 iO ha hb fun x=>⟨h x,fun hx=>Decidable.byContradiction fun hn=>?_⟩)
  have h3:(x :: a).length ≤ b.length:=List.Nodup.length_le_of_subset (List.nodup_cons.2 ⟨hn,ha.nodup iO⟩) fun y hy=>by
   rcases List.mem_cons.1 hy with rfl | hy
   ·exact hx
   ·exact h y hy
  rw [List.length_cons] at h3
  omega
theorem rT {c:List Spx} (h:bW (iz c) c.length=0):(∀ s ∈ c,bo s=0)∧cf bB c:=by
 have hz:=eP h
 have h3:∀ k,k < c.length→bo (c.getD k default)=0∧(0 < k→bB (c.getD (k - 1) default) (c.getD k default) < 0):=fun k hk=>by
  have:=hz k hk
  unfold iz at this
  split at this
  ·exact absurd this ‹_›
  rename_i g1
  split at this
  ·exact absurd this (by decide)
  rename_i g2
  exact ⟨Decidable.of_not_not g1,fun h0=>by omega⟩
 constructor
 ·intro s hs
  obtain ⟨i,hi,rfl⟩:=List.getElem_of_mem hs
  have:=(h3 i hi).1
  rwa [show c.getD i default=c[i] by simp [List.getD,hi]] at this
 ·have step:∀ j i,i < j→j < c.length→bB (c.getD i default) (c.getD j default) < 0:=by
    intro j
    induction j with
    | zero=>intro i h; omega
    | succ j ih =>
     intro i hi hj
     have hs:=(h3 (j + 1) hj).2 (by omega)
     rw [Nat.add_sub_cancel] at hs
     by_cases e:i=j
     ·subst e; exact hs
     ·exact qG.trans (ih i (by omega) (by omega)) hs
  unfold cf
  rw [List.pairwise_iff_getElem]
  intro i j hi hj hij
  have:=step j i hij hj
  simpa [List.getD,hi,hj] using this
theorem bA {c:List Spx} (h:aJ c=0):c.length ≤ 4096∧(∀ s ∈ c,bo s=0)∧cf bB c∧∀ s ∈ c,bd c s=false:=by
 unfold aJ at h
 split at h
 ·exact absurd h (by decide)
 split at h
 ·exact absurd h ‹_›
 split at h
 ·exact absurd h (by decide)
 rename_i h1 h2 h3
 have:=rT (Decidable.of_not_not h2)
 refine ⟨by omega,this.1,this.2,fun s hs=>?_⟩
 cases hc:bd c s
 ·rfl
 ·exact absurd (List.any_eq_true.2 ⟨s,hs,hc⟩) h3
theorem ky {c:List Spx} (h1:c.length ≤ 4096) (h2:∀ s ∈ c,bo s=0) (h3:cf bB c) (h4:∀ s ∈ c,bd c s=false):aJ c=0:=by
 have hz:bW (iz c) c.length=0:=bZ fun k hk=>by
  unfold iz
  rw [h2 _ (aY hk),if_neg (by simp),if_neg]
  rintro ⟨h0,h5⟩
  have:=dh h3 (i:=k - 1) (j:=k) (by omega) hk
  omega
 unfold aJ
 rw [if_neg (by omega),hz,if_neg (by simp),if_neg]
 rw [List.any_eq_true]
 rintro ⟨s,hs,h⟩
 rw [h4 s hs] at h; cases h
theorem wU {l:List Spx} {s:Spx} {p:Spx→Bool} (h0:0 < s.length) (hp:∀ t,p t=true→s.getD 0 default ∈ t):((gf l l.length (s.getD 0 default)).map fun (n:Nat)=>(n:Int)).any (fun i=>p (l.getD i.toNat default))=l.any p:=by
 rw [Bool.eq_iff_iff,List.any_eq_true,List.any_eq_true]
 constructor
 ·rintro ⟨x,hx,h⟩
  obtain ⟨n,hn,rfl⟩:=List.mem_map.1 hx
  unfold gf at hn
  obtain ⟨h1,_⟩:=List.mem_filter.1 hn
  rw [Int.toNat_natCast] at h
  exact ⟨_,aY (List.mem_range.1 h1),h⟩
 ·rintro ⟨t,ht,h⟩
  obtain ⟨i,hi,rfl⟩:=List.getElem_of_mem ht
  have e:l.getD i default=l[i]:=by simp [List.getD,hi]
  refine ⟨(i:Int),List.mem_map.2 ⟨i,List.mem_filter.2 ⟨List.mem_range.2 hi,decide_eq_true ?_⟩,rfl⟩,?_⟩
  ·rw [e]; exact hp _ h
  ·rw [Int.toNat_natCast,e]; exact h
attribute [local irreducible] aD ah aX aP aH aK az aL aR be Go.Abs.Fn aO Go.Abs.Pure ar aE Yl
theorem tV (l:List Int) (p:Int→Bool) (g:Nat) (caps:List AV) (hd:∀ x ∈ caps,Dat x) (hg:∀ x ∈ l,Pure Tryz.prog g (.int .i64 x :: caps) (.bool (p x))) (hl:Shn l):Pure Tryz.prog 110 [cT l,.func g caps] (.int .i64 (if l.any p then (l.findIdx p:Nat) else -1)):=by
 refine Pure.of_c2 follows xH (Nat.le_of_ble_eq_true rfl) ?_
 simp only [yr,cO,cG,cN,cM,cD,cF,cB,ax,aN]
 have hl':l.length ≤ 17592186044416:=hl
 (have zz:=and_self; repeat' (first|refine zW ?_|apply a_n|refine zO ?_|refine vZ ?_|fail)) <;> (try clear zz)
 refine aS (X:=Nat) (fun k=>[(0,cT l),(1,.func g caps),(6,cT l),(7,.int .i64 l.length),(8,.int .i64 k)]) (fun k H nx=>k ≤ l.length∧∀ i,i < k→p (l.getD i default)=false) (fun k=>l.length - k) 0 ⟨Nat.zero_le _,fun i h=>absurd h (by omega)⟩ ag0 ?_
 rintro k H nx ⟨hk,hz⟩
 by_cases hk2:k < l.length
 rotate_left
 ·rw [eO fun i hi=>hz i (by omega),if_neg (by decide)]
  (have zz:=and_self; repeat' (first|refine zW ?_|apply a_n|apply a_x|refine zO ?_|refine vY ?_|(refine zGY ?_ ?_ <;> (intro _hg; try (exfalso; omega)))|refine af rfl ?_|refine r1Y ?_|fail)) <;> (try clear zz)
  exact bP rfl
 have hc:=hg _ (aA hk2)
 cases hp:p (l.getD k default)
 ·rw [hp] at hc
  (have zz:=and_self; repeat' (first|refine zW ?_|apply a_n|refine zO ?_|refine vY ?_|(refine zGY ?_ ?_ <;> (intro _hg; try (exfalso; omega)))|fail)) <;> (try clear zz)
  refine bN ev0 ev0 hc (ac (ap (.int _ _) (au hd))) ?_
  (have zz:=and_self; repeat' (first|apply a_n|refine zO ?_|refine vY ?_|refine cFY ?_|fail)) <;> (try clear zz)
  exact ⟨k + 1,by omega,⟨by omega,fun i hi=>by
   rcases Nat.lt_succ_iff_lt_or_eq.1 hi with h | rfl
   ·exact hz i h
   ·exact hp⟩,ag0⟩
 ·rw [hp] at hc
  obtain ⟨e1,e2⟩:=e6 hk2 hz hp
  rw [e1,e2,if_pos rfl]
  (have zz:=and_self; repeat' (first|refine zW ?_|apply a_n|refine zO ?_|refine vY ?_|(refine zGY ?_ ?_ <;> (intro _hg; try (exfalso; omega)))|fail)) <;> (try clear zz)
  refine bN ev0 ev0 hc (ac (ap (.int _ _) (au hd))) ?_
  (have zz:=and_self; repeat' (first|refine zW ?_|apply a_n|apply a_r|refine zO ?_|refine vY ?_|refine cTY ?_|refine af rfl ?_|refine r1Y ?_|fail)) <;> (try clear zz)
  exact .int _ _
theorem pj (l:List Int) (p:Int→Bool) (g:Nat) (caps:List AV) (hd:∀ x ∈ caps,Dat x) (hg:∀ x ∈ l,Pure Tryz.prog g (.int .i64 x :: caps) (.bool (p x))) (hl:Shn l):Pure Tryz.prog 99 [cT l,.func g caps] (.bool (l.any p)):=by
 refine Pure.of_c2 follows Ac (Nat.le_of_ble_eq_true rfl) ?_
 simp only [b99,cO,cG,cN,cM,cD,cF,cB,ax,aN]
 have h:=tV l p g caps hd hg hl
 (have zz:=and_self; repeat' (first|refine zW ?_|apply a_n|refine zO ?_|refine vZ ?_|refine cZ ?_ (hp:=h) (hs:=by (first | refine aa ?_ rfl | apply ac); (repeat' (first | exact ab | apply ag | apply ae | exact gG _ | exact Dat.func hd)); first | done | fail)|refine af rfl ?_|refine r1Z ?_|fail)) <;> (try clear zz)
 cases hA:l.any p
 ·exact bz (by simp)
 ·exact bz (by simp)
def OkS (l:List Spx):Prop:=l.length ≤ 100000∧∀ s ∈ l,cf bl s∧s.length ≤ 1000
theorem rF (l:List Spx) (s:Spx) (i:Nat) (hl:OkS l) (hs:cf bl s∧s.length ≤ 1000) (hi:i < l.length):Pure Tryz.prog 100 [.int .i64 i,.iptr [aC l] 0,.iptr [aq s] 0] (.bool (decide (s.length < (l.getD i default).length) && bw s (l.getD i default))):=by
 refine Pure.of_c2 follows xJ (Nat.le_of_ble_eq_true rfl) ?_
 simp only [yP,cO,cG,cN,cM,cD,cF,cB,ax,aN]
 have ix:=eT hi
 obtain ⟨t1,t2⟩:=hl.2 _ (aY hi)
 have hf:=vV s (l.getD i default) hs.1 t1 (by omega) (by omega)
 generalize l.getD i default=t at *
 by_cases h:s.length < t.length
 ·have z:decide ((s.length:Int) < t.length)=true:=decide_eq_true (by omega)
  rw [decide_eq_true h,Bool.true_and]
  (have zz:=aI @ak (aI @ix @z); repeat' (first|refine zW ?_|refine zM ?_|apply a_n|refine zO ?_|refine vZ ?_|refine cZ ?_ (hp:=hf) (hs:=by (first | refine aa ?_ rfl | apply ac); (repeat' (first | exact ab | apply ag | apply ae | exact aw _)); first | done | fail)|refine gTZ ?_|refine af rfl ?_|refine r1Z ?_|fail)) <;> (try clear zz)
  exact .bool _
 ·have z:decide ((s.length:Int) < t.length)=false:=decide_eq_false (by omega)
  rw [decide_eq_false h,Bool.false_and]
  (have zz:=aI @ak (aI @ix @z); repeat' (first|refine zW ?_|refine zM ?_|apply a_n|refine zO ?_|refine vZ ?_|refine gFZ ?_|refine af rfl ?_|refine r1Z ?_|fail)) <;> (try clear zz)
  exact .bool _
theorem nP (l:List Spx) (s:Spx) (hl:OkS l) (hs:cf bl s∧s.length ≤ 1000) (h0:0 < s.length):Pure Tryz.prog 66 [aC l,cT ((gf l l.length (s.getD 0 default)).map fun (n:Nat)=>(n:Int)),aq s] (.bool (bd l s)):=by
 refine Pure.of_c2 follows AR (Nat.le_of_ble_eq_true rfl) ?_
 simp only [b66,cO,cG,cN,cM,cD,cF,cB,ax,aN]
 have hll:=hl.1
 have h:=pj ((gf l l.length (s.getD 0 default)).map fun (n:Nat)=>(n:Int)) (fun i=>decide (s.length < (l.getD i.toNat default).length) && bw s (l.getD i.toNat default)) 100 [.iptr [aC l] 0,.iptr [aq s] 0] (DatL.cons (Dat.iptr (DatL.cons (bh _) DatL.nil)) (DatL.cons (Dat.iptr (DatL.cons (aw _) DatL.nil)) DatL.nil)) (fun x hx=>by
  obtain ⟨n,hn,rfl⟩:=List.mem_map.1 hx
  have hn2:n < l.length:=List.mem_range.1 (List.mem_filter.1 hn).1
  rw [Int.toNat_natCast]
  exact rF l s n hl hs hn2) (by rw [Shn,List.length_map]; have:=pp (l:=l) (i:=l.length) (v:=s.getD 0 default); omega)
 rw [wU (p:=fun t=>decide (s.length < t.length) && bw s t) h0 (fun t ht=>by
  rw [Bool.and_eq_true,bO] at ht
  exact ht.2 _ (aY h0))] at h
 (have zz:=aI @aB (aI @av (aI @a9 @aQ)); repeat' (first|refine zW ?_|apply a_n|refine zO ?_|refine vZ ?_|refine bxZ ?_|fail)) <;> (try clear zz)
 refine bN (have zz:=aI @aB (aI @av (aI @a9 @aQ)); evZ) (have zz:=aI @aB (aI @av (aI @a9 @aQ)); evZ) h (aa (ap (gG _ _) (ap (g8 (ap (ec rfl rfl (ap (bh _ _) ab)) (ap (ec rfl rfl (ap (aw _ _) ab)) ab))) ab)) rfl) ?_
 (have zz:=and_self; repeat' (first|apply a_n|refine zO ?_|refine vZ ?_|refine af rfl ?_|refine r1Z ?_|fail)) <;> (try clear zz)
 exact .bool _
end Go.Proofs.YtpfkjcjgdilkkaaGreat
namespace Go.Proofs.YtpfkjcjgdilkkaaGreat
open Go Go.Abs
theorem qg {H:Hp} {sv:AV} {F:List Nat} (h:Row H 1 sv (F.map tF)):Snap H sv (cT (F.map fun (n:Nat)=>(n:Int))):=by
 refine Row.snapI ?_
 rw [List.map_map]; exact h
theorem mW {c:List Spx} {k:Nat}:iz c k=if bo (c.getD k default) ≠ 0 then bo (c.getD k default) else if 0 < k∧0 ≤ bB (c.getD (k - 1) default) (c.getD k default) then 14 else 0:=rfl
theorem vD {c:List Spx} (h1:c.length ≤ 4096) (h:∀ s ∈ c,bo s=0):OkS c:=⟨by omega,fun s hs=>by
 obtain ⟨a1,a2,a3,a4⟩:=bH (h s hs)
 exact ⟨a3,by omega⟩⟩
theorem pq {H:Hp} {b:Nat} {cs:List AV} (h:H b=some cs):Sub (only b cs) H:=fun x c hx=>by
 unfold only at hx
 split at hx
 ·rename_i e; rw [e,h]; exact hx
 ·cases hx
def on2 (b1:Nat) (c1:List AV) (b2:Nat) (c2:List AV):Hp:=fun x=>if x=b1 then some c1 else if x=b2 then some c2 else none
theorem Ae {b1 b2:Nat} {c1 c2:List AV}:on2 b1 c1 b2 c2 b1=some c1:=if_pos rfl
theorem Ak {b1 b2:Nat} {c1 c2:List AV} (h:b2 ≠ b1):on2 b1 c1 b2 c2 b2=some c2:=by unfold on2; rw [if_neg h,if_pos rfl]
theorem sb {b1 b2:Nat} {c1 c2:List AV} {H:Hp} (h1:H b1=some c1) (h2:H b2=some c2):Sub (on2 b1 c1 b2 c2) H:=fun x cs h=>by
 unfold on2 at h
 split at h
 ·rename_i e; rw [e,h1]; exact h
 ·split at h
  ·rename_i e; rw [e,h2]; exact h
  ·cases h
theorem rb {P:Program} {T:Tm} {H:Hp} {nx:Nat} (b1 b2:Nat) {c1 c2:List AV} {K:CP} {m:Nat} {l:List Op2} {C:List (Nat × Nat)} (h1:H b1=some c1) (h2:H b2=some c2) (hne:b2 ≠ b1) (k:∀ S:Hp,S b1=some c1→S b2=some c2→(∀ H':Hp,H' b1=some c1→H' b2=some c2→Sub S H')→bb P S (C.map fun k=>(l.getD k.1 ⟨none,none,.dead⟩,k.2)) T H nx fun T H nx=>K .normal T H nx):aD P (.mixS m l C) T H nx K :=
 uY (on2 b1 c1 b2 c2) rfl (sb h1 h2) (k _ Ae (Ak hne) fun _ a b=>sb a b)
theorem oM {P:Program} {T:Tm} {H:Hp} {nx:Nat} (b:Nat) {c:List AV} {K:CP} {m:Nat} {l:List Op2} {C:List (Nat × Nat)} (h:H b=some c) (k:∀ S:Hp,S b=some c→(∀ H':Hp,H' b=some c→Sub S H')→bb P S (C.map fun k=>(l.getD k.1 ⟨none,none,.dead⟩,k.2)) T H nx fun T H nx=>K .normal T H nx):aD P (.mixS m l C) T H nx K :=
 uY (only b c) rfl (pq h) (k _ lm fun _ h=>pq h)
attribute [local irreducible] aD ah aX aP aH aK az aL aR be Go.Abs.Fn aO Go.Abs.Pure ar aE Yl
set_option maxHeartbeats 2000000 in
theorem gL (c:List Spx) (hc:Shn c) (hs:∀ s ∈ c,Shn s):Pure Tryz.prog 26 [c9 c] (.int .i64 (aJ c)):=by
 refine Pure.of_c2 follows zP (Nat.le_of_ble_eq_true rfl) ?_
 simp only [b26,cO,cG,cN,cM,cD,cF,cB,ax,aN]
 have hc':c.length ≤ 17592186044416:=hc
 by_cases h0:4096 < c.length
 ·rw [show aJ c=5 by unfold aJ; rw [if_pos h0]]
  (have zz:=aI @ao (aI @aB @av); repeat' (first|refine zW ?_|apply a_n|apply a_r|refine zO ?_|refine vZ ?_|refine bxZ ?_|(refine zGZ ?_ ?_ <;> (intro _hg; try (exfalso; omega)))|refine af rfl ?_|refine r1Z ?_|fail)) <;> (try clear zz)
  all_goals exact bP rfl
 rw [show aJ c=if bW (iz c) c.length ≠ 0 then bW (iz c) c.length else if c.any (bd c)=true then 7 else 0 by unfold aJ; rw [if_neg h0]]
 refine cQ ?_
 (have zz:=aI @ao (aI @aB @av); repeat' (first|apply a_n|refine zO ?_|refine vZ ?_|refine bxZ ?_|fail)) <;> (try clear zz)
 refine cQ (cQ ?_)
 (have zz:=aI @ao (aI @aB @av); repeat' (first|apply a_n|refine zO ?_|refine vZ ?_|(refine zGZ ?_ ?_ <;> (intro _hg; try (exfalso; omega)))|fail)) <;> (try clear zz)
 by_cases hz:bW (iz c) c.length ≠ 0
 ·rw [if_pos hz]
  (have zz:=aI @ao (aI @aB @av); repeat' (first|refine zW ?_|apply a_n|refine zO ?_|refine vZ ?_|fail)) <;> (try clear zz)
  refine aS (X:=Nat) (fun k=>[(1,.ptr 0 1 0),(14,aC c),(15,.int .i64 c.length),(16,.int .i64 k)]) (fun k H nx=>k ≤ c.length∧H 0=some [aC c]∧∀ i,i < k→iz c i=0) (fun k=>c.length - k) 0 ⟨Nat.zero_le _,rfl,fun i h=>absurd h (by omega)⟩ (by (iterate 4 refine And.intro rfl ?_); trivial) ?_
  rintro k H nx ⟨h1,g0,h2⟩
  by_cases hk:k < c.length
  rotate_left
  ·exact absurd (bZ fun i hi=>h2 i (by omega)) hz
  have ix:=eT hk
  have hs1:=hs _ (aY hk)
  have hp:=eW (c.getD k default) hs1
  have hsp:=mW (c:=c) (k:=k)
  by_cases he:bo (c.getD k default) ≠ 0
  ·rw [if_pos he] at hsp
   rw [bT hk h2 (by rw [hsp]; exact he),hsp]
   have z:decide (bo (c.getD k default) ≠ 0)=true:=decide_eq_true he
   (have zz:=aI @ao (aI @ix @z); repeat' (first|refine zW ?_|apply a_n|apply a_r|refine zO ?_|refine vY ?_|refine cY ?_ (hp:=hp) (hs:=by (first | refine aa ?_ rfl | apply ac); (repeat' (first | exact ab | apply ag | apply ae | exact aw _)); first | done | fail)|refine cTY ?_|(refine zGY ?_ ?_ <;> (intro _hg; try (exfalso; omega)))|refine af rfl ?_|refine r1Y ?_|fail)) <;> (try clear zz)
   exact .int _ _
  rw [if_neg he] at hsp
  have he:=Decidable.of_not_not he
  rw [he] at hp
  have z:decide ((0:Int) ≠ 0)=false:=rfl
  by_cases hk0:0 < k
  rotate_left
  ·rw [if_neg (fun h=>hk0 h.1)] at hsp
   have zk:decide (0 < (k:Int))=false:=decide_eq_false (by omega)
   (have zz:=aI @ao (aI @ix (aI @z @zk)); repeat' (first|refine zW ?_|apply a_n|refine zO ?_|refine vY ?_|refine cY ?_ (hp:=hp) (hs:=by (first | refine aa ?_ rfl | apply ac); (repeat' (first | exact ab | apply ag | apply ae | exact aw _)); first | done | fail)|refine gFY ?_|refine cFY ?_|(refine zGY ?_ ?_ <;> (intro _hg; try (exfalso; omega)))|fail)) <;> (try clear zz)
   exact ⟨k + 1,by omega,⟨by omega,g0,fun i hi=>by
    rcases Nat.lt_succ_iff_lt_or_eq.1 hi with h' | rfl
    ·exact h2 i h'
    ·exact hsp⟩,ag0⟩
  have zk:decide (0 < (k:Int))=true:=decide_eq_true (by omega)
  have iy:dR 1 (aC c) (.int .i64 ((k:Int) - 1))=some (.iptr [aq (c.getD (k - 1) default)] 0):=by
   have:=eT (l:=c) (k:=k - 1) (by omega)
   rwa [show ((k - 1:Nat):Int)=(k:Int) - 1 by omega] at this
  have hcm:=gY (c.getD (k - 1) default) (c.getD k default) (hs _ (aY (by omega))) hs1
  by_cases hv:0 ≤ bB (c.getD (k - 1) default) (c.getD k default)
  ·have z2:decide (0 ≤ bB (c.getD (k - 1) default) (c.getD k default))=true:=decide_eq_true hv
   rw [if_pos ⟨hk0,hv⟩] at hsp
   rw [bT hk h2 (by rw [hsp]; decide),hsp]
   (have zz:=aI @ao (aI @ix (aI @iy (aI @z (aI @zk (aI @z2 @g0))))); repeat' (first|refine zW ?_|apply a_n|apply a_r|refine zO ?_|refine vY ?_|refine cY ?_ (hp:=by first | exact hp | exact hcm) (hs:=by (first | refine aa ?_ rfl | apply ac); (repeat' (first | exact ab | apply ag | apply ae | exact aw _)); first | done | fail)|refine gTY ?_|refine cTY ?_|refine cFY ?_|(refine zGY ?_ ?_ <;> (intro _hg; try (exfalso; omega)))|refine af rfl ?_|refine r1Y ?_|fail)) <;> (try clear zz)
   exact .int _ _
  ·have z2:decide (0 ≤ bB (c.getD (k - 1) default) (c.getD k default))=false:=decide_eq_false hv
   rw [if_neg (fun h=>hv h.2)] at hsp
   (have zz:=aI @ao (aI @ix (aI @iy (aI @z (aI @zk (aI @z2 @g0))))); repeat' (first|refine zW ?_|apply a_n|refine zO ?_|refine vY ?_|refine cY ?_ (hp:=by first | exact hp | exact hcm) (hs:=by (first | refine aa ?_ rfl | apply ac); (repeat' (first | exact ab | apply ag | apply ae | exact aw _)); first | done | fail)|refine gTY ?_|refine cFY ?_|(refine zGY ?_ ?_ <;> (intro _hg; try (exfalso; omega)))|fail)) <;> (try clear zz)
   exact ⟨k + 1,by omega,⟨by omega,g0,fun i hi=>by
    rcases Nat.lt_succ_iff_lt_or_eq.1 hi with h' | rfl
    ·exact h2 i h'
    ·exact hsp⟩,ag0⟩
 have hz:=Decidable.of_not_not hz
 rw [if_neg (fun h=>h hz)]
 obtain ⟨a1,a2⟩:=rT hz
 have hall:=eP hz
 have hok:=vD (by omega) a1
 refine aV (fun T H nx=>T 1=.ptr 0 1 0∧H 0=some [aC c]∧1 ≤ nx) ?_ ?_
 ·(have zz:=aI @ao (aI @aB @av); repeat' (first|refine zW ?_|apply a_n|refine zO ?_|refine vZ ?_|fail)) <;> (try clear zz)
  refine aS (X:=Nat) (fun k=>[(1,.ptr 0 1 0),(14,aC c),(15,.int .i64 c.length),(16,.int .i64 k)]) (fun k H nx=>k ≤ c.length∧H 0=some [aC c]∧1 ≤ nx) (fun k=>c.length - k) 0 ⟨Nat.zero_le _,rfl,by omega⟩ (by (iterate 4 refine And.intro rfl ?_); trivial) ?_
  rintro k H nx ⟨h1,g0,hnx⟩
  by_cases hk:k < c.length
  rotate_left
  ·(have zz:=and_self; repeat' (first|refine zW ?_|apply a_n|apply a_x|refine zO ?_|refine vY ?_|(refine zGY ?_ ?_ <;> (intro _hg; try (exfalso; omega)))|fail)) <;> (try clear zz)
   exact ⟨rfl,g0,hnx⟩
  have ix:=eT hk
  have hs1:=hs _ (aY hk)
  have hp:=eW (c.getD k default) hs1
  rw [a1 _ (aY hk)] at hp
  have z:decide ((0:Int) ≠ 0)=false:=rfl
  by_cases hk0:0 < k
  rotate_left
  ·have zk:decide (0 < (k:Int))=false:=decide_eq_false (by omega)
   (have zz:=aI @ao (aI @ix (aI @z @zk)); repeat' (first|refine zW ?_|apply a_n|refine zO ?_|refine vY ?_|refine cY ?_ (hp:=hp) (hs:=by (first | refine aa ?_ rfl | apply ac); (repeat' (first | exact ab | apply ag | apply ae | exact aw _)); first | done | fail)|refine gFY ?_|refine cFY ?_|(refine zGY ?_ ?_ <;> (intro _hg; try (exfalso; omega)))|fail)) <;> (try clear zz)
   exact ⟨k + 1,by omega,⟨by omega,g0,hnx⟩,ag0⟩
  have zk:decide (0 < (k:Int))=true:=decide_eq_true (by omega)
  have iy:dR 1 (aC c) (.int .i64 ((k:Int) - 1))=some (.iptr [aq (c.getD (k - 1) default)] 0):=by
   have:=eT (l:=c) (k:=k - 1) (by omega)
   rwa [show ((k - 1:Nat):Int)=(k:Int) - 1 by omega] at this
  have hcm:=gY (c.getD (k - 1) default) (c.getD k default) (hs _ (aY (by omega))) hs1
  have z2:decide (0 ≤ bB (c.getD (k - 1) default) (c.getD k default))=false:=decide_eq_false (by have:=dh a2 (i:=k - 1) (j:=k) (by omega) hk; omega)
  (have zz:=aI @ao (aI @ix (aI @iy (aI @z (aI @zk (aI @z2 @g0))))); repeat' (first|refine zW ?_|apply a_n|refine zO ?_|refine vY ?_|refine cY ?_ (hp:=by first | exact hp | exact hcm) (hs:=by (first | refine aa ?_ rfl | apply ac); (repeat' (first | exact ab | apply ag | apply ae | exact aw _)); first | done | fail)|refine gTY ?_|refine cFY ?_|(refine zGY ?_ ?_ <;> (intro _hg; try (exfalso; omega)))|fail)) <;> (try clear zz)
  exact ⟨k + 1,by omega,⟨by omega,g0,hnx⟩,ag0⟩
 rintro T H nx ⟨t1,g0,hnx⟩
 (have zz:=aI @t1 @g0; repeat' (first|refine zW ?_|apply a_n|refine zO ?_|refine vY ?_|fail)) <;> (try clear zz)
 refine ay ev0 (have zz:=@t1; evZ) (kJ c hok.1 (fun s hs=>⟨(hok.2 s hs).1,by have:=(hok.2 s hs).2; omega⟩) _ _) ?_
 rintro _ H1 nx1 ⟨ks,vs,rfl,hinc,hsame,hlt⟩
 have g0':H1 0=some [aC c]:=(hsame 0 (by omega)).trans g0
 (have zz:=aI @t1 (aI @g0' @ao); repeat' (first|refine zW ?_|apply a_n|refine zO ?_|refine vY ?_|fail)) <;> (try clear zz)
 refine aS (X:=Nat) (fun k=>[(1,.ptr 0 1 0),(6,.mp nx),(44,aC c),(45,.int .i64 c.length),(46,.int .i64 k)]) (fun k H' nx'=>k ≤ c.length∧H'=H1∧nx'=nx1∧∀ i,i < k→bd c (c.getD i default)=false) (fun k=>c.length - k) 0 ⟨Nat.zero_le _,rfl,rfl,fun i h=>absurd h (by omega)⟩ (have zz:=@t1; agZ) ?_
 rintro k H' nx' ⟨h1,rfl,rfl,h2⟩
 by_cases hk:k < c.length
 rotate_left
 ·rw [eO fun i hi=>h2 i (by omega),if_neg (by decide)]
  (have zz:=and_self; repeat' (first|refine zW ?_|apply a_n|apply a_x|refine zO ?_|refine vY ?_|(refine zGY ?_ ?_ <;> (intro _hg; try (exfalso; omega)))|refine af rfl ?_|refine r1Y ?_|fail)) <;> (try clear zz)
  exact .int _ _
 have ix:=eT hk
 obtain ⟨p1,p2,p3,p4⟩:=bH (a1 _ (aY hk))
 have hcv:=nP c (c.getD k default) hok (hok.2 _ (aY hk)) (by omega)
 have iy:=ix2 (l:=c.getD k default) (k:=0) (by omega)
 rw [show ((0:Nat):Int)=0 from rfl] at iy
 have hks:(c.getD k default).getD 0 default ∈ ks:=(hinc.dom _).2 fun e=>by
  have:k ∈ gf c c.length ((c.getD k default).getD 0 default):=List.mem_filter.2 ⟨List.mem_range.2 hk,decide_eq_true (aY (by omega))⟩
  rw [e] at this; cases this
 have hmf:=lA ((c.getD k default).getD 0 default) ks
 rw [if_pos hks] at hmf
 obtain ⟨m1,m2⟩:=hO hks
 have hr:=hinc.row _ m1
 rw [m2] at hr
 have hcb:bd c (c.getD k default)=true→c.any (bd c)=true:=fun h=>List.any_eq_true.2 ⟨_,aY hk,h⟩
 generalize hsk:c.getD k default=s at *
 (have zz:=@ix; repeat' (first|refine zW ?_|apply a_n|refine zO ?_|refine vY ?_|(refine zGY ?_ ?_ <;> (intro _hg; try (exfalso; omega)))|fail)) <;> (try clear zz)
 refine oM 0 g0' fun S hS0 hsub'=>?_
 have hsub:=hsub' H' g0'
 (have zz:=aI @hS0 @iy; repeat' (first|apply a_n|refine zO ?_|refine nvY ?_|fail)) <;> (try clear zz)
 refine rl ?_
 refine oL ev0 hinc.box ev0 (mc _) hmf ?_
 refine vh ⟨hsub,?_⟩
 rw [show mget .esl false (some (ks.idxOf (s.getD 0 default))) vs=vs.getD (ks.idxOf (s.getD 0 default)) .undef from rfl]
 refine py ?_
 cases hb:bd c s
 ·rw [hb] at hcv
  refine bN ev0 ev0 hcv (aa (ap (bh _ _) (ap (qg hr) (ap (aw _ _) ab))) rfl) ?_
  (have zz:=and_self; repeat' (first|apply a_n|refine zO ?_|refine vY ?_|refine cFY ?_|fail)) <;> (try clear zz)
  exact ⟨k + 1,by omega,⟨by omega,rfl,rfl,fun i hi=>by
   rcases Nat.lt_succ_iff_lt_or_eq.1 hi with h' | rfl
   ·exact h2 i h'
   ·rw [hsk]; exact hb⟩,ag0⟩
 ·rw [hb] at hcv
  rw [hcb hb,if_pos rfl]
  refine bN ev0 ev0 hcv (aa (ap (bh _ _) (ap (qg hr) (ap (aw _ _) ab))) rfl) ?_
  (have zz:=and_self; repeat' (first|refine zW ?_|apply a_n|apply a_r|refine zO ?_|refine vY ?_|refine cTY ?_|refine af rfl ?_|refine r1Y ?_|fail)) <;> (try clear zz)
  exact .int _ _
end Go.Proofs.YtpfkjcjgdilkkaaGreat
namespace Go.Proofs.YtpfkjcjgdilkkaaGreat
open Go Go.Abs
theorem ui {c:List Spx} (h1:∀ s ∈ c,cf bl s) (h2:cf bB c) {i k:Nat} (hi:i < c.length) (hk:k < c.length) (hik:i ≠ k) (h:bw (c.getD i default) (c.getD k default)=true):bd c (c.getD i default)=true:=by
 refine bF.2 ⟨_,aY hk,yj (h1 _ (aY hi)) (h1 _ (aY hk)) (bO.1 h) fun e=>?_,bO.1 h⟩
 rcases Nat.lt_trichotomy i k with q | q | q
 ·have:=dh h2 q hk; rw [e] at this; exact qG.ord.irr _ this
 ·exact hik q
 ·have:=dh h2 q hi; rw [e] at this; exact qG.ord.irr _ this
theorem vM {c:List Spx} {i:Nat} (h:bd c (c.getD i default)=true):∃ k,k < c.length∧i ≠ k∧bw (c.getD i default) (c.getD k default)=true:=by
 obtain ⟨t,ht,h1,h2⟩:=bF.1 h
 obtain ⟨k,hk,rfl⟩:=List.getElem_of_mem ht
 have e:c.getD k default=c[k]:=by simp [List.getD,hk]
 refine ⟨k,hk,fun hik=>?_,by rw [e]; exact bO.2 h2⟩
 subst hik
 rw [e] at h1; omega
attribute [local irreducible] aD ah aX aP aH aK az aL aR be Go.Abs.Fn aO Go.Abs.Pure ar aE Yl
set_option maxHeartbeats 2000000 in
theorem wE (c:List Spx) (hc:Shn c) (hs:∀ s ∈ c,Shn s):Pure Tryz.prog 23 [c9 c] (.int .i64 (aJ c)):=by
 refine Pure.of_c2 follows Bs (Nat.le_of_ble_eq_true rfl) ?_
 simp only [b23,cO,cG,cN,cM,cD,cF,cB,ax,aN]
 have hc':c.length ≤ 17592186044416:=hc
 by_cases h0:4096 < c.length
 ·rw [show aJ c=5 by unfold aJ; rw [if_pos h0]]
  (have zz:=aI @ao (aI @aB @av); repeat' (first|refine zW ?_|apply a_n|apply a_r|refine zO ?_|refine vZ ?_|refine bxZ ?_|(refine zGZ ?_ ?_ <;> (intro _hg; try (exfalso; omega)))|refine af rfl ?_|refine r1Z ?_|fail)) <;> (try clear zz)
  all_goals exact bP rfl
 rw [show aJ c=if bW (iz c) c.length ≠ 0 then bW (iz c) c.length else if c.any (bd c)=true then 7 else 0 by unfold aJ; rw [if_neg h0]]
 refine cQ ?_
 (have zz:=aI @ao (aI @aB @av); repeat' (first|apply a_n|refine zO ?_|refine vZ ?_|refine bxZ ?_|fail)) <;> (try clear zz)
 refine cQ ?_
 (have zz:=aI @ao (aI @aB @av); repeat' (first|apply a_n|refine zO ?_|refine vZ ?_|fail)) <;> (try clear zz)
 refine cQ (cQ ?_)
 (have zz:=aI @ao (aI @aB @av); repeat' (first|apply a_n|refine zO ?_|refine vZ ?_|(refine zGZ ?_ ?_ <;> (intro _hg; try (exfalso; omega)))|fail)) <;> (try clear zz)
 by_cases hz:bW (iz c) c.length ≠ 0
 ·rw [if_pos hz]
  (have zz:=aI @ao (aI @aB @av); repeat' (first|refine zW ?_|apply a_n|refine zO ?_|refine vZ ?_|fail)) <;> (try clear zz)
  refine aS (X:=Nat) (fun k=>[(3,aC c),(4,.int .i64 k)]) (fun k H nx=>k ≤ c.length∧∀ i,i < k→iz c i=0) (fun k=>c.length - k) 0 ⟨Nat.zero_le _,fun i h=>absurd h (by omega)⟩ ag0 ?_
  rintro k H nx ⟨h1,h2⟩
  by_cases hk:k < c.length
  rotate_left
  ·exact absurd (bZ fun i hi=>h2 i (by omega)) hz
  have ix:=eT hk
  have hs1:=hs _ (aY hk)
  have hp:=r7 (c.getD k default) hs1
  have hsp:=mW (c:=c) (k:=k)
  by_cases he:bo (c.getD k default) ≠ 0
  ·rw [if_pos he] at hsp
   rw [bT hk h2 (by rw [hsp]; exact he),hsp]
   have z:decide (bo (c.getD k default) ≠ 0)=true:=decide_eq_true he
   (have zz:=aI @ao (aI @ix @z); repeat' (first|refine zW ?_|apply a_n|apply a_r|refine zO ?_|refine vY ?_|refine cY ?_ (hp:=hp) (hs:=by (first | refine aa ?_ rfl | apply ac); (repeat' (first | exact ab | apply ag | apply ae | exact aw _)); first | done | fail)|refine cTY ?_|(refine zGY ?_ ?_ <;> (intro _hg; try (exfalso; omega)))|refine af rfl ?_|refine r1Y ?_|fail)) <;> (try clear zz)
   exact .int _ _
  rw [if_neg he] at hsp
  have he:=Decidable.of_not_not he
  rw [he] at hp
  have z:decide ((0:Int) ≠ 0)=false:=rfl
  by_cases hk0:0 < k
  rotate_left
  ·rw [if_neg (fun h=>hk0 h.1)] at hsp
   have zk:decide (0 < (k:Int))=false:=decide_eq_false (by omega)
   (have zz:=aI @ao (aI @ix (aI @z @zk)); repeat' (first|refine zW ?_|refine zM ?_|apply a_n|refine zO ?_|refine vY ?_|refine cY ?_ (hp:=hp) (hs:=by (first | refine aa ?_ rfl | apply ac); (repeat' (first | exact ab | apply ag | apply ae | exact aw _)); first | done | fail)|refine gFY ?_|refine cFY ?_|(refine zGY ?_ ?_ <;> (intro _hg; try (exfalso; omega)))|fail)) <;> (try clear zz)
   exact ⟨k + 1,by omega,⟨by omega,fun i hi=>by
    rcases Nat.lt_succ_iff_lt_or_eq.1 hi with h' | rfl
    ·exact h2 i h'
    ·exact hsp⟩,ag0⟩
  have zk:decide (0 < (k:Int))=true:=decide_eq_true (by omega)
  have iy:dR 1 (aC c) (.int .i64 ((k:Int) - 1))=some (.iptr [aq (c.getD (k - 1) default)] 0):=by
   have:=eT (l:=c) (k:=k - 1) (by omega)
   rwa [show ((k - 1:Nat):Int)=(k:Int) - 1 by omega] at this
  have hcm:=mV (c.getD (k - 1) default) (c.getD k default) (hs _ (aY (by omega))) hs1
  by_cases hv:0 ≤ bB (c.getD (k - 1) default) (c.getD k default)
  ·have z2:decide (0 ≤ bB (c.getD (k - 1) default) (c.getD k default))=true:=decide_eq_true hv
   rw [if_pos ⟨hk0,hv⟩] at hsp
   rw [bT hk h2 (by rw [hsp]; decide),hsp]
   (have zz:=aI @ao (aI @ix (aI @iy (aI @z (aI @zk @z2)))); repeat' (first|refine zW ?_|refine zM ?_|apply a_n|apply a_r|refine zO ?_|refine vY ?_|refine cY ?_ (hp:=by first | exact hp | exact hcm) (hs:=by (first | refine aa ?_ rfl | apply ac); (repeat' (first | exact ab | apply ag | apply ae | exact aw _)); first | done | fail)|refine gTY ?_|refine cTY ?_|refine cFY ?_|(refine zGY ?_ ?_ <;> (intro _hg; try (exfalso; omega)))|refine af rfl ?_|refine r1Y ?_|fail)) <;> (try clear zz)
   exact .int _ _
  ·have z2:decide (0 ≤ bB (c.getD (k - 1) default) (c.getD k default))=false:=decide_eq_false hv
   rw [if_neg (fun h=>hv h.2)] at hsp
   (have zz:=aI @ao (aI @ix (aI @iy (aI @z (aI @zk @z2)))); repeat' (first|refine zW ?_|refine zM ?_|apply a_n|refine zO ?_|refine vY ?_|refine cY ?_ (hp:=by first | exact hp | exact hcm) (hs:=by (first | refine aa ?_ rfl | apply ac); (repeat' (first | exact ab | apply ag | apply ae | exact aw _)); first | done | fail)|refine gTY ?_|refine cFY ?_|(refine zGY ?_ ?_ <;> (intro _hg; try (exfalso; omega)))|fail)) <;> (try clear zz)
   exact ⟨k + 1,by omega,⟨by omega,fun i hi=>by
    rcases Nat.lt_succ_iff_lt_or_eq.1 hi with h' | rfl
    ·exact h2 i h'
    ·exact hsp⟩,ag0⟩
 have hz:=Decidable.of_not_not hz
 rw [if_neg (fun h=>h hz)]
 obtain ⟨a1,a2⟩:=rT hz
 have hok:=vD (by omega) a1
 refine aV (fun T H nx=>T 3=aC c) ?_ ?_
 ·(have zz:=aI @ao (aI @aB @av); repeat' (first|refine zW ?_|apply a_n|refine zO ?_|refine vZ ?_|fail)) <;> (try clear zz)
  refine aS (X:=Nat) (fun k=>[(3,aC c),(4,.int .i64 k)]) (fun k H nx=>k ≤ c.length) (fun k=>c.length - k) 0 (Nat.zero_le _) ag0 ?_
  rintro k H nx h1
  by_cases hk:k < c.length
  rotate_left
  ·(have zz:=@ao; repeat' (first|refine zW ?_|apply a_n|apply a_x|refine zO ?_|refine vY ?_|(refine zGY ?_ ?_ <;> (intro _hg; try (exfalso; omega)))|fail)) <;> (try clear zz)
   exact rfl
  have ix:=eT hk
  have hs1:=hs _ (aY hk)
  have hp:=r7 (c.getD k default) hs1
  rw [a1 _ (aY hk)] at hp
  have z:decide ((0:Int) ≠ 0)=false:=rfl
  by_cases hk0:0 < k
  rotate_left
  ·have zk:decide (0 < (k:Int))=false:=decide_eq_false (by omega)
   (have zz:=aI @ao (aI @ix (aI @z @zk)); repeat' (first|refine zW ?_|refine zM ?_|apply a_n|refine zO ?_|refine vY ?_|refine cY ?_ (hp:=hp) (hs:=by (first | refine aa ?_ rfl | apply ac); (repeat' (first | exact ab | apply ag | apply ae | exact aw _)); first | done | fail)|refine gFY ?_|refine cFY ?_|(refine zGY ?_ ?_ <;> (intro _hg; try (exfalso; omega)))|fail)) <;> (try clear zz)
   exact ⟨k + 1,by omega,by omega,ag0⟩
  have zk:decide (0 < (k:Int))=true:=decide_eq_true (by omega)
  have iy:dR 1 (aC c) (.int .i64 ((k:Int) - 1))=some (.iptr [aq (c.getD (k - 1) default)] 0):=by
   have:=eT (l:=c) (k:=k - 1) (by omega)
   rwa [show ((k - 1:Nat):Int)=(k:Int) - 1 by omega] at this
  have hcm:=mV (c.getD (k - 1) default) (c.getD k default) (hs _ (aY (by omega))) hs1
  have z2:decide (0 ≤ bB (c.getD (k - 1) default) (c.getD k default))=false:=decide_eq_false (by have:=dh a2 (i:=k - 1) (j:=k) (by omega) hk; omega)
  (have zz:=aI @ao (aI @ix (aI @iy (aI @z (aI @zk @z2)))); repeat' (first|refine zW ?_|refine zM ?_|apply a_n|refine zO ?_|refine vY ?_|refine cY ?_ (hp:=by first | exact hp | exact hcm) (hs:=by (first | refine aa ?_ rfl | apply ac); (repeat' (first | exact ab | apply ag | apply ae | exact aw _)); first | done | fail)|refine gTY ?_|refine cFY ?_|(refine zGY ?_ ?_ <;> (intro _hg; try (exfalso; omega)))|fail)) <;> (try clear zz)
  exact ⟨k + 1,by omega,by omega,ag0⟩
 rintro T H nx t3
 (have zz:=@t3; repeat' (first|refine zW ?_|apply a_n|refine zO ?_|refine vY ?_|fail)) <;> (try clear zz)
 refine aS (X:=Nat) (fun k=>[(3,aC c),(6,.int .i64 k)]) (fun k H' nx'=>k ≤ c.length∧∀ i,i < k→bd c (c.getD i default)=false) (fun k=>c.length - k) 0 ⟨Nat.zero_le _,fun i h=>absurd h (by omega)⟩ (have zz:=@t3; agZ) ?_
 clear t3
 rintro i H1 nx1 ⟨h1,h2⟩
 by_cases hi:i < c.length
 rotate_left
 ·rw [eO fun i hi=>h2 i (by omega),if_neg (by decide)]
  (have zz:=@ao; repeat' (first|refine zW ?_|apply a_n|apply a_x|refine zO ?_|refine vY ?_|(refine zGY ?_ ?_ <;> (intro _hg; try (exfalso; omega)))|refine af rfl ?_|refine r1Y ?_|fail)) <;> (try clear zz)
  exact .int _ _
 (have zz:=@ao; repeat' (first|refine zW ?_|apply a_n|refine zO ?_|refine vY ?_|(refine zGY ?_ ?_ <;> (intro _hg; try (exfalso; omega)))|fail)) <;> (try clear zz)
 refine aS (X:=Nat) (fun k=>[(3,aC c),(6,.int .i64 i),(7,.int .i64 k)]) (fun k H' nx'=>k ≤ c.length∧∀ j,j < k→i ≠ j→bw (c.getD i default) (c.getD j default)=false) (fun k=>c.length - k) 0 ⟨Nat.zero_le _,fun i h=>absurd h (by omega)⟩ ag0 ?_
 rintro k H2 nx2 ⟨k1,k2⟩
 by_cases hk:k < c.length
 rotate_left
 ·(have zz:=@ao; repeat' (first|refine zW ?_|apply a_n|apply a_x|refine zO ?_|refine vY ?_|(refine zGY ?_ ?_ <;> (intro _hg; try (exfalso; omega)))|fail)) <;> (try clear zz)
  refine ⟨i + 1,by omega,⟨by omega,fun j hj=>?_⟩,ag0⟩
  rcases Nat.lt_succ_iff_lt_or_eq.1 hj with h' | rfl
  ·exact h2 j h'
  ·cases hb:bd c (c.getD j default)
   ·rfl
   ·obtain ⟨q,q1,q2,q3⟩:=vM hb
    rw [k2 q (by omega) q2] at q3; cases q3
 have ix:=eT hi
 have iy:=eT hk
 by_cases hik:i=k
 ·have z:decide ((i:Int) ≠ (k:Int))=false:=decide_eq_false (by omega)
  (have zz:=aI @ao @z; repeat' (first|refine zW ?_|refine zM ?_|apply a_n|refine zO ?_|refine vY ?_|refine gFY ?_|refine cFY ?_|(refine zGY ?_ ?_ <;> (intro _hg; try (exfalso; omega)))|fail)) <;> (try clear zz)
  exact ⟨k + 1,by omega,⟨by omega,fun j hj hij=>k2 j (by omega) hij⟩,ag0⟩
 have z:decide ((i:Int) ≠ (k:Int))=true:=decide_eq_true (by omega)
 have hin:=ut (c.getD i default) (c.getD k default) (hs _ (aY hi)) (hs _ (aY hk))
 have ht:=ui (fun s hs=>(hok.2 s hs).1) a2 hi hk hik
 cases hb:bw (c.getD i default) (c.getD k default)
 ·rw [hb] at hin
  (have zz:=aI @ao (aI @ix (aI @iy @z)); repeat' (first|refine zW ?_|refine zM ?_|apply a_n|refine zO ?_|refine vY ?_|refine cY ?_ (hp:=hin) (hs:=by (first | refine aa ?_ rfl | apply ac); (repeat' (first | exact ab | apply ag | apply ae | exact aw _)); first | done | fail)|refine gTY ?_|refine cFY ?_|(refine zGY ?_ ?_ <;> (intro _hg; try (exfalso; omega)))|fail)) <;> (try clear zz)
  exact ⟨k + 1,by omega,⟨by omega,fun j hj hij=>by
   rcases Nat.lt_succ_iff_lt_or_eq.1 hj with h' | rfl
   ·exact k2 j h' hij
   ·exact hb⟩,ag0⟩
 ·rw [hb] at hin
  rw [if_pos (List.any_eq_true.2 ⟨_,aY hi,ht hb⟩)]
  (have zz:=aI @ao (aI @ix (aI @iy @z)); repeat' (first|refine zW ?_|refine zM ?_|apply a_n|apply a_r|refine zO ?_|refine vY ?_|refine cY ?_ (hp:=hin) (hs:=by (first | refine aa ?_ rfl | apply ac); (repeat' (first | exact ab | apply ag | apply ae | exact aw _)); first | done | fail)|refine gTY ?_|refine cTY ?_|(refine zGY ?_ ?_ <;> (intro _hg; try (exfalso; omega)))|refine af rfl ?_|refine r1Y ?_|fail)) <;> (try clear zz)
  exact .int _ _
end Go.Proofs.YtpfkjcjgdilkkaaGreat
namespace Go.Proofs.YtpfkjcjgdilkkaaGreat
open Go Go.Abs
structure MapV where
 fr:Spx
 to:Spx
 deriving Inhabited,DecidableEq
abbrev pe (m:MapV):AV:=.agg [aq m.fr,aq m.to]
theorem jd (m:MapV):Dat (pe m):=Dat.agg (DatL.cons (aw _) (DatL.cons (aw _) DatL.nil))
instance datI_encM {m:MapV}:DatI (pe m):=⟨jd m⟩
abbrev ShM (m:MapV):Prop:=Shn m.fr∧Shn m.to
def pM (m:MapV) (k:Nat):Int:=if bv (m.fr.getD k default)=false ∨ bv (m.to.getD k default)=false then 2 else if 0 < k∧0 ≤ bl (m.fr.getD (k - 1) default) (m.fr.getD k default) then 14 else 0
def dI (m:MapV):Int:=if 4096 < m.fr.length then 5 else if m.to.length ≠ m.fr.length then 15 else bW (pM m) m.fr.length
theorem iG {m:MapV} (h:dI m=0):m.fr.length ≤ 4096∧m.to.length=m.fr.length∧cf bl m.fr∧(∀ v ∈ m.fr,bv v=true)∧∀ v ∈ m.to,bv v=true:=by
 unfold dI at h
 split at h
 ·exact absurd h (by decide)
 split at h
 ·exact absurd h (by decide)
 rename_i h1 h2
 have h2:=Decidable.of_not_not h2
 have hz:=eP h
 have h3:∀ k,k < m.fr.length→(bv (m.fr.getD k default)=true∧bv (m.to.getD k default)=true)∧(0 < k→bl (m.fr.getD (k - 1) default) (m.fr.getD k default) < 0):=fun k hk=>by
  have:=hz k hk
  unfold pM at this
  split at this
  ·exact absurd this (by decide)
  rename_i g1
  split at this
  ·exact absurd this (by decide)
  rename_i g2
  exact ⟨⟨by cases hr:bv (m.fr.getD k default) with
   | true=>rfl
   | false=>exact absurd (.inl hr) g1,by cases hr:bv (m.to.getD k default) with
   | true=>rfl
   | false=>exact absurd (.inr hr) g1⟩,fun h0=>by omega⟩
 refine ⟨by omega,h2,?_,fun v hv=>?_,fun v hv=>?_⟩
 ·have step:∀ j i,i < j→j < m.fr.length→bl (m.fr.getD i default) (m.fr.getD j default) < 0:=by
    intro j
    induction j with
    | zero=>intro i h; omega
    | succ j ih =>
     intro i hi hj
     have hs:=(h3 (j + 1) hj).2 (by omega)
     rw [Nat.add_sub_cancel] at hs
     by_cases e:i=j
     ·subst e; exact hs
     ·exact iO.trans (ih i (by omega) (by omega)) hs
  unfold cf
  rw [List.pairwise_iff_getElem]
  intro i j hi hj hij
  have:=step j i hij hj
  simpa [List.getD,hi,hj] using this
 ·obtain ⟨i,hi,rfl⟩:=List.getElem_of_mem hv
  have:=(h3 i hi).1.1
  simpa [List.getD,hi] using this
 ·obtain ⟨i,hi,rfl⟩:=List.getElem_of_mem hv
  have:=(h3 i (by omega)).1.2
  simpa [List.getD,hi] using this
def iW (m:MapV) (v:Vtx):Vtx:=m.to.getD (m.fr.idxOf v) default
theorem ra {m:MapV} {k:Nat}:pM m k=if bv (m.fr.getD k default)=false ∨ bv (m.to.getD k default)=false then 2 else if 0 < k∧0 ≤ bl (m.fr.getD (k - 1) default) (m.fr.getD k default) then 14 else 0:=rfl
attribute [local irreducible] aD ah aX aP aH aK az aL aR be Go.Abs.Fn aO Go.Abs.Pure ar aE Yl
theorem vw (m:MapV) (hm:ShM m):Pure Tryz.prog 44 [pe m] (.int .i64 (dI m)):=by
 refine Pure.of_c2 follows z8 (Nat.le_of_ble_eq_true rfl) ?_
 simp only [b44,cO,cG,cN,cM,cD,cF,cB,ax,aN]
 obtain ⟨hm1,hm2⟩:=hm
 have hm1':m.fr.length ≤ 17592186044416:=hm1
 have hm2':m.to.length ≤ 17592186044416:=hm2
 by_cases h0:4096 < m.fr.length
 ·rw [show dI m=5 by unfold dI; rw [if_pos h0]]
  (have zz:=aI @ak (aI @a9 @aQ); repeat' (first|refine zW ?_|apply a_n|apply a_r|refine zO ?_|refine vZ ?_|refine bxZ ?_|(refine zGZ ?_ ?_ <;> (intro _hg; try (exfalso; omega)))|refine af rfl ?_|refine r1Z ?_|fail)) <;> (try clear zz)
  all_goals exact bP rfl
 by_cases h8:m.to.length ≠ m.fr.length
 ·rw [show dI m=15 by unfold dI; rw [if_neg h0,if_pos h8]]
  have z:decide ((m.to.length:Int) ≠ m.fr.length)=true:=decide_eq_true (by omega)
  (have zz:=aI @ak (aI @a9 (aI @aQ @z)); repeat' (first|refine zW ?_|apply a_n|apply a_r|refine zO ?_|refine vZ ?_|refine bxZ ?_|refine cTZ ?_|(refine zGZ ?_ ?_ <;> (intro _hg; try (exfalso; omega)))|refine af rfl ?_|refine r1Z ?_|fail)) <;> (try clear zz)
  all_goals exact bP rfl
 rw [show dI m=bW (pM m) m.fr.length by unfold dI; rw [if_neg h0,if_neg h8]]
 have h8':=Decidable.of_not_not h8
 have z:decide ((m.to.length:Int) ≠ m.fr.length)=false:=decide_eq_false (by omega)
 (have zz:=aI @ak (aI @a9 (aI @aQ @z)); repeat' (first|refine zW ?_|apply a_n|refine zO ?_|refine vZ ?_|refine bxZ ?_|refine cFZ ?_|(refine zGZ ?_ ?_ <;> (intro _hg; try (exfalso; omega)))|fail)) <;> (try clear zz)
 refine aS (X:=Nat) (fun k=>[(1,.ptr 0 2 0),(19,aq m.fr),(20,.int .i64 m.fr.length),(21,.int .i64 k)]) (fun k H nx=>k ≤ m.fr.length∧H 0=some [aq m.fr,aq m.to]∧1 ≤ nx∧∀ i,i < k→pM m i=0) (fun k=>m.fr.length - k) 0 ⟨Nat.zero_le _,rfl,by omega,fun i h=>absurd h (by omega)⟩ (by (iterate 4 refine And.intro rfl ?_); trivial) ?_
 rintro k H nx ⟨h1,g0,hnx,h2⟩
 by_cases hk:k < m.fr.length
 rotate_left
 ·rw [bZ fun i hi=>h2 i (by omega)]
  (have zz:=@ak; repeat' (first|refine zW ?_|apply a_n|apply a_x|refine zO ?_|refine vY ?_|(refine zGY ?_ ?_ <;> (intro _hg; try (exfalso; omega)))|refine af rfl ?_|refine r1Y ?_|fail)) <;> (try clear zz)
  exact .int _ _
 have ix:=ix2 hk
 have it:=ix2 (l:=m.to) (k:=k) (by omega)
 have hp:=qL (m.fr.getD k default)
 have hq:=qL (m.to.getD k default)
 have hs:=ra (m:=m) (k:=k)
 have done:pM m k=0→∀ i,i < k + 1→pM m i=0:=fun h i hi=>by
  rcases Nat.lt_succ_iff_lt_or_eq.1 hi with h' | rfl
  ·exact h2 i h'
  ·exact h
 cases hr:bv (m.fr.getD k default)
 ·rw [hr] at hp
  rw [if_pos (.inl hr)] at hs
  rw [bT hk h2 (by rw [hs]; decide),hs]
  (have zz:=aI @ak (aI @ix (aI @it @g0)); repeat' (first|refine zW ?_|apply a_n|apply a_r|refine zO ?_|refine vY ?_|refine cY ?_ (hp:=hp) (hs:=by (first | refine aa ?_ rfl | apply ac); (repeat' (first | exact ab | apply ag | apply ae | exact bj _)); first | done | fail)|refine alY ?_|refine stY ?_|refine gFY ?_|refine cTY ?_|(refine zGY ?_ ?_ <;> (intro _hg; try (exfalso; omega)))|refine af rfl ?_|refine r1Y ?_|fail)) <;> (try clear zz)
  exact .int _ _
 rw [hr] at hp
 cases hr2:bv (m.to.getD k default)
 ·rw [hr2] at hq
  rw [if_pos (.inr hr2)] at hs
  rw [bT hk h2 (by rw [hs]; decide),hs]
  (have zz:=aI @ak (aI @ix (aI @it @g0)); repeat' (first|refine zW ?_|apply a_n|apply a_r|refine zO ?_|refine vY ?_|refine cY ?_ (hp:=by first | exact hp | exact hq) (hs:=by (first | refine aa ?_ rfl | apply ac); (repeat' (first | exact ab | apply ag | apply ae | exact bj _)); first | done | fail)|refine alY ?_|refine stY ?_|refine gTY ?_|refine cTY ?_|(refine zGY ?_ ?_ <;> (intro _hg; try (exfalso; omega)))|refine af rfl ?_|refine r1Y ?_|fail)) <;> (try clear zz)
  exact .int _ _
 rw [hr2] at hq
 rw [if_neg (by rw [hr,hr2]; rintro (h | h) <;> cases h)] at hs
 have gk:∀ {cs:List AV},aj H nx cs 0=some [aq m.fr,aq m.to]:=fun {cs}=>by rw [al (by omega)]; exact g0
 by_cases hk0:0 < k
 rotate_left
 ·rw [if_neg (fun h=>hk0 h.1)] at hs
  have zk:decide (0 < (k:Int))=false:=decide_eq_false (by omega)
  (have zz:=aI @ak (aI @ix (aI @it (aI @zk @g0))); repeat' (first|refine zW ?_|refine zM ?_|apply a_n|refine zO ?_|refine vY ?_|refine cY ?_ (hp:=by first | exact hp | exact hq) (hs:=by (first | refine aa ?_ rfl | apply ac); (repeat' (first | exact ab | apply ag | apply ae | exact bj _)); first | done | fail)|refine alY ?_|refine stY ?_|refine gTY ?_|refine gFY ?_|refine cFY ?_|(refine zGY ?_ ?_ <;> (intro _hg; try (exfalso; omega)))|fail)) <;> (try clear zz)
  exact ⟨k + 1,by omega,⟨by omega,by (repeat rw [al (by omega)]); exact g0,by omega,done hs⟩,ag0⟩
 have zk:decide (0 < (k:Int))=true:=decide_eq_true (by omega)
 have iy:dR 2 (aq m.fr) (.int .i64 ((k:Int) - 1))=some (.iptr [.int .i64 (m.fr.getD (k - 1) default).color,.int .i64 (m.fr.getD (k - 1) default).label] 0):=by
  have:=ix2 (l:=m.fr) (k:=k - 1) (by omega)
  rwa [show ((k - 1:Nat):Int)=(k:Int) - 1 by omega] at this
 have hc:=nc (m.fr.getD (k - 1) default) (m.fr.getD k default)
 by_cases hv:0 ≤ bl (m.fr.getD (k - 1) default) (m.fr.getD k default)
 ·have z:decide (0 ≤ bl (m.fr.getD (k - 1) default) (m.fr.getD k default))=true:=decide_eq_true hv
  rw [if_pos ⟨hk0,hv⟩] at hs
  rw [bT hk h2 (by rw [hs]; decide),hs]
  (have zz:=aI @ak (aI @ix (aI @it (aI @iy (aI @zk (aI @z @g0))))); repeat' (first|refine zW ?_|refine zM ?_|apply a_n|apply a_r|refine zO ?_|refine vY ?_|refine cY ?_ (hp:=by first | exact hp | exact hq | exact hc) (hs:=by (first | refine aa ?_ rfl | apply ac); (repeat' (first | exact ab | apply ag | apply ae | exact bj _)); first | done | fail)|refine alY ?_|refine stY ?_|refine gTY ?_|refine cTY ?_|refine cFY ?_|(refine zGY ?_ ?_ <;> (intro _hg; try (exfalso; omega)))|refine af rfl ?_|refine r1Y ?_|fail)) <;> (try clear zz)
  exact .int _ _
 ·have z:decide (0 ≤ bl (m.fr.getD (k - 1) default) (m.fr.getD k default))=false:=decide_eq_false hv
  rw [if_neg (fun h=>hv h.2)] at hs
  (have zz:=aI @ak (aI @ix (aI @it (aI @iy (aI @zk (aI @z @g0))))); repeat' (first|refine zW ?_|refine zM ?_|apply a_n|refine zO ?_|refine vY ?_|refine cY ?_ (hp:=by first | exact hp | exact hq | exact hc) (hs:=by (first | refine aa ?_ rfl | apply ac); (repeat' (first | exact ab | apply ag | apply ae | exact bj _)); first | done | fail)|refine alY ?_|refine stY ?_|refine gTY ?_|refine cFY ?_|(refine zGY ?_ ?_ <;> (intro _hg; try (exfalso; omega)))|fail)) <;> (try clear zz)
  exact ⟨k + 1,by omega,⟨by omega,by (repeat rw [al (by omega)]); exact g0,by omega,done hs⟩,ag0⟩
theorem jM {H:Hp} {a b:Bool} {e f:Int} (h1:a=b) (h2:e=f):Snap H (.tup [.bool a,.int .i64 e]) (.tup [.bool b,.int .i64 f]):=by
 subst h1 h2; exact gK (ap (.bool _) (ap (.int _ _) ab))
def bU (m:MapV) (l:Spx):Bool:=l.all fun v=>decide (v ∈ m.fr)
end Go.Proofs.YtpfkjcjgdilkkaaGreat
namespace Go.Proofs.YtpfkjcjgdilkkaaGreat
open Go Go.Abs
def bR (m:MapV) (l:Spx):Spx:=dY bl (l.map (iW m))
theorem vG {m:MapV} {v:Vtx} (h:m.to.length=m.fr.length) (hv:v ∈ m.fr):iW m v ∈ m.to:=by
 have:=(hO hv).1
 exact aY (by omega)
attribute [local irreducible] aD ah aX aP aH aK az aL aR be Go.Abs.Fn aO Go.Abs.Pure ar aE Yl
end Go.Proofs.YtpfkjcjgdilkkaaGreat
namespace Go.Proofs.YtpfkjcjgdilkkaaGreat
open Go Go.Abs
open Nat (reduceEqDiff reduceAdd reduceLeDiff)
theorem vv {l:Spx} (ha:cf bl l) {k:Nat} (hk:k < l.length):l.getD k default ∉ l.take k:=fun hm=>by
 obtain ⟨i,hi,e⟩:=List.getElem_of_mem hm
 rw [List.length_take] at hi
 rw [List.getElem_take] at e
 have:=dh ha (i:=i) (j:=k) (by omega) hk
 rw [show l.getD i default=l[i] by simp [List.getD,show i < l.length by omega],e] at this
 exact iO.ord.irr _ this
theorem uE {m:MapV} {v:Vtx} (h:m.to.length=m.fr.length) (hv:v ∈ m.fr):(m.to.map bf).getD (m.fr.idxOf v) .undef=bf (iW m v):=by
 have:=(hO hv).1
 unfold iW
 simp [List.getD,show m.fr.idxOf v < m.to.length by omega]
theorem mq {H:Hp} {B n len:Nat} {C:List AV} {l:Spx} (hB:H B=some C) (hn:C.length=n) (hf:len * 2 ≤ n) (hl:l.length=len) (ht:C.take (len * 2)=cX l):Snap H (.msl B n 2 0 len) (aq l):=by
 refine .msl B n 2 0 len C (l.map bf) hB hn (by omega) (by simp [hl]) (fun y hy=>?_) (fun i j y a c hy hc ha=>?_)
 ·obtain ⟨v,_,rfl⟩:=List.mem_map.1 hy; rfl
 ·have hi:i < l.length:=by
    have:=(List.getElem?_eq_some_iff.1 hy).1
    simpa using this
  have hy':y=bf (l.getD i default):=by
   rw [List.getElem?_map,List.getElem?_eq_getElem hi] at hy
   simp at hy
   rw [← hy]; simp [List.getD,hi]
  subst hy'
  have hj:j < 2:=(List.getElem?_eq_some_iff.1 hc).1
  have h1:C[0 + i * 2 + j]?=(cX l)[i * 2 + j]?:=by
   rw [← ht,List.getElem?_take,if_pos (by omega)]; congr 1; omega
  have h2:(cX l)[i * 2 + j]?=(((cX l).drop (i * 2)).take 2)[j]?:=by
   rw [List.getElem?_take,if_pos hj,List.getElem?_drop]
  rw [h1,h2,rdX hi] at ha
  have:[AV.int .i64 (l.getD i default).color,AV.int .i64 (l.getD i default).label][j]?=some c:=hc
  rw [this] at ha
  cases ha
  match j,hj with
  | 0,_=>cases this; exact .int _ _
  | 1,_=>cases this; exact .int _ _
attribute [local irreducible] aD ah aX aP aH aK az aL aR be Go.Abs.Fn aO Go.Abs.Pure ar aE Yl
set_option maxHeartbeats 1000000 in
theorem rm (m:MapV) (hm:ShM m) (H:Hp) (nx:Nat):Abs.Fn Tryz.prog 25 [pe m] H nx fun r H' nx'=>(∀ x,x < nx→H' x=H x)∧nx ≤ nx'∧((dI m=0∧∃ b,r=.tup [.mp b,.int .i64 0]∧nx ≤ b∧b < nx'∧H' b=some [.omap (m.fr.map bf) (m.to.map bf)]) ∨ (dI m ≠ 0∧∃ z,r=.tup [z,.int .i64 (dI m)])):=by
 refine Abs.Fn.of_c2 follows As (Nat.le_of_ble_eq_true rfl) ?_
 simp only [b25,cO,cG,cN,cM,cD,cF,cB,ax,aN]
 have hc:=vw m hm
 have hm1':m.fr.length ≤ 17592186044416:=hm.1
 by_cases he:dI m=0
 rotate_left
 ·have z:decide (dI m ≠ 0)=true:=decide_eq_true he
  (have zz:=aI @ak (aI @a9 (aI @aQ @z)); repeat' (first|refine zW ?_|apply a_n|apply a_r|refine zO ?_|refine vY ?_|refine cY ?_ (hp:=hc) (hs:=by (first | refine aa ?_ rfl | apply ac); (repeat' (first | exact ab | apply ag | apply ae | exact jd _)); first | done | fail)|refine bxY ?_|refine cTY ?_|refine af rfl ?_|refine r2Y ?_|fail)) <;> (try clear zz)
  exact ⟨fun x hx=>al (by omega),by omega,.inr ⟨he,_,rfl⟩⟩
 rw [he] at hc
 obtain ⟨q1,q2,q3,q4,q5⟩:=iG he
 have z:decide ((0:Int) ≠ 0)=false:=rfl
 (have zz:=aI @ak (aI @a9 (aI @aQ @z)); repeat' (first|refine zW ?_|apply a_n|refine zO ?_|refine vY ?_|refine cY ?_ (hp:=hc) (hs:=by (first | refine aa ?_ rfl | apply ac); (repeat' (first | exact ab | apply ag | apply ae | exact jd _)); first | done | fail)|refine bxY ?_|refine cFY ?_|fail)) <;> (try clear zz)
 refine xA ?_
 (have zz:=@ak; repeat' (first|refine zW ?_|apply a_n|refine zO ?_|refine vY ?_|fail)) <;> (try clear zz)
 refine aS (X:=Nat) (fun k=>[(1,.ptr nx 2 0),(5,.mp (nx + 1)),(15,aq m.fr),(16,.int .i64 m.fr.length),(17,.int .i64 k)]) (fun k H' nx'=>k ≤ m.fr.length∧H' nx=some [aq m.fr,aq m.to]∧H' (nx + 1)=some [.omap ((m.fr.take k).map bf) ((m.to.take k).map bf)]∧(∀ x,x < nx→H' x=H x)∧nx + 2 ≤ nx') (fun k=>m.fr.length - k) 0 ⟨Nat.zero_le _,by rw [al (by omega),ai],ai,fun x hx=>by rw [al (by omega),al (by omega)],by omega⟩ (by simp (disch:=omega) only [agr,ZG,reduceEqDiff,↓reduceIte,List.length_cons,List.length_nil,Nat.zero_add,reduceAdd]) ?_
 rintro k H1 nx1 ⟨h1,g0,g1,h2,hnx⟩
 by_cases hk:k < m.fr.length
 rotate_left
 ·obtain rfl:k=m.fr.length:=by omega
  rw [List.take_length,List.take_of_length_le (by omega)] at g1
  (have zz:=and_self; repeat' (first|refine zW ?_|apply a_n|apply a_x|refine zO ?_|refine vY ?_|(refine zGY ?_ ?_ <;> (intro _hg; try (exfalso; omega)))|refine af rfl ?_|refine r2Y ?_|fail)) <;> (try clear zz)
  exact ⟨h2,by omega,.inl ⟨he,nx + 1,rfl,by omega,by omega,g1⟩⟩
 have ix:=ix2 hk
 have it:=ix2 (l:=m.to) (k:=k) (by omega)
 have hnt:=vv q3 hk
 have hmf:=lA (m.fr.getD k default) (m.fr.take k)
 rw [if_neg hnt] at hmf
 have e1:(m.fr.take (k + 1)).map bf=(m.fr.take k).map bf ++ [bf (m.fr.getD k default)]:=by rw [ce hk,List.map_append]; rfl
 have e2:(m.to.take (k + 1)).map bf=(m.to.take k).map bf ++ [bf (m.to.getD k default)]:=by rw [ce (by omega),List.map_append]; rfl
 generalize m.fr.getD k default=v at *
 generalize m.to.getD k default=w at *
 (have zz:=@ix; repeat' (first|refine zW ?_|apply a_n|refine zO ?_|refine vY ?_|refine alY ?_|refine stY ?_|(refine zGY ?_ ?_ <;> (intro _hg; try (exfalso; omega)))|fail)) <;> (try clear zz)
 refine rb (c2:=[.int .i64 v.color,.int .i64 v.label]) nx nx1 (by rw [al (by omega),al (by omega)]; exact g0) (by rw [ai]; rfl) (by omega) fun S hS0 hS1 _=>?_
 (have zz:=aI @hS0 (aI @hS1 @it); repeat' (first|apply a_n|refine zO ?_|refine nvY ?_|apply py|fail)) <;> (try clear zz)
 refine ym ev0 (by rw [al (by omega),al (by omega)]; exact g1) ev0 ev0 (mc v) hmf ?_
 (have zz:=and_self; repeat' (first|apply a_n|refine zO ?_|refine vY ?_|fail)) <;> (try clear zz)
 refine ⟨k + 1,by omega,⟨by omega,by (repeat rw [al (by omega)]); exact g0,?_,fun x hx=>by (repeat rw [al (by omega)]); exact h2 x hx,by omega⟩,ag0⟩
 rw [ai,e1,e2]; rfl
theorem Bo:Cmp2 Tryz.prog bf bl (fun _=>True) 70 [] where
 len _:=rfl
 agg _:=rfl
 ones _:=rfl
 dat x:=bj x
 dcaps x hx:=by cases hx
 run x y _ _:=nc x y
 ord:=iO.ord
theorem zL (m:MapV) (l:Spx) (hlen:m.to.length=m.fr.length) (hl:l.length ≤ 100000) (hl0:l ≠ []) (b:Nat) (H:Hp) (nx:Nat) (hb:H b=some [.omap (m.fr.map bf) (m.to.map bf)]) (hbn:b < nx):Abs.Fn Tryz.prog 30 [.mp b,aq l] H nx fun r H' nx'=>nx ≤ nx'∧((bU m l=false∧r=.tup [.esl,.bool false]∧∀ x,x < nx→H' x=H x) ∨ (bU m l=true∧∃ sv Hf H2,r=.tup [sv,.bool true]∧sv.one=true∧Fz Hf H' H2∧Snap Hf sv (aq (bR m l))∧∀ x,x < nx→H2 x=H x)):=by
 refine Abs.Fn.of_c2 follows Ax (Nat.le_of_ble_eq_true rfl) ?_
 simp only [b30,cO,cG,cN,cM,cD,cF,cB,ax,aN]
 (have zz:=@ak; repeat' (first|refine zW ?_|apply a_n|refine zO ?_|refine vY ?_|fail)) <;> (try clear zz)
 refine aS (X:=AV × Nat) (fun x=>[(0,.mp b),(6,x.1),(11,aq l),(12,.int .i64 l.length),(13,.int .i64 x.2)]) (fun x H' nx'=>x.2 ≤ l.length∧(∀ y,y < nx→H' y=H y)∧nx ≤ nx'∧Row H' 2 x.1 (cX ((l.take x.2).map (iW m)))∧(∀ B,dB x.1=some B→nx ≤ B∧B < nx')∧∀ i,i < x.2→decide (l.getD i default ∈ m.fr)=true) (fun x=>l.length - x.2) (.esl,0) ⟨Nat.zero_le _,fun _ _=>rfl,Nat.le_refl _,Row.nil,fun B h=>(by cases h),fun i h=>absurd h (by omega)⟩ ag0 ?_
 rintro ⟨sv,k⟩ H1 nx1 ⟨h1,h2,h3,hrow,hbd,hz⟩
 dsimp only at h1 hrow hbd hz ⊢
 by_cases hk:k < l.length
 rotate_left
 ·rw [List.take_of_length_le (by omega)] at hrow
  have ht:bU m l=true:=gx fun i hi=>hz i (by omega)
  have hpos:0 < l.length:=List.length_pos_iff.2 hl0
  generalize hM:l.map (iW m)=M at *
  have hMl:M.length=l.length:=by rw [← hM,List.length_map]
  have himg:bR m l=dY bl M:=by unfold bR; rw [hM]
  obtain ⟨B,rfl,hB⟩:∃ B,sv=.msl B (M.length * 2) 2 0 M.length∧H1 B=some (cX M):=by
   generalize hcs:cX M=cs at hrow
   have hcl:=dZ M
   cases hrow with
   | nil=>rw [hcs] at hcl; simp at hcl; omega
   | box B len cs g1 g2 =>
    obtain rfl:len=M.length:=by rw [← hcs,hcl] at g2; omega
    exact ⟨B,rfl,g1⟩
  have hBb:=hbd B rfl
  (have zz:=and_self; repeat' (first|refine zW ?_|apply a_n|apply a_x|refine zO ?_|refine vY ?_|(refine zGY ?_ ?_ <;> (intro _hg; try (exfalso; omega)))|fail)) <;> (try clear zz)
  refine ay ev0 ev0 (rZ Bo (L:=M) (b:=B) (nx:=nx1) (n:=M.length) hB (by omega) rfl (by omega) (fun _ _=>trivial) (by omega)) ?_
  rintro _ H3 nx3 ⟨L,ps,hperm,hsort⟩
  have hLl:L.length=M.length:=hperm.length_eq
  have hL0:L ≠ []:=fun e=>by rw [e] at hLl; simp at hLl; omega
  have hB3:H3 B=some (cX L):=ps.at_
  rw [← hLl]
  (have zz:=and_self; repeat' (first|refine zW ?_|apply a_n|refine zO ?_|refine vY ?_|fail)) <;> (try clear zz)
  refine ay ev0 ev0 (lM L (show _ ≤ _ by omega) hL0 H3 B nx3 hB3 (by have:=ps.le; omega)) ?_
  rintro _ H4 nx4 ⟨rfl,⟨C,rfl,c1,c2⟩,rfl⟩
  have hd:cL L L.length=dY bl M:=j9 iO hperm (by rw [hLl]; exact hsort)
  rw [hd] at c2
  have hle:=my L L.length
  have hdl:=jV L L.length
  rw [hd] at hdl
  (have zz:=and_self; repeat' (first|apply a_n|refine zO ?_|refine vY ?_|refine af rfl ?_|refine r2Y ?_|fail)) <;> (try clear zz)
  refine ⟨by have:=ps.le; omega,.inr ⟨ht,.msl B (L.length * 2) 2 0 (bq L L.length),only B C,bX (aj H3 B C) B,rfl,rfl,Fz.one ai,?_,fun x hx=>?_⟩⟩
  ·rw [himg]
   exact mq lm c1 (by omega) hdl c2
  ·rw [ln (by omega),al (by omega),ps.fr x (by omega) (by omega)]; exact h2 x hx
 have ix:=ix2 hk
 have hb1:H1 b=some [.omap (m.fr.map bf) (m.to.map bf)]:=(h2 b hbn).trans hb
 have hmf:=lA (l.getD k default) m.fr
 have hcl:(cX ((l.take k).map (iW m))).length=k * 2:=by rw [dZ,List.length_map,List.length_take]; omega
 have e1:(l.take (k + 1)).map (iW m)=(l.take k).map (iW m) ++ [iW m (l.getD k default)]:=by rw [ce hk,List.map_append]; rfl
 by_cases hv:l.getD k default ∈ m.fr
 rotate_left
 ·have ht:bU m l=false:=fy hk (decide_eq_false hv)
  rw [if_neg hv] at hmf
  generalize l.getD k default=v at *
  (have zz:=@ix; repeat' (first|refine zW ?_|apply a_n|refine zO ?_|refine vY ?_|refine alY ?_|refine stY ?_|(refine zGY ?_ ?_ <;> (intro _hg; try (exfalso; omega)))|fail)) <;> (try clear zz)
  refine oL ev0 (by rw [al (by omega),al (by omega)]; exact hb1) ev0 (mc v) hmf ?_
  rw [show mget (.agg [.int .i64 0,.int .i64 0]) true none (m.to.map bf)=.tup [.agg [.int .i64 0,.int .i64 0],.bool false] from rfl]
  (have zz:=and_self; repeat' (first|refine zW ?_|apply a_n|apply a_r|refine zO ?_|refine vY ?_|refine alY ?_|refine stY ?_|refine cTY ?_|refine af rfl ?_|refine r2Y ?_|fail)) <;> (try clear zz)
  exact ⟨by omega,.inl ⟨ht,rfl,fun x hx=>by (repeat rw [al (by omega)]); exact h2 x hx⟩⟩
 rw [if_pos hv] at hmf
 have hmg:=uE hlen hv
 have hzz:∀ i,i < k + 1→decide (l.getD i default ∈ m.fr)=true:=fun i hi=>by
  rcases Nat.lt_succ_iff_lt_or_eq.1 hi with h' | rfl
  ·exact hz i h'
  ·exact decide_eq_true hv
 generalize l.getD k default=v at *
 generalize iW m v=w at *
 (have zz:=@ix; repeat' (first|refine zW ?_|apply a_n|refine zO ?_|refine vY ?_|refine alY ?_|refine stY ?_|(refine zGY ?_ ?_ <;> (intro _hg; try (exfalso; omega)))|fail)) <;> (try clear zz)
 refine oL ev0 (by rw [al (by omega),al (by omega)]; exact hb1) ev0 (mc v) hmf ?_
 rw [show mget (.agg [.int .i64 0,.int .i64 0]) true (some (m.fr.idxOf v)) (m.to.map bf)=.tup [(m.to.map bf).getD (m.fr.idxOf v) .undef,.bool true] from rfl,hmg]
 (have zz:=and_self; repeat' (first|refine zW ?_|apply a_n|refine zO ?_|refine vY ?_|refine alY ?_|refine stY ?_|refine blY ?_|refine cFY ?_|fail)) <;> (try clear zz)
 refine iT rfl ev0 (hrow.same fun B hB=>?_) ev0 hU rfl rfl (by omega) (by omega) (by omega) ?_
 ·have:=hbd B hB; (repeat rw [al (by omega)])
 rintro s2 H2 nx2 hr2 i1 i2 i3 i4
 (have zz:=and_self; repeat' (first|apply a_n|refine zO ?_|refine vY ?_|fail)) <;> (try clear zz)
 refine ⟨(s2,k + 1),by dsimp only; omega,⟨by dsimp only; omega,fun y hy=>?_,by omega,?_,fun B hB=>?_,hzz⟩,ag0⟩
 ·rw [i3 y (by omega) (fun h=>by have:=hbd y h; omega)]
  (repeat rw [al (by omega)]); exact h2 y hy
 ·dsimp only
  rw [e1,gR]; exact hr2
 ·rcases i4 B hB with h | h
  ·have:=hbd B h; omega
  ·omega
end Go.Proofs.YtpfkjcjgdilkkaaGreat
namespace Go.Proofs.YtpfkjcjgdilkkaaGreat
open Go Go.Abs
def iI (m:MapV) (a b:List Spx):Bool × Int:=if dI m ≠ 0 then (false,dI m) else if aJ a ≠ 0 then (false,aJ a) else if aJ b ≠ 0 then (false,aJ b) else if a.all (bU m)=false then (false,6) else ((a.map (bR m)).all fun s=>b.any fun t=>bw s t,0)
theorem sD {α:Type} {l:List α} {p:α→Bool}:(!l.any fun x=>!p x)=l.all p:=by
 rw [List.any_eq_not_all_not]; simp
attribute [local irreducible] aD ah aX aP aH aK az aL aR be Go.Abs.Fn aO Go.Abs.Pure ar aE Yl
set_option maxHeartbeats 1000000 in
theorem qJ (m:MapV) (c:List Spx) (hlen:m.to.length=m.fr.length) (hc:c.length ≤ 5000) (hs:∀ s ∈ c,s.length ≤ 1000∧s ≠ []) (b:Nat) (H:Hp) (nx:Nat) (hb:H b=some [.omap (m.fr.map bf) (m.to.map bf)]) (hbn:b < nx):Abs.Fn Tryz.prog 27 [.mp b,c9 c] H nx fun r H' nx'=>nx ≤ nx'∧(∀ x,x < nx→H' x=H x)∧((c.all (bU m)=false∧r=.tup [.esl,.bool false]) ∨ (c.all (bU m)=true∧∃ sv,r=.tup [sv,.bool true]∧Row H' 1 sv ((c.map (bR m)).map aq)∧∀ B,dB sv=some B→nx ≤ B∧B < nx')):=by
 refine Abs.Fn.of_c2 follows zN (Nat.le_of_ble_eq_true rfl) ?_
 simp only [b27,cO,cG,cN,cM,cD,cF,cB,ax,aN]
 (have zz:=aI @ao (aI @aB @av); repeat' (first|refine zW ?_|apply a_n|refine zO ?_|refine vY ?_|refine bxY ?_|fail)) <;> (try clear zz)
 refine aS (X:=AV × Nat) (fun x=>[(0,.mp b),(6,x.1),(12,aC c),(13,.int .i64 c.length),(14,.int .i64 x.2)]) (fun x H' nx'=>x.2 ≤ c.length∧(∀ y,y < nx→H' y=H y)∧nx ≤ nx'∧Row H' 1 x.1 (((c.take x.2).map (bR m)).map aq)∧(∀ B,dB x.1=some B→nx ≤ B∧B < nx')∧∀ i,i < x.2→bU m (c.getD i default)=true) (fun x=>c.length - x.2) (.esl,0) ⟨Nat.zero_le _,fun y hy=>al (by omega),by omega,Row.nil,fun B h=>(by cases h),fun i h=>absurd h (by omega)⟩ ag0 ?_
 rintro ⟨svo,k⟩ H1 nx1 ⟨h1,h2,h3,hrow,hbd,hz⟩
 dsimp only at h1 hrow hbd hz ⊢
 by_cases hk:k < c.length
 rotate_left
 ·rw [List.take_of_length_le (by omega)] at hrow
  (have zz:=and_self; repeat' (first|refine zW ?_|apply a_n|apply a_x|refine zO ?_|refine vY ?_|(refine zGY ?_ ?_ <;> (intro _hg; try (exfalso; omega)))|refine af rfl ?_|refine r2Y ?_|fail)) <;> (try clear zz)
  exact ⟨h3,h2,.inr ⟨gx fun i hi=>hz i (by omega),svo,rfl,hrow,hbd⟩⟩
 have ix:=eT hk
 obtain ⟨s1,s2⟩:=hs _ (aY hk)
 have hcl:(((c.take k).map (bR m)).map aq).length=k:=by rw [List.length_map,List.length_map,List.length_take]; omega
 have e1:(c.take (k + 1)).map (bR m)=(c.take k).map (bR m) ++ [bR m (c.getD k default)]:=by rw [ce hk,List.map_append]; rfl
 have hall:bU m (c.getD k default)=false→c.all (bU m)=false:=fun h=>fy hk h
 have hzz:bU m (c.getD k default)=true→∀ i,i < k + 1→bU m (c.getD i default)=true:=fun h i hi=>by
  rcases Nat.lt_succ_iff_lt_or_eq.1 hi with h' | rfl
  ·exact hz i h'
  ·exact h
 have ho:=zL m (c.getD k default) hlen (by omega) s2 b H1 nx1 ((h2 b hbn).trans hb) (by omega)
 obtain ⟨o1,o2⟩:=hrow.one
 generalize c.getD k default=s at *
 (have zz:=@ix; repeat' (first|refine zW ?_|apply a_n|refine zO ?_|refine vY ?_|(refine zGY ?_ ?_ <;> (intro _hg; try (exfalso; omega)))|fail)) <;> (try clear zz)
 refine ay ev0 ev0 ho ?_
 rintro _ H2 nx2 ⟨hle,h⟩
 rcases h with ⟨ht,rfl,hsm⟩ | ⟨ht,sv2,Hf,H3,rfl,hone,hfz,hsn,hsm⟩
 ·(have zz:=and_self; repeat' (first|refine zW ?_|apply a_n|apply a_r|refine zO ?_|refine vY ?_|refine cTY ?_|refine af rfl ?_|refine r2Y ?_|fail)) <;> (try clear zz)
  exact ⟨by omega,fun x hx=>(hsm x (by omega)).trans (h2 x hx),.inl ⟨hall ht,rfl⟩⟩
 (have zz:=and_self; repeat' (first|apply a_n|refine zO ?_|refine vY ?_|fail)) <;> (try clear zz)
 refine cQ (cQ ?_)
 refine lr Hf H3 [(0,.mp b),(6,svo),(9,aq (bR m s)),(10,.bool true),(12,aC c),(13,.int .i64 c.length),(14,.int .i64 k)] hfz ⟨.inl rfl,.inl rfl,.inr hsn,.inl rfl,.inl rfl,.inl rfl,.inl rfl,trivial⟩ ?_
 (have zz:=aI @a9 @aQ; repeat' (first|apply a_n|refine zO ?_|refine vY ?_|refine blY ?_|refine cFY ?_|fail)) <;> (try clear zz)
 refine iT rfl ev0 (hrow.same fun B hB=>?_) ev0 kc rfl rfl Nat.one_pos (by omega) (by omega) ?_
 ·have:=hbd B hB; rw [al (by omega)]; exact hsm B (by omega)
 rintro s3 H4 nx4 hr4 i1 i2 i3 i4
 (have zz:=and_self; repeat' (first|apply a_n|refine zO ?_|refine vY ?_|fail)) <;> (try clear zz)
 refine ⟨(s3,k + 1),by dsimp only; omega,⟨by dsimp only; omega,fun y hy=>?_,by omega,?_,fun B hB=>?_,hzz ht⟩,ag0⟩
 ·rw [i3 y (by omega) (fun h=>by have:=hbd y h; omega),al (by omega),hsm y (by omega)]; exact h2 y hy
 ·dsimp only
  rw [e1,List.map_append]; exact hr4
 ·rcases i4 B hB with h | h
  ·have:=hbd B h; omega
  ·omega
theorem zB (v:Vtx) (t:Spx) (ht:Shn t):Pure Tryz.prog 36 [bf v,.iptr [aq t] 0] (.bool (!decide (v ∈ t))):=by
 refine Pure.of_c2 follows A4 (Nat.le_of_ble_eq_true rfl) ?_
 simp only [b36,cO,cG,cN,cM,cD,cF,cB,ax,aN]
 have h:=kM t v ht
 (have zz:=and_self; repeat' (first|refine zW ?_|apply a_n|refine zO ?_|refine vZ ?_|refine cZ ?_ (hp:=h) (hs:=by (first | refine aa ?_ rfl | apply ac); (repeat' (first | exact ab | apply ag | apply ae | exact aw _ | exact bj _)); first | done | fail)|refine bxZ ?_|refine af rfl ?_|refine r1Z ?_|fail)) <;> (try clear zz)
 exact .bool _
theorem AY (s t:Spx) (hs:Shn s) (ht:Shn t):Pure Tryz.prog 34 [aq s,aq t] (.bool (bw s t)):=by
 refine Pure.of_c2 follows A9 (Nat.le_of_ble_eq_true rfl) ?_
 simp only [b34,cO,cG,cN,cM,cD,cF,cB,ax,aN]
 have h:=o8 s (fun v=>!decide (v ∈ t)) 36 [.iptr [aq t] 0] (DatL.cons (Dat.iptr (DatL.cons (aw _) DatL.nil)) DatL.nil) (fun v _=>zB v t ht) hs
 (have zz:=aI @a9 @aQ; repeat' (first|refine zW ?_|apply a_n|refine zO ?_|refine vZ ?_|refine bxZ ?_|fail)) <;> (try clear zz)
 refine bN ev0 ev0 h (aa (ap (aw _ _) (ap (g8 (ap (ec rfl rfl (ap (aw _ _) ab)) ab)) ab)) rfl) ?_
 (have zz:=and_self; repeat' (first|apply a_n|refine zO ?_|refine vZ ?_|refine af rfl ?_|refine r1Z ?_|fail)) <;> (try clear zz)
 exact bz sD
theorem yW (s t:Spx) (hs:Shn s) (ht:Shn t):Pure Tryz.prog 40 [aq t,.iptr [.func 34 []] 0,.iptr [aq s] 0] (.bool (bw s t)):=by
 refine Pure.of_c2 follows Bi (Nat.le_of_ble_eq_true rfl) ?_
 simp only [b40,cO,cG,cN,cM,cD,cF,cB,ax,aN]
 have h:=AY s t hs ht
 (have zz:=and_self; repeat' (first|refine zW ?_|apply a_n|refine zO ?_|refine vZ ?_|refine cZ ?_ (hp:=h) (hs:=by (first | refine aa ?_ rfl | apply ac); (repeat' (first | exact ab | apply ag | apply ae | exact aw _)); first | done | fail)|refine af rfl ?_|refine r1Z ?_|fail)) <;> (try clear zz)
 exact .bool _
theorem zY (b:List Spx) (s:Spx) (hb:Shn b) (hbs:∀ t ∈ b,Shn t) (hs:Shn s):Pure Tryz.prog 39 [aq s,.iptr [aC b] 0,.iptr [.func 34 []] 0] (.bool (!b.any fun t=>bw s t)):=by
 refine Pure.of_c2 follows BF (Nat.le_of_ble_eq_true rfl) ?_
 simp only [b39,cO,cG,cN,cM,cD,cF,cB,ax,aN]
 have h:=jn b (fun t=>bw s t) 40 [.iptr [.func 34 []] 0,.iptr [aq s] 0] (DatL.cons (Dat.iptr (DatL.cons (Dat.func DatL.nil) DatL.nil)) (DatL.cons (Dat.iptr (DatL.cons (aw _) DatL.nil)) DatL.nil)) (fun t ht=>yW s t hs (hbs t ht)) hb
 (have zz:=aI @a9 @aQ; repeat' (first|refine zW ?_|apply a_n|refine zO ?_|refine vZ ?_|refine bxZ ?_|fail)) <;> (try clear zz)
 refine bN ev0 ev0 h (aa (ap (bh _ _) (ap (g8 (ap (Dat.iptr (DatL.cons (Dat.func DatL.nil) DatL.nil) _) (ap (ec rfl rfl (ap (aw _ _) ab)) ab))) ab)) rfl) ?_
 (have zz:=and_self; repeat' (first|apply a_n|refine zO ?_|refine vZ ?_|refine af rfl ?_|refine r1Z ?_|fail)) <;> (try clear zz)
 exact .bool _
set_option maxHeartbeats 2000000 in
theorem oC (m:MapV) (a b:List Spx) (hm:ShM m) (ha:Shn a) (has:∀ s ∈ a,Shn s) (hb:Shn b) (hbs:∀ s ∈ b,Shn s):Pure Tryz.prog 11 [pe m,c9 a,c9 b] (.tup [.bool (iI m a b).1,.int .i64 (iI m a b).2]):=by
 refine Pure.of_c2 follows Bj (Nat.le_of_ble_eq_true rfl) ?_
 simp only [b11,cO,cG,cN,cM,cD,cF,cB,ax,aN]
 have hca:=gL a ha has
 have hcb:=gL b hb hbs
 unfold iI
 (have zz:=aI @a9 (aI @aQ (aI @aB @av)); repeat' (first|refine zW ?_|apply a_n|refine zO ?_|refine vZ ?_|refine bxZ ?_|fail)) <;> (try clear zz)
 refine ay ev0 ev0 (rm m hm _ _) ?_
 rintro _ H1 nx1 ⟨hsm,hle,h⟩
 rcases h with ⟨he,B,rfl,hB1,hB2,hB3⟩ | ⟨he,zv,rfl⟩
 rotate_left
 ·rw [if_pos he]
  have z:decide (dI m ≠ 0)=true:=decide_eq_true he
  (have zz:=@z; repeat' (first|refine zW ?_|apply a_n|apply a_r|refine zO ?_|refine vY ?_|refine cTY ?_|refine af rfl ?_|refine r2Y ?_|fail)) <;> (try clear zz)
  exact jM rfl rfl
 rw [if_neg (fun h=>h he)]
 obtain ⟨q1,q2,q3,q4,q5⟩:=iG he
 have g1:H1 1=some [aC a]:=hsm 1 (by omega)
 have g2:H1 2=some [aC b]:=hsm 2 (by omega)
 have z0:decide ((0:Int) ≠ 0)=false:=rfl
 (have zz:=aI @g1 (aI @g2 @z0); repeat' (first|apply a_n|refine zO ?_|refine vY ?_|fail)) <;> (try clear zz)
 refine cQ (cQ ?_)
 (have zz:=aI @g1 (aI @g2 @z0); repeat' (first|apply a_n|refine zO ?_|refine vY ?_|refine cFY ?_|fail)) <;> (try clear zz)
 by_cases hea:aJ a=0
 rotate_left
 ·rw [if_pos hea]
  have z:decide (aJ a ≠ 0)=true:=decide_eq_true hea
  (have zz:=aI @g1 (aI @g2 (aI @aB @av)); repeat' (first|refine zW ?_|apply a_n|refine zO ?_|refine vY ?_|refine blY ?_|fail)) <;> (try clear zz)
  refine aS (X:=Nat) (fun k=>[(4,.ptr 1 1 0),(26,.msl nx1 2 1 0 2),(27,.int .i64 2),(28,.int .i64 k)]) (fun k H nx=>k=0∧H nx1=some [aC a,aC b]) (fun _=>0) 0 ⟨rfl,ai⟩ (by (iterate 4 refine And.intro rfl ?_); trivial) ?_
  rintro k H nx ⟨rfl,g⟩
  (have zz:=aI @g (aI @z (aI @Nat.zero_mul (aI @aB @av))); repeat' (first|refine zW ?_|apply a_n|apply a_r|refine zO ?_|refine vY ?_|refine cY ?_ (hp:=hca) (hs:=by (first | refine aa ?_ rfl | apply ac); (repeat' (first | exact ab | apply ag | apply ae | exact br _)); first | done | fail)|refine alY ?_|refine stY ?_|refine cTY ?_|(refine zGY ?_ ?_ <;> (intro _hg; try (exfalso; omega)))|refine af rfl ?_|refine r2Y ?_|fail)) <;> (try clear zz)
  exact jM rfl rfl
 rw [if_neg (fun h=>h hea)]
 rw [hea] at hca
 by_cases heb:aJ b=0
 rotate_left
 ·rw [if_pos heb]
  have z:decide (aJ b ≠ 0)=true:=decide_eq_true heb
  (have zz:=aI @g1 (aI @g2 (aI @aB @av)); repeat' (first|refine zW ?_|apply a_n|refine zO ?_|refine vY ?_|refine blY ?_|fail)) <;> (try clear zz)
  refine aS (X:=Nat) (fun k=>[(26,.msl nx1 2 1 0 2),(27,.int .i64 2),(28,.int .i64 k)]) (fun k H nx=>k ≤ 1∧H nx1=some [aC a,aC b]∧nx1 < nx) (fun k=>2 - k) 0 ⟨by omega,ai,by omega⟩ (by (iterate 3 refine And.intro rfl ?_); trivial) ?_
  rintro k H nx ⟨hk,g,hnx⟩
  rcases (by omega:k=0 ∨ k=1) with rfl | rfl
  ·(have zz:=aI @g (aI @z0 (aI @Nat.zero_mul (aI @aB @av))); repeat' (first|refine zW ?_|apply a_n|refine zO ?_|refine vY ?_|refine cY ?_ (hp:=hca) (hs:=by (first | refine aa ?_ rfl | apply ac); (repeat' (first | exact ab | apply ag | apply ae | exact br _)); first | done | fail)|refine alY ?_|refine stY ?_|refine cFY ?_|(refine zGY ?_ ?_ <;> (intro _hg; try (exfalso; omega)))|fail)) <;> (try clear zz)
   exact ⟨1,by omega,⟨by omega,by (repeat rw [al (by omega)]); exact g,by omega⟩,by (iterate 3 refine And.intro rfl ?_); trivial⟩
  ·(have zz:=aI @g (aI @z (aI @Nat.one_mul (aI @aB @av))); repeat' (first|refine zW ?_|apply a_n|apply a_r|refine zO ?_|refine vY ?_|refine cY ?_ (hp:=hcb) (hs:=by (first | refine aa ?_ rfl | apply ac); (repeat' (first | exact ab | apply ag | apply ae | exact br _)); first | done | fail)|refine alY ?_|refine stY ?_|refine cTY ?_|(refine zGY ?_ ?_ <;> (intro _hg; try (exfalso; omega)))|refine af rfl ?_|refine r2Y ?_|fail)) <;> (try clear zz)
   exact jM rfl rfl
 rw [if_neg (fun h=>h heb)]
 rw [heb] at hcb
 obtain ⟨a1,a2,a3,a4⟩:=bA hea
 refine aV (fun T H nx=>T 4=.ptr 1 1 0∧T 5=.ptr 2 1 0∧T 8=.mp B∧H 1=some [aC a]∧H 2=some [aC b]∧H B=some [.omap (m.fr.map bf) (m.to.map bf)]∧B < nx∧3 ≤ nx) ?_ ?_
 ·(have zz:=aI @g1 (aI @g2 (aI @aB @av)); repeat' (first|refine zW ?_|apply a_n|refine zO ?_|refine vY ?_|refine blY ?_|fail)) <;> (try clear zz)
  refine aS (X:=Nat) (fun k=>[(4,.ptr 1 1 0),(5,.ptr 2 1 0),(8,.mp B),(26,.msl nx1 2 1 0 2),(27,.int .i64 2),(28,.int .i64 k)]) (fun k H nx=>k ≤ 2∧H nx1=some [aC a,aC b]∧nx1 < nx∧H 1=some [aC a]∧H 2=some [aC b]∧H B=some [.omap (m.fr.map bf) (m.to.map bf)]) (fun k=>2 - k) 0 ⟨by omega,ai,by omega,by rw [al (by omega)]; exact g1,by rw [al (by omega)]; exact g2,by rw [al (by omega)]; exact hB3⟩ (by (iterate 6 refine And.intro rfl ?_); trivial) ?_
  rintro k H nx ⟨hk,g,hnx,g1,g2,g3⟩
  rcases (by omega:k=0 ∨ k=1 ∨ k=2) with rfl | rfl | rfl
  ·(have zz:=aI @g (aI @z0 (aI @Nat.zero_mul (aI @aB @av))); repeat' (first|refine zW ?_|apply a_n|refine zO ?_|refine vY ?_|refine cY ?_ (hp:=hca) (hs:=by (first | refine aa ?_ rfl | apply ac); (repeat' (first | exact ab | apply ag | apply ae | exact br _)); first | done | fail)|refine alY ?_|refine stY ?_|refine cFY ?_|(refine zGY ?_ ?_ <;> (intro _hg; try (exfalso; omega)))|fail)) <;> (try clear zz)
   exact ⟨1,by omega,⟨by omega,by (repeat rw [al (by omega)]); exact g,by omega,by (repeat rw [al (by omega)]); exact g1,by (repeat rw [al (by omega)]); exact g2,by (repeat rw [al (by omega)]); exact g3⟩,by (iterate 6 refine And.intro rfl ?_); trivial⟩
  ·(have zz:=aI @g (aI @z0 (aI @Nat.one_mul (aI @aB @av))); repeat' (first|refine zW ?_|apply a_n|refine zO ?_|refine vY ?_|refine cY ?_ (hp:=hcb) (hs:=by (first | refine aa ?_ rfl | apply ac); (repeat' (first | exact ab | apply ag | apply ae | exact br _)); first | done | fail)|refine alY ?_|refine stY ?_|refine cFY ?_|(refine zGY ?_ ?_ <;> (intro _hg; try (exfalso; omega)))|fail)) <;> (try clear zz)
   exact ⟨2,by omega,⟨by omega,by (repeat rw [al (by omega)]); exact g,by omega,by (repeat rw [al (by omega)]); exact g1,by (repeat rw [al (by omega)]); exact g2,by (repeat rw [al (by omega)]); exact g3⟩,by (iterate 6 refine And.intro rfl ?_); trivial⟩
  ·(have zz:=and_self; repeat' (first|refine zW ?_|apply a_n|apply a_x|refine zO ?_|refine vY ?_|(refine zGY ?_ ?_ <;> (intro _hg; try (exfalso; omega)))|fail)) <;> (try clear zz)
   exact ⟨rfl,rfl,rfl,g1,g2,g3,by omega,by omega⟩
 clear g1 g2 hB3 hsm
 rintro T H nx ⟨t4,t5,t8,g1,g2,g3,hBn,hnx⟩
 (have zz:=aI @t4 (aI @t5 (aI @t8 @g1)); repeat' (first|refine zW ?_|apply a_n|refine zO ?_|refine vY ?_|fail)) <;> (try clear zz)
 refine ay ev0 (have zz:=@t8; evZ) (qJ m a q2 (by omega) (fun s hs=>by obtain ⟨p1,p2,p3,p4⟩:=bH (a2 s hs); exact ⟨by omega,fun e=>by rw [e] at p1; simp at p1⟩) B H nx g3 hBn) ?_
 rintro _ H3 nx3 ⟨hle3,hsm3,h⟩
 rcases h with ⟨ht,rfl⟩ | ⟨ht,sv,rfl,hrow,hbd⟩
 ·rw [if_pos ht]
  (have zz:=and_self; repeat' (first|refine zW ?_|apply a_n|apply a_r|refine zO ?_|refine vY ?_|refine cTY ?_|refine af rfl ?_|refine r2Y ?_|fail)) <;> (try clear zz)
  exact jM rfl rfl
 rw [if_neg (by rw [ht]; decide)]
 have g2':H3 2=some [aC b]:=(hsm3 2 (by omega)).trans g2
 have hcs:=jn (a.map (bR m)) (fun s=>!b.any fun t=>bw s t) 39 [.iptr [aC b] 0,.iptr [.func 34 []] 0] (DatL.cons (Dat.iptr (DatL.cons (bh _) DatL.nil)) (DatL.cons (Dat.iptr (DatL.cons (Dat.func DatL.nil) DatL.nil)) DatL.nil)) (fun s hs=>by
  obtain ⟨s0,hs0,rfl⟩:=List.mem_map.1 hs
  refine zY b _ hb hbs ?_
  obtain ⟨p1,p2,p3,p4⟩:=bH (a2 s0 hs0)
  have:=gz (K:=bl) (l:=s0.map (iW m))
  rw [List.length_map] at this
  show (bR m s0).length ≤ _
  unfold bR; omega) (by show _ ≤ _; rw [List.length_map]; omega)
 (have zz:=@t5; repeat' (first|refine zW ?_|apply a_n|refine zO ?_|refine vY ?_|refine alY ?_|refine stY ?_|refine cFY ?_|fail)) <;> (try clear zz)
 refine bN ev0 (have zz:=@t5; evZ) hcs (aa (ap (kY (hrow.same fun B hB=>by have:=hbd B hB; (repeat rw [al (by omega)]))) (ap (g8 (ap (ec (by (repeat rw [al (by omega)]); exact g2') rfl (ap (bh _ _) ab)) (ap (ec (by rw [ai]; rfl) rfl (ap (Dat.func DatL.nil _) ab)) ab))) ab)) rfl) ?_
 (have zz:=and_self; repeat' (first|apply a_n|refine zO ?_|refine vY ?_|refine af rfl ?_|refine r2Y ?_|fail)) <;> (try clear zz)
 exact jM sD rfl
end Go.Proofs.YtpfkjcjgdilkkaaGreat
namespace Go.Proofs.YtpfkjcjgdilkkaaGreat
open Go Go.Abs
attribute [local irreducible] aD ah aX aP aH aK az aL aR be Go.Abs.Fn aO Go.Abs.Pure ar aE Yl
end Go.Proofs.YtpfkjcjgdilkkaaGreat
namespace Go.Proofs.YtpfkjcjgdilkkaaGreat
open Go Go.Abs
theorem s5 {v w:Vtx} {l m:Spx}:bB (v :: l) (w :: m)=if bl v w ≠ 0 then bl v w else bB l m:=rfl
end Go.Proofs.YtpfkjcjgdilkkaaGreat
namespace Go.Proofs.YtpfkjcjgdilkkaaGreat
open Go Go.Abs
open Nat (reduceEqDiff reduceAdd reduceLeDiff)
attribute [local irreducible] aD ah aX aP aH aK az aL aR be Go.Abs.Fn aO Go.Abs.Pure ar aE Yl
end Go.Proofs.YtpfkjcjgdilkkaaGreat
namespace Go.Proofs.YtpfkjcjgdilkkaaGreat
open Go Go.Abs
open Nat (reduceEqDiff reduceAdd reduceLeDiff)
attribute [local irreducible] aD ah aX aP aH aK az aL aR be Go.Abs.Fn aO Go.Abs.Pure ar aE Yl
end Go.Proofs.YtpfkjcjgdilkkaaGreat
namespace Go.Proofs.YtpfkjcjgdilkkaaGreat
open Go Go.Abs
def eJ (l:List Spx):List Spx:=(dY bB l).filter fun s=>!bd (dY bB l) s
theorem js {l:List Spx} {s:Spx}:s ∈ eJ l ↔ s ∈ l∧bd l s=false:=by
 unfold eJ
 rw [List.mem_filter,ef]
 refine and_congr_right fun _=>?_
 cases h:bd l s
 ·refine ⟨fun _=>rfl,fun _=>?_⟩
  cases h2:bd (dY bB l) s
  ·rfl
  ·obtain ⟨t,t1,t2⟩:=bF.1 h2
   rw [bF.2 ⟨t,ef.1 t1,t2⟩] at h; cases h
 ·refine ⟨fun h2=>?_,fun h2=>by cases h2⟩
  obtain ⟨t,t1,t2⟩:=bF.1 h
  rw [bF.2 ⟨t,ef.2 t1,t2⟩] at h2; cases h2
theorem pL {l:List Spx}:cf bB (eJ l):=(go qG l).sublist List.filter_sublist
theorem pV {l:List Spx} {s:Spx} (h:s ∈ eJ l):s ∈ l:=(js.1 h).1
theorem qR {l:List Spx}:(eJ l).length ≤ l.length:=Nat.le_trans (List.length_filter_le _ _) gz
theorem o7 {l:List Spx} (h1:l.length ≤ 4096) (h2:∀ s ∈ l,bo s=0):aJ (eJ l)=0:=by
 refine ky (Nat.le_trans qR h1) (fun s hs=>h2 s (pV hs)) pL fun s hs=>?_
 cases h:bd (eJ l) s
 ·rfl
 ·obtain ⟨t,t1,t2⟩:=bF.1 h
  have:=(js.1 hs).2
  rw [bF.2 ⟨t,pV t1,t2⟩] at this; cases this
theorem uc {c:List Spx} (h:aJ c=0):eJ c=c:=by
 obtain ⟨h1,h2,h3,h4⟩:=bA h
 refine j8 qG pL h3 fun s=>?_
 rw [js]
 exact ⟨fun h=>h.1,fun h=>⟨h,h4 s h⟩⟩
theorem mY {m:MapV} {l:Spx} {w:Vtx}:w ∈ bR m l ↔ ∃ v ∈ l,iW m v=w:=by
 unfold bR; rw [ef,List.mem_map]
theorem uX {m:MapV} {l:Spx}:cf bl (bR m l):=go iO _
theorem si {m:MapV} {l:Spx}:(bR m l).length ≤ l.length:=by
 unfold bR
 have:=gz (K:=bl) (l:=l.map (iW m))
 rwa [List.length_map] at this
theorem wZ {m:MapV} {l:Spx} (h:l ≠ []):bR m l ≠ []:=fun e=>h (by unfold bR at e; rwa [uT,List.map_eq_nil_iff] at e)
theorem fX {m:MapV} {l:Spx}:bU m l=true ↔ ∀ v ∈ l,v ∈ m.fr:=by
 unfold bU; simp [List.all_eq_true]
theorem gU {m:MapV} {l:Spx} (hm:dI m=0) (hl:bo l=0) (ht:bU m l=true):bo (bR m l)=0:=by
 obtain ⟨q1,q2,q3,q4,q5⟩:=iG hm
 obtain ⟨p1,p2,p3,p4⟩:=bH hl
 have hne:l ≠ []:=fun e=>by rw [e] at p1; simp at p1
 refine pW ⟨List.length_pos_iff.2 (wZ hne),Nat.le_trans si p2⟩ uX fun w hw=>?_
 obtain ⟨v,v1,rfl⟩:=mY.1 hw
 exact q5 _ (vG q2 (fX.1 ht v v1))
def mO (m:MapV) (l:Spx):Spx × Int:=if dI m ≠ 0 then ([],dI m) else if bo l ≠ 0 then ([],bo l) else if bU m l=false then ([],6) else (bR m l,0)
def lu (m:MapV) (c:List Spx):List Spx × Int:=if dI m ≠ 0 then ([],dI m) else if aJ c ≠ 0 then ([],aJ c) else if c.all (bU m)=false then ([],6) else (eJ (c.map (bR m)),0)
end Go.Proofs.YtpfkjcjgdilkkaaGreat
namespace Go.Proofs.YtpfkjcjgdilkkaaGreat
open Go Go.Abs
theorem wg {H H':Hp} (hs:∀ b cs,H b=some cs→H' b=some cs) {x y:AV} (h:Snap H x y):Snap H' x y:=by
 induction h with
 | bool b=>exact .bool _
 | int k n=>exact .int _ _
 | str s=>exact .str _
 | nilp=>exact .nilp
 | nilf=>exact .nilf
 | nilm=>exact .nilm
 | esl=>exact .esl
 | eslsl sz=>exact .eslsl _
 | sl sz l l' hl hc h ih=>exact .sl sz l l' hl hc ih
 | slnil sz sz'=>exact .slnil _ _
 | msl b n sz off len cs l' hb hn hf hl hc h ih=>exact .msl b n sz off len cs l' (hs _ _ hb) hn hf hl hc ih
 | mslnil b n sz off sz'=>exact .mslnil _ _ _ _ _
 | ptr b n off cs cs' hb hn hl h ih=>exact .ptr b n off cs cs' (hs _ _ hb) hn hl ih
 | iptr cs cs' off hl h ih=>exact .iptr cs cs' off hl ih
 | func f cs cs' hl h ih=>exact .func f cs cs' hl ih
 | agg cs cs' hl h ih=>exact .agg cs cs' hl ih
 | tup cs cs' hl h ih=>exact .tup cs cs' hl ih
theorem j4 {H:Hp} {s:AV} {l:Spx} {e f:Int} (h:Snap H s (aq l)) (he:e=f):Snap H (.tup [s,.int .i64 e]) (.tup [aq l,.int .i64 f]):=by
 subst he; exact gK (ap h (ap (.int _ _) ab))
theorem j0 {H:Hp} {s:AV} {l:List Spx} {e f:Int} (h:Snap H s (aC l)) (he:e=f):Snap H (.tup [.agg [s],.int .i64 e]) (.tup [c9 l,.int .i64 f]):=by
 subst he; exact gK (ap (ni (ap h ab)) (ap (.int _ _) ab))
attribute [local irreducible] aD ah aX aP aH aK az aL aR be Go.Abs.Fn aO Go.Abs.Pure ar aE Yl
theorem sO (m:MapV) (l:Spx) (hm:ShM m) (hl:Shn l):Pure Tryz.prog 9 [pe m,aq l] (.tup [aq (mO m l).1,.int .i64 (mO m l).2]):=by
 refine Pure.of_c2 follows is9 (Nat.le_of_ble_eq_true rfl) ?_
 simp only [b9,cO,cG,cN,cM,cD,cF,cB,ax,aN]
 have hc:=eW l hl
 unfold mO
 (have zz:=aI @a9 @aQ; repeat' (first|refine zW ?_|apply a_n|refine zO ?_|refine vZ ?_|refine bxZ ?_|fail)) <;> (try clear zz)
 refine ay ev0 ev0 (rm m hm _ _) ?_
 rintro _ H1 nx1 ⟨hsm,hle,h⟩
 rcases h with ⟨he,B,rfl,hB1,hB2,hB3⟩ | ⟨he,zv,rfl⟩
 rotate_left
 ·rw [if_pos he]
  have z:decide (dI m ≠ 0)=true:=decide_eq_true he
  (have zz:=@z; repeat' (first|refine zW ?_|apply a_n|apply a_r|refine zO ?_|refine vY ?_|refine cTY ?_|refine af rfl ?_|refine r2Y ?_|fail)) <;> (try clear zz)
  exact j4 (.eslsl _) rfl
 rw [if_neg (fun h=>h he)]
 obtain ⟨q1,q2,q3,q4,q5⟩:=iG he
 have z0:decide ((0:Int) ≠ 0)=false:=rfl
 by_cases hes:bo l=0
 rotate_left
 ·rw [if_pos hes]
  have z:decide (bo l ≠ 0)=true:=decide_eq_true hes
  (have zz:=aI @z0 @z; repeat' (first|refine zW ?_|apply a_n|apply a_r|refine zO ?_|refine vY ?_|refine cY ?_ (hp:=hc) (hs:=by (first | refine aa ?_ rfl | apply ac); (repeat' (first | exact ab | apply ag | apply ae | exact aw _)); first | done | fail)|refine cTY ?_|refine cFY ?_|refine af rfl ?_|refine r2Y ?_|fail)) <;> (try clear zz)
  exact j4 (.eslsl _) rfl
 rw [if_neg (fun h=>h hes)]
 rw [hes] at hc
 obtain ⟨p1,p2,p3,p4⟩:=bH hes
 have hne:l ≠ []:=fun e=>by rw [e] at p1; simp at p1
 (have zz:=@z0; repeat' (first|refine zW ?_|apply a_n|refine zO ?_|refine vY ?_|refine cY ?_ (hp:=hc) (hs:=by (first | refine aa ?_ rfl | apply ac); (repeat' (first | exact ab | apply ag | apply ae | exact aw _)); first | done | fail)|refine cFY ?_|fail)) <;> (try clear zz)
 refine ay ev0 ev0 (zL m l q2 (by omega) hne B H1 nx1 hB3 hB2) ?_
 rintro _ H2 nx2 ⟨hle2,h⟩
 rcases h with ⟨ht,rfl,hsm2⟩ | ⟨ht,sv,Hf,H3,rfl,hone,hfz,hsn,hsm2⟩
 ·rw [if_pos ht]
  (have zz:=and_self; repeat' (first|refine zW ?_|apply a_n|apply a_r|refine zO ?_|refine vY ?_|refine cTY ?_|refine af rfl ?_|refine r2Y ?_|fail)) <;> (try clear zz)
  exact j4 (.eslsl _) rfl
 ·rw [if_neg (by rw [ht]; exact fun h=>by cases h)]
  (have zz:=@hone; repeat' (first|refine zW ?_|apply a_n|refine zO ?_|refine vY ?_|refine cFY ?_|refine af rfl ?_|refine r2Y ?_|fail)) <;> (try clear zz)
  exact j4 (wg hfz.sub hsn) rfl
end Go.Proofs.YtpfkjcjgdilkkaaGreat
namespace Go.Proofs.YtpfkjcjgdilkkaaGreat
open Go Go.Abs
attribute [local irreducible] aD ah aX aP aH aK az aL aR be Go.Abs.Fn aO Go.Abs.Pure ar aE Yl
end Go.Proofs.YtpfkjcjgdilkkaaGreat
namespace Go.Proofs.YtpfkjcjgdilkkaaGreat
open Go Go.Abs
attribute [local irreducible] aD ah aX aP aH aK az aL aR be Go.Abs.Fn aO Go.Abs.Pure ar aE Yl
end Go.Proofs.YtpfkjcjgdilkkaaGreat
namespace Go.Proofs.YtpfkjcjgdilkkaaGreat
open Go Go.Abs
attribute [local irreducible] aD ah aX aP aH aK az aL aR be Go.Abs.Fn aO Go.Abs.Pure ar aE Yl
end Go.Proofs.YtpfkjcjgdilkkaaGreat
namespace Go.Proofs.YtpfkjcjgdilkkaaGreat
open Go Go.Abs
open Nat (reduceEqDiff reduceAdd reduceLeDiff)
theorem tN {L:List Spx} {h:Nat} {x:Spx} (hh:h < L.length):(L.set h x).take (h + 1)=L.take h ++ [x]:=by
 rw [ce (by simpa using hh),List.take_set_of_le (Nat.le_refl h)]
 simp [List.getD,hh]
theorem lz {B n len k:Nat} (h:k < len) (hn:n ≠ 0):gd 1 (.msl B n 1 0 len) (some (.int .i64 k)) none none=some (.msl B n 1 k (len - k)):=by
 simp only [gd,ba,Int.natCast_nonneg,if_true,Int.toNat_natCast]
 rw [if_pos ⟨trivial,by omega,Nat.le_refl _,hn⟩,if_pos (.inr h),Nat.zero_add,Nat.mul_one]
theorem rE {B n len k:Nat} (h:k ≤ len) (hn:n ≠ 0):gd 1 (.msl B n 1 0 len) none (some (.int .i64 k)) none=some (.msl B n 1 0 k):=by
 simp only [gd,ba,Int.natCast_nonneg,if_true,Int.toNat_natCast]
 rw [if_pos ⟨trivial,by omega,h,hn⟩,if_pos (.inl trivial),Nat.zero_mul,Nat.sub_zero]
attribute [local irreducible] aD ah aX aP aH aK az aL aR be Go.Abs.Fn aO Go.Abs.Pure ar aE Yl
theorem p8 (l:List Spx) (hl:Shn l) (hls:∀ s ∈ l,Shn s) (h0:l ≠ []) (H:Hp) (B nx:Nat) (hH:H B=some (l.map aq)) (hB:B < nx) :
    Abs.Fn Tryz.prog 77 [.msl B l.length 1 0 l.length,.func 20 []] H nx fun r H' nx'=>r=.msl B l.length 1 0 (bq l l.length)∧(∃ C,H'=aj H B C∧C.length=l.length∧C.take (bq l l.length)=(cL l l.length).map aq)∧nx'=nx:=by
 refine Abs.Fn.of_c2 follows za (Nat.le_of_ble_eq_true rfl) ?_
 simp only [b77,cO,cG,cN,cM,cD,cF,cB,ax,aN]
 have hl':l.length ≤ 17592186044416:=hl
 have hpos:=List.length_pos_iff.2 h0
 have hid:H=aj H B (l.map aq):=dv hH
 (have zz:=and_self; repeat' (first|refine zW ?_|apply a_n|apply a_r|refine zO ?_|refine vZ ?_|(refine zGZ ?_ ?_ <;> (intro _hg; try (exfalso; omega)))|refine af rfl ?_|refine r1Z ?_|fail)) <;> (try clear zz)
 ·have e1:l.length=1:=by omega
  have e2:cL l l.length=l:=by
   match l,e1 with
   | [a],_=>rfl
  refine ⟨?_,⟨_,hid,by simp,?_⟩,rfl⟩
  ·rw [show bq l l.length=l.length by rw [e1]; rfl]
  ·rw [e2,show bq l l.length=l.length by rw [e1]; rfl,List.take_of_length_le (by simp)]
 refine aS (X:=Nat) (fun k=>[(0,.msl B l.length 1 0 l.length),(1,.func 20 []),(5,.int .i64 k)]) (fun k H' nx'=>H'=H∧nx'=nx∧1 ≤ k∧k ≤ l.length∧bq l k=k∧cL l k=l.take k) (fun k=>l.length - k) 1 ⟨rfl,rfl,Nat.le_refl _,hpos,rfl,by match l,h0 with | a :: r,_=>rfl⟩ ag0 ?_
 rintro k H' nx' ⟨rfl,rfl,k1,k2,k3,k4⟩
 by_cases hk:k < l.length
 ·have tk:(k:Int) - 1=(k - 1:Nat):=by omega
  have heq:=ql (l.getD k default) (l.getD (k - 1) default) (hls _ (aY hk)) (hls _ (aY (by omega)))
  by_cases he:l.getD k default=l.getD (k - 1) default
  ·have hs:=lz (B:=B) (n:=l.length) hk (Nat.ne_of_gt hpos)
   rw [decide_eq_true he] at heq
   (have zz:=aI @tk (aI @hH (aI @Int.toNat_natCast (aI @hs (aI @a9 @aQ)))); repeat' (first|refine zW ?_|refine zM ?_|apply a_n|refine zO ?_|refine vZ ?_|refine cZ ?_ (hp:=heq) (hs:=by (first | refine aa ?_ rfl | apply ac); (repeat' (first | exact ab | apply ag | apply ae | exact aw _)); first | done | fail)|refine cTZ ?_|(refine zGZ ?_ ?_ <;> (intro _hg; try (exfalso; omega)))|fail)) <;> (try clear zz)
   refine aS (X:=Nat × List Spx) (fun x=>[(0,.msl B l.length 1 0 l.length),(1,.func 20 []),(5,.int .i64 (bq l (k + x.1):Nat)),(6,.msl B l.length 1 k (l.length - k)),(7,.int .i64 x.1)]) (fun x H2 nx2=>x.2.length=l.length∧1 ≤ x.1∧k + x.1 ≤ l.length∧bq l (k + x.1) + 1 ≤ k + x.1∧H2=aj H' B (x.2.map aq)∧nx2=nx'∧(∀ p,k + x.1 ≤ p + 1→x.2.getD p default=l.getD p default)∧x.2.take (bq l (k + x.1))=cL l (k + x.1)) (fun x=>l.length - x.1) (1,l)
    ⟨rfl,Nat.le_refl _,hk,by dsimp only; rw [dg (by omega) he]; omega,hid,rfl,fun _ _=>rfl,by dsimp only; rw [dg (by omega) he,fW (by omega) he,k3,k4]⟩ (by simp (disch:=omega) only [agr,ZG,reduceEqDiff,↓reduceIte,dg (show k ≠ 0 by omega) he,k3]) ?_
   rintro ⟨j,L⟩ H2 nx2 ⟨a1,a2,a3,a4,rfl,rfl,a5,a6⟩
   dsimp only at a1 a2 a3 a4 a5 a6 ⊢
   by_cases hj:k + j < l.length
   ·have tj:(j:Int) - 1=(j - 1:Nat):=by omega
    have r1:=a5 (k + j) (by omega)
    have r2:=a5 (k + (j - 1)) (by omega)
    have heq2:=ql (l.getD (k + j) default) (l.getD (k + (j - 1)) default) (hls _ (aY hj)) (hls _ (aY (by omega)))
    by_cases hd:l.getD (k + j) default=l.getD (k + (j - 1)) default
    ·have hq:bq l (k + (j + 1))=bq l (k + j):=dg (l:=l) (k:=k + j) (by omega) (by rw [hd,show k + j - 1=k + (j - 1) by omega])
     rw [decide_eq_true hd] at heq2
     (have zz:=aI @tj (aI @Int.toNat_natCast (aI @r1 (aI @r2 (aI @a9 @aQ)))); repeat' (first|refine zW ?_|refine zM ?_|apply a_n|refine zO ?_|refine vZ ?_|refine cZ ?_ (hp:=heq2) (hs:=by (first | refine aa ?_ rfl | apply ac); (repeat' (first | exact ab | apply ag | apply ae | exact aw _)); first | done | fail)|refine cFZ ?_|(refine zGZ ?_ ?_ <;> (intro _hg; try (exfalso; omega)))|fail)) <;> (try clear zz)
     refine ⟨(j + 1,L),by dsimp only; omega,⟨a1,by dsimp only; omega,by dsimp only; omega,?_,rfl,rfl,fun p hp=>a5 p (by dsimp only at hp; omega),by dsimp only; rw [hq,show k + (j + 1)=k + j + 1 from rfl,fW (by omega) (by rw [hd,show k + j - 1=k + (j - 1) by omega])]; exact a6⟩,(have zz:=@hq; agZ)⟩
     dsimp only
     rw [hq]
     omega
    ·have hq:bq l (k + (j + 1))=bq l (k + j) + 1:=fR (l:=l) (k:=k + j) (by rw [show k + j - 1=k + (j - 1) by omega]; exact hd)
     have hlm:=fo (f:=aq) (l:=L) (k:=bq l (k + j)) (x:=l.getD (k + j) default) (by omega)
     rw [decide_eq_false hd] at heq2
     (have zz:=aI @tj (aI @Int.toNat_natCast (aI @r1 (aI @r2 (aI @a9 @aQ)))); repeat' (first|refine zW ?_|refine zM ?_|apply a_n|refine zO ?_|refine vZ ?_|refine cZ ?_ (hp:=heq2) (hs:=by (first | refine aa ?_ rfl | apply ac); (repeat' (first | exact ab | apply ag | apply ae | exact aw _)); first | done | fail)|refine stZ ?_|refine cTZ ?_|(refine zGZ ?_ ?_ <;> (intro _hg; try (exfalso; omega)))|fail)) <;> (try clear zz)
     refine ⟨(j + 1,L.set (bq l (k + j)) (l.getD (k + j) default)),by dsimp only; omega,⟨by simp [a1],by dsimp only; omega,by dsimp only; omega,?_,?_,rfl,fun p hp=>?_,by dsimp only; rw [hq,tN (by omega),a6,show k + (j + 1)=k + j + 1 from rfl,f7 (by rw [show k + j - 1=k + (j - 1) by omega]; exact hd)]⟩,(have zz:=@hq; agZ)⟩
     ·dsimp only
      rw [hq]
      omega
     ·dsimp only
      rw [an,hlm]
     ·dsimp only at hp ⊢
      rw [List.getD_eq_getElem?_getD,List.getElem?_set_ne (by omega),← List.getD_eq_getElem?_getD]
      exact a5 p (by omega)
   ·have hn:k + j=l.length:=by omega
    have hl1:=lz (B:=B) (n:=l.length) (show bq l (k + j) < l.length by omega) (Nat.ne_of_gt hpos)
    have hl2:=rE (B:=B) (n:=l.length) (show bq l (k + j) ≤ l.length by omega) (Nat.ne_of_gt hpos)
    (have zz:=aI @hl1 @hl2; repeat' (first|refine zW ?_|apply a_n|apply a_x|refine zO ?_|refine vZ ?_|(refine zGZ ?_ ?_ <;> (intro _hg; try (exfalso; omega)))|fail)) <;> (try clear zz)
    refine xP (H':=aj (aj H' B (L.map aq)) B (bi (L.map aq) (bq l (k + j)) (a7 .esl (l.length - bq l (k + j))))) ?_ ?_
    ·((try simp only [cz,ZA,reduceEqDiff,↓reduceIte,reduceAdd,reduceLeDiff]); (try with_reducible rfl))
     simp only [eY]
     rw [if_neg (by omega),ai]
     dsimp only
     rw [if_pos ⟨by simp [a1],trivial,rfl,rfl,by omega⟩]
     rfl
    ·(have zz:=@hl2; repeat' (first|refine zW ?_|apply a_n|apply a_r|refine zO ?_|refine vZ ?_|refine af rfl ?_|refine r1Z ?_|fail)) <;> (try clear zz)
     refine ⟨by rw [hn],⟨_,an _ _ _ _,?_,?_⟩,rfl⟩
     ·have hz:(a7 AV.esl (l.length - bq l (k + j))).length=l.length - bq l (k + j):=by simp [a7,show AV.esl.cells.length=1 from rfl]
      simp [bi,hz]
      omega
     ·rw [← hn,← a6,List.map_take]
      simp only [bi]
      rw [List.append_assoc,List.take_append_of_le_length (by simp; omega),List.take_of_length_le (by simp; omega)]
  ·rw [decide_eq_false he] at heq
   (have zz:=aI @tk (aI @hH (aI @Int.toNat_natCast (aI @a9 @aQ))); repeat' (first|refine zW ?_|refine zM ?_|apply a_n|refine zO ?_|refine vZ ?_|refine cZ ?_ (hp:=heq) (hs:=by (first | refine aa ?_ rfl | apply ac); (repeat' (first | exact ab | apply ag | apply ae | exact aw _)); first | done | fail)|refine cFZ ?_|(refine zGZ ?_ ?_ <;> (intro _hg; try (exfalso; omega)))|fail)) <;> (try clear zz)
   exact ⟨k + 1,by omega,⟨rfl,rfl,by omega,by omega,by rw [fR he,k3],by rw [f7 he,k4,ce hk]⟩,ag0⟩
 ·(have zz:=and_self; repeat' (first|refine zW ?_|apply a_n|apply a_x|refine zO ?_|refine vZ ?_|(refine zGZ ?_ ?_ <;> (intro _hg; try (exfalso; omega)))|refine af rfl ?_|refine r1Z ?_|fail)) <;> (try clear zz)
  have e:l.length=k:=by omega
  refine ⟨by rw [e,k3],⟨_,hid,by simp,?_⟩,rfl⟩
  rw [e,k3,k4,← List.map_take]
end Go.Proofs.YtpfkjcjgdilkkaaGreat
namespace Go.Proofs.YtpfkjcjgdilkkaaGreat
open Go Go.Abs
open Nat (reduceEqDiff reduceAdd reduceLeDiff)
theorem sR {H:Hp} {sz:Nat} {s:AV} {elems:List AV} (h:Row H sz s (elems.flatMap AV.cells)) (hc:∀ y ∈ elems,y.cells.length=sz) (hz:0 < sz) (hd:∀ y ∈ elems,∀ c ∈ y.cells,SnapF H c c):SnapF H s (.sl sz elems):=by
 obtain ⟨f1,f2⟩:=cp elems hc
 generalize he:elems.flatMap AV.cells=cs at h
 cases h with
 | nil =>
  have:elems.length * sz=0:=by rw [← f1,he]; rfl
  have:elems=[]:=List.length_eq_zero_iff.1 (by
   rcases Nat.mul_eq_zero.1 this with h | h
   ·exact h
   ·omega)
  subst this; exact .eslsl sz
 | box b len cs hb hl =>
  have hlen:elems.length=len:=Nat.eq_of_mul_eq_mul_right hz (by rw [← f1,he,hl])
  refine .msl b (len * sz) sz 0 len cs elems hb hl (by omega) hlen hc (fun i j y a c hy hc' ha=>?_)
  have hj:j < sz:=by rw [← hc y (List.mem_of_getElem? hy)]; exact (List.getElem?_eq_some_iff.1 hc').1
  have key:∀ (l:List AV) (i j:Nat) (y c:AV),(∀ z ∈ l,z.cells.length=sz)→l[i]?=some y→y.cells[j]?=some c→j < sz→(l.flatMap AV.cells)[i * sz + j]?=some c:=by
   intro l
   induction l with
   | nil=>intro i j y c _ h; simp at h
   | cons x l ih =>
    intro i j y c hl hy hc hj
    rw [List.flatMap_cons]
    cases i with
    | zero =>
     simp at hy; subst hy
     rw [Nat.zero_mul,Nat.zero_add,List.getElem?_append_left (by rw [hl x (by simp)]; exact hj)]; exact hc
    | succ i =>
     rw [List.getElem?_append_right (by rw [hl x (by simp),Nat.add_mul]; omega),hl x (by simp)]
     have:=ih i j y c (fun z hz=>hl z (by simp [hz])) (by simpa using hy) hc hj
     rw [← this]; congr 1; rw [Nat.add_mul]; omega
  have:=key elems i j y c hc hy hc' hj
  rw [he,← Nat.zero_add (i * sz)] at this
  rw [this] at ha; cases ha
  exact hd y (List.mem_of_getElem? hy) a (List.mem_of_getElem? hc')
theorem r8 {H:Hp} {s:AV} {l:Spx} (h:Row H 2 s (cX l)):SnapF H s (aq l):=by
 refine sR (elems:=l.map bf) (by rw [rS]; exact h) (fun y hy=>?_) (by omega) (fun y hy c hx=>?_)
 ·obtain ⟨n,_,rfl⟩:=List.mem_map.1 hy; rfl
 ·obtain ⟨n,_,rfl⟩:=List.mem_map.1 hy
  simp only [bf,AV.cells,List.mem_cons,List.not_mem_nil,or_false] at hx
  rcases hx with rfl | rfl <;> exact .int _ _
attribute [local irreducible] aD ah aX aP aH aK az aL aR be Go.Abs.Fn aO Go.Abs.Pure ar aE Yl
theorem ua (l:Spx) (hl:l.length ≤ 1000000):fi Tryz.prog 45 [aq l] (aq l):=by
 refine fi.of_c2 follows zQ (Nat.le_of_ble_eq_true rfl) ?_
 simp only [b45,cO,cG,cN,cM,cD,cF,cB,ax,aN]
 (have zz:=and_self; repeat' (first|refine zW ?_|apply a_n|refine zO ?_|refine vY ?_|fail)) <;> (try clear zz)
 have hn:e5 (aq l)=some l.length:=by unfold aq eV; simp [e5]
 refine uC (k:=l.length) (by ((try simp only [cz,ZA,reduceEqDiff,↓reduceIte,reduceAdd,reduceLeDiff]); (try with_reducible rfl)); exact hn) (fun h=>?_) (fun h=>?_) (fun h=>?_)
 ·(have zz:=and_self; repeat' (first|refine zW ?_|apply a_n|refine zO ?_|refine vY ?_|refine b0Y ?_|refine cFY ?_|fail)) <;> (try clear zz)
  refine mj rfl ev0 ev0 uP (ot _) (by omega) (by omega) ?_
  (have zz:=and_self; repeat' (first|apply a_n|refine zO ?_|refine vY ?_|refine af rfl ?_|refine r1Y ?_|fail)) <;> (try clear zz)
  exact r8 (Row.box _ l.length (cX l) ai (dZ l))
 ·(have zz:=and_self; repeat' (first|refine zW ?_|apply a_n|apply a_r|refine zO ?_|refine vY ?_|refine cTY ?_|refine af rfl ?_|refine r1Y ?_|fail)) <;> (try clear zz)
  obtain rfl:=List.length_eq_zero_iff.1 h
  exact .eslsl 2
 ·(have zz:=and_self; repeat' (first|refine zW ?_|apply a_n|refine zO ?_|refine vY ?_|refine b0Y ?_|refine cFY ?_|fail)) <;> (try clear zz)
  refine mj rfl ev0 ev0 uP (ot _) (by omega) (by omega) ?_
  (have zz:=and_self; repeat' (first|apply a_n|refine zO ?_|refine vY ?_|refine af rfl ?_|refine r1Y ?_|fail)) <;> (try clear zz)
  exact r8 (Row.box _ l.length (cX l) ai (dZ l))
theorem tB (s:AV) (l:List Spx) (hl:l.length ≤ 1000000) (H:Hp) (nx:Nat) (hn:e5 s=some l.length) (hs:∀ H',(∀ x,x < nx→H' x=H x)→di 1 H' s=some (l.length,l.map aq)):Abs.Fn Tryz.prog 75 [s] H nx fun r H' nx'=>nx' ≤ nx + 1∧nx ≤ nx'∧(∀ x,x < nx→H' x=H x)∧if l=[] then cr r=some (.int .i64 0)∧∀ H'',Snap H'' r (aC []) else r=.msl nx l.length 1 0 l.length∧H'=aj H nx (l.map aq)∧nx'=nx + 1:=by
 refine Abs.Fn.of_c2 follows zV (Nat.le_of_ble_eq_true rfl) ?_
 simp only [b75,cO,cG,cN,cM,cD,cF,cB,ax,aN]
 have hones:AV.ones (l.map aq)=true:=by
  unfold AV.ones
  rw [List.all_eq_true]
  intro x hx
  obtain ⟨y,_,rfl⟩:=List.mem_map.1 hx
  rfl
 (have zz:=and_self; repeat' (first|refine zW ?_|apply a_n|refine zO ?_|refine vY ?_|fail)) <;> (try clear zz)
 refine uC (k:=l.length) (by ((try simp only [cz,ZA,reduceEqDiff,↓reduceIte,reduceAdd,reduceLeDiff]); (try with_reducible rfl)); exact hn) (fun h=>?_) (fun h=>?_) (fun h=>?_)
 ·(have zz:=and_self; repeat' (first|refine zW ?_|apply a_n|refine zO ?_|refine vY ?_|refine b0Y ?_|refine cFY ?_|fail)) <;> (try clear zz)
  refine mj rfl ev0 ev0 (hs _ fun x _=>rfl) hones (by omega) (by omega) ?_
  (have zz:=and_self; repeat' (first|apply a_n|refine zO ?_|refine vY ?_|refine af rfl ?_|refine r1Y ?_|fail)) <;> (try clear zz)
  refine ⟨Nat.le_refl _,by omega,fun x hx=>al (by omega),?_⟩
  rw [if_neg (by rintro rfl; exact absurd h (by simp))]
  exact ⟨rfl,rfl,rfl⟩
 ·(have zz:=and_self; repeat' (first|refine zW ?_|apply a_n|apply a_r|refine zO ?_|refine vY ?_|refine cTY ?_|refine af rfl ?_|refine r1Y ?_|fail)) <;> (try clear zz)
  refine ⟨by omega,Nat.le_refl _,fun x hx=>rfl,?_⟩
  rw [if_pos (List.length_eq_zero_iff.1 h)]
  exact ⟨rfl,fun _=>.eslsl 1⟩
 ·(have zz:=and_self; repeat' (first|refine zW ?_|apply a_n|refine zO ?_|refine vY ?_|refine b0Y ?_|refine cFY ?_|fail)) <;> (try clear zz)
  refine mj rfl ev0 ev0 (hs _ fun x _=>rfl) hones (by omega) (by omega) ?_
  (have zz:=and_self; repeat' (first|apply a_n|refine zO ?_|refine vY ?_|refine af rfl ?_|refine r1Y ?_|fail)) <;> (try clear zz)
  refine ⟨Nat.le_refl _,by omega,fun x hx=>al (by omega),?_⟩
  obtain rfl:=List.length_eq_zero_iff.1 h
  rw [if_pos rfl]
  exact ⟨rfl,fun _=>.mslnil _ _ _ _ _⟩
section
variable {g:Nat} {caps:List AV} {s:AV}
theorem zx (hs:cr s=some (.int .i64 0)) {H:Hp} {nx:Nat}:Abs.Fn Tryz.prog 122 [s,.int .i64 0,.int .i64 0,.func g caps] H nx fun r H' nx'=>nx'=nx∧H'=H:=by
 refine Abs.Fn.of_c2 follows vI (Nat.le_of_ble_eq_true rfl) ?_
 simp only [wA,cO,cG,cN,cM,cD,cF,cB,ax,aN]
 (have zz:=and_self; repeat' (first|refine zW ?_|apply a_n|refine zO ?_|refine vZ ?_|fail)) <;> (try clear zz)
 refine aS (X:=Unit) (fun x=>[(0,s),(1,.int .i64 0),(2,.int .i64 0),(3,.func g caps),(8,.int .i64 1)]) (fun x H' nx'=>H'=H∧nx'=nx) (fun x=>0) () ⟨rfl,rfl⟩ (by simp (disch:=omega) only [agr,ZG,reduceEqDiff,↓reduceIte,Int.zero_add,true_and]) ?_
 rintro _ _ _ ⟨rfl,rfl⟩
 (have zz:=and_self; repeat' (first|refine zW ?_|apply a_n|apply a_x|refine zO ?_|refine vZ ?_|(refine zGZ ?_ ?_ <;> (intro _hg; try (exfalso; omega)))|refine af rfl ?_|fail)) <;> (try clear zz)
 exact ⟨rfl,rfl⟩
theorem yV (hs:cr s=some (.int .i64 0)) {H:Hp} {nx:Nat}:Abs.Fn Tryz.prog 105 [s,.int .i64 0,.int .i64 0,.int .i64 0,.func g caps] H nx fun r H' nx'=>nx'=nx∧H'=H:=by
 refine Abs.Fn.of_c2 follows wa (Nat.le_of_ble_eq_true rfl) ?_
 simp only [wX,cO,cG,cN,cM,cD,cF,cB,ax,aN]
 (have zz:=and_self; repeat' (first|refine zW ?_|apply a_n|refine zO ?_|refine vZ ?_|fail)) <;> (try clear zz)
 refine aS (X:=Unit) (fun x=>[(0,s),(1,.int .i64 0),(2,.int .i64 0),(3,.int .i64 0),(4,.func g caps)]) (fun x H' nx'=>H'=H∧nx'=nx) (fun x=>0) () ⟨rfl,rfl⟩ ag0 ?_
 rintro _ _ _ ⟨rfl,rfl⟩
 (have zz:=and_self; repeat' (first|refine zW ?_|apply a_n|refine zO ?_|refine vZ ?_|(refine zGZ ?_ ?_ <;> (intro _hg; try (exfalso; omega)))|fail)) <;> (try clear zz)
 refine ay ev0 ev0 (zx hs) ?_
 rintro _ _ _ ⟨rfl,rfl⟩
 (have zz:=and_self; repeat' (first|apply a_n|apply a_r|refine zO ?_|refine af rfl ?_|fail)) <;> (try clear zz)
 exact ⟨rfl,rfl⟩
theorem vB (hs:cr s=some (.int .i64 0)) {H:Hp} {nx:Nat}:Abs.Fn Tryz.prog 76 [s,.func g caps] H nx fun r H' nx'=>nx'=nx∧H'=H:=by
 refine Abs.Fn.of_c2 follows yU (Nat.le_of_ble_eq_true rfl) ?_
 simp only [b76,cO,cG,cN,cM,cD,cF,cB,ax,aN]
 have w8:IntKind.wrap .u64 0=0:=by decide
 (have zz:=aI @w8 @hs; repeat' (first|refine zW ?_|apply a_n|refine zO ?_|refine vZ ?_|fail)) <;> (try clear zz)
 refine ay ev0 (have zz:=@w8; evZ) xp ?_
 rintro _ _ _ ⟨rfl,rfl,rfl⟩
 (have zz:=and_self; repeat' (first|apply a_n|refine zO ?_|refine vZ ?_|fail)) <;> (try clear zz)
 refine ay ev0 ev0 (yV hs) ?_
 rintro _ _ _ ⟨rfl,rfl⟩
 (have zz:=and_self; repeat' (first|apply a_n|refine zO ?_|refine af rfl ?_|fail)) <;> (try clear zz)
 exact ⟨rfl,rfl⟩
theorem rz (hs:cr s=some (.int .i64 0)) {H:Hp} {nx:Nat}:Abs.Fn Tryz.prog 77 [s,.func g caps] H nx fun r H' nx'=>r=s∧nx'=nx∧H'=H:=by
 refine Abs.Fn.of_c2 follows za (Nat.le_of_ble_eq_true rfl) ?_
 simp only [b77,cO,cG,cN,cM,cD,cF,cB,ax,aN]
 (have zz:=@hs; repeat' (first|refine zW ?_|apply a_n|apply a_r|refine zO ?_|refine vZ ?_|(refine zGZ ?_ ?_ <;> (intro _hg; try (exfalso; omega)))|refine af rfl ?_|refine r1Z ?_|fail)) <;> (try clear zz)
 exact ⟨rfl,rfl,rfl⟩
end
end Go.Proofs.YtpfkjcjgdilkkaaGreat
namespace Go.Proofs.YtpfkjcjgdilkkaaGreat
open Go Go.Abs
theorem s7 {D:List Spx} {k:Nat} {v:Vtx} (hk:k < D.length) (hv:v ∈ D.getD k default):gf D D.length v ≠ []:=fun e=>by
 have:k ∈ gf D D.length v:=List.mem_filter.2 ⟨List.mem_range.2 hk,decide_eq_true hv⟩
 rw [e] at this; cases this
theorem oS {l:List Spx} {p:Spx→Bool} {k:Nat} (hk:k < l.length):(l.take (k + 1)).filter p=(l.take k).filter p ++ if p (l.getD k default)=true then [l.getD k default] else []:=by
 rw [ce hk,List.filter_append]
 cases h:p (l.getD k default)
 ·rw [List.filter_cons_of_neg (by rw [h]; decide),List.filter_nil,if_neg (by decide)]
 ·rw [List.filter_cons_of_pos h,List.filter_nil,if_pos rfl]
attribute [local irreducible] aD ah aX aP aH aK az aL aR be Go.Abs.Fn aO Go.Abs.Pure ar aE Yl
theorem A0:Cmp Tryz.prog aq bB (fun s=>Shn s) 49 [] where
 cells _:=rfl
 one _:=rfl
 dat x:=aw x
 dcaps x hx:=by cases hx
 run x y hx hy:=gY x y hx hy
 ord:=qG.ord
theorem kj (l:List Spx) (hl:l.length ≤ 100000) (hs:∀ s ∈ l,cf bl s∧s.length ≤ 1000∧s ≠ []):Pure Tryz.prog 33 [aC l] (c9 (eJ l)):=by
 refine Pure.of_c2 follows AP (Nat.le_of_ble_eq_true rfl) ?_
 simp only [b33,cO,cG,cN,cM,cD,cF,cB,ax,aN]
 have hn:e5 (aC l)=some l.length:=by unfold aC eV; simp [e5]
 (have zz:=@ao; repeat' (first|refine zW ?_|apply a_n|refine zO ?_|refine vY ?_|refine alY ?_|fail)) <;> (try clear zz)
 refine ay ev0 ev0 (tB _ l (by omega) _ _ hn (fun H' _=>yq)) ?_
 rintro r H1 nx1 ⟨c1,c2,c3,c4⟩
 have hD:∀ s ∈ dY bB l,cf bl s∧s.length ≤ 1000∧s ≠ []:=fun s h=>hs s (ef.1 h)
 have hDl:(dY bB l).length ≤ 100000:=Nat.le_trans gz hl
 have g0:H1 0=some [.esl]:=(c3 0 (by omega)).trans ai
 have hsort:Abs.Fn Tryz.prog 76 [r,.func 49 []] H1 nx1 fun _ H' nx'=>nx1 ≤ nx'∧H' 0=some [.esl]∧((l=[]∧cr r=some (.int .i64 0)∧∀ H'',Snap H'' r (aC [])) ∨ (l ≠ []∧r=.msl 1 l.length 1 0 l.length∧2 ≤ nx'∧∃ L':List Spx,H' 1=some (L'.map aq)∧L'.Perm l∧aM bB 0 l.length L')):=by
  by_cases h0:l=[]
  ·rw [if_pos h0] at c4
   refine Abs.Fn.mono (vB c4.1) ?_
   rintro _ _ _ ⟨rfl,rfl⟩
   exact ⟨Nat.le_refl _,g0,.inl ⟨h0,c4⟩⟩
  ·rw [if_neg h0] at c4
   obtain ⟨rfl,rfl,rfl⟩:=c4
   have hpos:=List.length_pos_iff.2 h0
   refine Abs.Fn.mono (wG A0 (L:=l) (b:=0 + 1) (n:=l.length) ai (by omega) rfl hpos (fun s h=>show s.length ≤ _ by have:=(hs s h).2.1; omega) (by omega)) ?_
   rintro _ H' nx' ⟨L',ps,p1,p2⟩
   exact ⟨ps.le,by rw [ps.fr 0 (by omega) (by omega)]; exact g0,.inr ⟨h0,rfl,ps.le,L',ps.at_,p1,p2⟩⟩
 have hnx1:1 ≤ nx1:=c2
 clear c4
 (have zz:=and_self; repeat' (first|refine zW ?_|apply a_n|refine zO ?_|refine vY ?_|fail)) <;> (try clear zz)
 refine ay ev0 ev0 hsort ?_
 rintro _ H2 nx2 ⟨d1,g2,d3⟩
 have hcmp:Abs.Fn Tryz.prog 77 [r,.func 20 []] H2 nx2 fun r' H' nx'=>nx2 ≤ nx'∧∃ Hf H3,Fz Hf H' H3∧Snap Hf r' (aC (dY bB l))∧H3 0=some [.esl]:=by
  rcases d3 with ⟨h0,e1,e2⟩ | ⟨h0,rfl,e0,L',e1,e2,e3⟩
  ·refine Abs.Fn.mono (rz e1) ?_
   rintro _ _ _ ⟨rfl,rfl,rfl⟩
   refine ⟨Nat.le_refl _,bn,_,Fz.none,?_,g2⟩
   rw [h0]; exact e2 _
  ·have hlen:=e2.length_eq
   have hL0:L' ≠ []:=fun e=>by rw [e] at hlen; simp at hlen; exact h0 (List.length_eq_zero_iff.1 hlen.symm)
   rw [← hlen]
   refine Abs.Fn.mono (p8 L' (show _ ≤ _ by omega) (fun s h=>show s.length ≤ _ by have:=(hs s (e2.mem_iff.1 h)).2.1; omega) hL0 H2 1 nx2 e1 (by omega)) ?_
   rintro _ _ _ ⟨rfl,⟨C,rfl,f1,f2⟩,rfl⟩
   have hd:cL L' L'.length=dY bB l:=j9 qG e2 (by rw [hlen]; exact e3)
   rw [hd] at f2
   have hle:=my L' L'.length
   have hdl:=jV L' L'.length
   rw [hd] at hdl
   refine ⟨Nat.le_refl _,only 1 C,bX (aj H2 1 C) 1,Fz.one ai,?_,by rw [ln (by omega),al (by omega)]; exact g2⟩
   refine mh (l:=(dY bB l).map aq) lm f1 (by omega) (by rw [List.length_map]; exact hdl) (fun y hy=>?_) (fun i a c ha hc=>?_)
   ·obtain ⟨z,_,rfl⟩:=List.mem_map.1 hy; rfl
   ·rw [← f2,List.getElem?_take] at hc
    split at hc
    ·rw [Nat.zero_add,hc] at ha; cases ha
     have hm:a ∈ (dY bB l).map aq:=by
      rw [← f2]
      exact List.mem_of_getElem? (i:=i) (by rw [List.getElem?_take,if_pos (by assumption)]; exact hc)
     obtain ⟨z,_,rfl⟩:=List.mem_map.1 hm
     exact aw _ _
    ·cases hc
 clear d3 hsort
 (have zz:=and_self; repeat' (first|refine zW ?_|apply a_n|refine zO ?_|refine vY ?_|fail)) <;> (try clear zz)
 refine ay ev0 ev0 hcmp ?_
 rintro r2 H3 nx3 ⟨f1,Hf,H4,hfz,hsn,g4⟩
 have hmx:eJ l=(dY bB l).filter fun s=>!bd (dY bB l) s:=rfl
 rw [hmx]
 have hasc:=go qG l
 generalize dY bB l=D at *
 (have zz:=and_self; repeat' (first|apply a_n|refine zO ?_|refine vY ?_|fail)) <;> (try clear zz)
 refine cQ ?_
 refine lr Hf H4 [(0,aC D),(2,.ptr 0 1 0)] hfz ⟨.inr hsn,.inl rfl,trivial⟩ ?_
 clear hfz hsn
 (have zz:=and_self; repeat' (first|apply a_n|refine zO ?_|refine vY ?_|fail)) <;> (try clear zz)
 refine ay ev0 ev0 (kJ D hDl (fun s h=>⟨(hD s h).1,by have:=(hD s h).2.1; omega⟩) _ _) ?_
 rintro _ H5 nx5 ⟨ks,vs,rfl,hinc,hsame,hlt⟩
 have g5:H5 0=some [.esl]:=(hsame 0 (by omega)).trans g4
 have hOk:OkS D:=⟨hDl,fun s h=>⟨(hD s h).1,(hD s h).2.1⟩⟩
 (have zz:=@ao; repeat' (first|refine zW ?_|apply a_n|refine zO ?_|refine vY ?_|refine alY ?_|fail)) <;> (try clear zz)
 refine aS (X:=Nat × AV) (fun x=>[(0,aC D),(2,.ptr 0 1 0),(3,.mp nx3),(4,.ptr nx5 1 0),(15,aC D),(16,.int .i64 D.length),(17,.int .i64 x.1)]) (fun x H' nx'=>x.1 ≤ D.length∧nx5 < nx'∧(∀ y,y < nx5→H' y=H5 y)∧H' nx5=some [x.2]∧Row H' 1 x.2 (((D.take x.1).filter fun s=>!bd D s).map aq)∧∀ B,dB x.2=some B→nx5 < B∧B < nx') (fun x=>D.length - x.1) (0,.esl) ⟨Nat.zero_le _,by omega,fun y hy=>al (by omega),ai,Row.nil,fun B h=>(by cases h)⟩ (by (iterate 7 refine And.intro rfl ?_); trivial) ?_
 rintro ⟨k,sv⟩ H' nx' ⟨h1,hnx',hsm,gb,hrow,hbd⟩
 dsimp only at h1 gb hrow hbd ⊢
 by_cases hk:k < D.length
 rotate_left
 ·rw [List.take_of_length_le (by omega)] at hrow
  obtain ⟨o1,o2⟩:=hrow.one
  have g6:H' 0=some [.esl]:=(hsm 0 (by omega)).trans g5
  (have zz:=aI @gb (aI @g6 (aI @o1 @o2)); repeat' (first|refine zW ?_|apply a_n|apply a_x|refine zO ?_|refine vY ?_|refine stY ?_|(refine zGY ?_ ?_ <;> (intro _hg; try (exfalso; omega)))|refine af rfl ?_|refine r1Y ?_|fail)) <;> (try clear zz)
  exact ni (ap (kY (hrow.same fun B hB=>al (by have:=hbd B hB; omega))) ab)
 have ix:=eT hk
 have hDk:=hD _ (aY hk)
 have hpos:0 < (D.getD k default).length:=List.length_pos_iff.2 hDk.2.2
 have hcv:=nP D (D.getD k default) hOk (hOk.2 _ (aY hk)) hpos
 have iy:=ix2 (l:=D.getD k default) (k:=0) hpos
 rw [show ((0:Nat):Int)=0 from rfl] at iy
 have hks:(D.getD k default).getD 0 default ∈ ks:=(hinc.dom _).2 (s7 hk (aY hpos))
 have hmf:=lA ((D.getD k default).getD 0 default) ks
 rw [if_pos hks] at hmf
 obtain ⟨m1,m2⟩:=hO hks
 have hr:=hinc.row _ m1
 rw [m2] at hr
 have hr':=hr.same (H':=H') (fun B hB=>hsm B (hinc.bnd _ B m1 hB).2.1)
 have hbox:=(hsm nx3 hinc.lt).trans hinc.box
 have hft:=oS (p:=fun s=>!bd D s) hk
 have hfl:(((D.take k).filter fun s=>!bd D s).map aq).length ≤ 100000:=by
  rw [List.length_map]
  have:=List.length_filter_le (fun s=>!bd D s) (D.take k)
  rw [List.length_take] at this; omega
 generalize hsk:D.getD k default=s at *
 (have zz:=aI @ix @iy; repeat' (first|refine zW ?_|apply a_n|refine zO ?_|refine vY ?_|(refine zGY ?_ ?_ <;> (intro _hg; try (exfalso; omega)))|fail)) <;> (try clear zz)
 refine oL ev0 hbox ev0 (mc _) hmf ?_
 rw [show mget .esl false (some (ks.idxOf (s.getD 0 default))) vs=vs.getD (ks.idxOf (s.getD 0 default)) .undef from rfl]
 (have zz:=and_self; repeat' (first|apply a_n|refine zO ?_|refine vY ?_|fail)) <;> (try clear zz)
 cases hb:bd D s
 ·rw [hb] at hcv hft
  rw [if_pos (by decide)] at hft
  refine bN ev0 ev0 hcv (aa (ap (bh _ _) (ap (qg hr') (ap (aw _ _) ab))) rfl) ?_
  (have zz:=and_self; repeat' (first|apply a_n|refine zO ?_|refine vY ?_|refine cTY ?_|fail)) <;> (try clear zz)
  refine oM nx5 gb fun S0 hS hsub=>?_
  (have zz:=@hS; repeat' (first|apply a_n|refine zO ?_|refine nvY ?_|fail)) <;> (try clear zz)
  refine rl ?_
  refine xk ev0 ev0 (ua s (by omega)) (ap (aw _ _) ab) ?_
  refine vh ⟨hsub _ gb,?_⟩
  refine rl ?_
  (have zz:=aI @a9 @aQ; repeat' (first|apply a_n|refine zO ?_|refine blY ?_|fail)) <;> (try clear zz)
  refine ⟨hsub _ (by rw [al (by omega)]; exact gb),?_⟩
  refine py ?_
  refine iT rfl ev0 (hrow.same fun B hB=>?_) ev0 kc rfl rfl Nat.one_pos (by omega) (by omega) ?_
  ·have:=hbd B hB; rw [al (by omega)]
  rintro s2 H2 nx2 hr2 i1 i2 i3 i4
  have gb2:H2 nx5=some [sv]:=(i3 nx5 (by omega) (fun h=>by have:=hbd _ h; omega)).trans (by rw [al (by omega)]; exact gb)
  obtain ⟨o1,o2⟩:=hr2.one
  (have zz:=aI @gb2 (aI @o1 @o2); repeat' (first|apply a_n|refine zO ?_|refine vY ?_|refine nvY ?_|apply py|refine stY ?_|fail)) <;> (try clear zz)
  refine ⟨(k + 1,s2),by dsimp only; omega,⟨by dsimp only; omega,by omega,fun y hy=>?_,by rw [ai]; rfl,?_,fun B hB=>?_⟩,ag0⟩
  ·rw [al (by omega),i3 y (by omega) (fun h=>by have:=hbd _ h; omega),al (by omega)]; exact hsm y hy
  ·dsimp only
   rw [hft,List.map_append]
   refine hr2.same fun B hB=>al ?_
   rcases i4 B hB with h | h
   ·have:=hbd B h; omega
   ·omega
  ·rcases i4 B hB with h | h
   ·have:=hbd B h; omega
   ·omega
 ·rw [hb] at hcv hft
  rw [if_neg (by decide),List.append_nil] at hft
  refine bN ev0 ev0 hcv (aa (ap (bh _ _) (ap (qg hr') (ap (aw _ _) ab))) rfl) ?_
  (have zz:=and_self; repeat' (first|apply a_n|refine zO ?_|refine vY ?_|refine cFY ?_|fail)) <;> (try clear zz)
  exact ⟨(k + 1,sv),by dsimp only; omega,⟨by dsimp only; omega,hnx',hsm,gb,by dsimp only; rw [hft]; exact hrow,hbd⟩,ag0⟩
end Go.Proofs.YtpfkjcjgdilkkaaGreat
namespace Go.Proofs.YtpfkjcjgdilkkaaGreat
open Go Go.Abs
theorem vF {H:Hp} {s:AV} {l:List Spx} (h:Row H 1 s (l.map aq)):∃ Hf H',Fz Hf H H'∧Snap Hf s (aC l)∧∀ x,dB s ≠ some x→H' x=H x:=by
 generalize hcs:l.map aq=cs at h
 cases h with
 | nil=>exact ⟨bn,H,Fz.none,kY (by rw [hcs]; exact Row.nil),fun _ _=>rfl⟩
 | box b len cs g1 g2=>exact ⟨only b cs,bX H b,Fz.one g1,kY (by rw [hcs]; exact Row.box b len cs lm g2),fun x hx=>ln (fun e=>hx (by rw [e]; rfl))⟩
attribute [local irreducible] aD ah aX aP aH aK az aL aR be Go.Abs.Fn aO Go.Abs.Pure ar aE Yl
theorem Ag (l:List Spx) (hl:l.length ≤ 4096) (hs:∀ s ∈ l,bo s=0):Pure Tryz.prog 28 [aC l] (.tup [c9 (eJ l),.int .i64 0]):=by
 refine Pure.of_c2 follows zK (Nat.le_of_ble_eq_true rfl) ?_
 simp only [b28,cO,cG,cN,cM,cD,cF,cB,ax,aN]
 have hc:=kj l (by omega) (fun s h=>by
  obtain ⟨p1,p2,p3,p4⟩:=bH (hs s h)
  exact ⟨p3,by omega,fun e=>by rw [e] at p1; simp at p1⟩)
 have z0:decide ((0:Int) ≠ 0)=false:=rfl
 have z1:decide ((4096:Int) < l.length)=false:=decide_eq_false (by omega)
 (have zz:=aI @ao @z1; repeat' (first|refine zW ?_|apply a_n|refine zO ?_|refine vY ?_|refine alY ?_|refine cFY ?_|fail)) <;> (try clear zz)
 refine aS (X:=Nat) (fun k=>[(0,aC l),(2,.ptr 0 1 0),(11,aC l),(12,.int .i64 l.length),(13,.int .i64 k)]) (fun k H nx=>k ≤ l.length∧H 0=some [.esl]) (fun k=>l.length - k) 0 ⟨Nat.zero_le _,ai⟩ (by (iterate 5 refine And.intro rfl ?_); trivial) ?_
 rintro k H nx ⟨h1,g0⟩
 by_cases hk:k < l.length
 rotate_left
 ·(have zz:=aI @g0 (aI @aB @av); repeat' (first|refine zW ?_|apply a_n|apply a_x|refine zO ?_|refine vY ?_|refine cY ?_ (hp:=hc) (hs:=by (first | refine aa ?_ rfl | apply ac); (repeat' (first | exact ab | apply ag | apply ae | exact bh _)); first | done | fail)|refine stY ?_|(refine zGY ?_ ?_ <;> (intro _hg; try (exfalso; omega)))|refine af rfl ?_|refine r2Y ?_|fail)) <;> (try clear zz)
  exact j0 (bh _).snap rfl
 have ix:=eT hk
 have hx:=eW (l.getD k default) (by have:=(bH (hs _ (aY hk))).2.1; show _ ≤ _; omega)
 rw [hs _ (aY hk)] at hx
 (have zz:=aI @ix @z0; repeat' (first|refine zW ?_|apply a_n|refine zO ?_|refine vY ?_|refine cY ?_ (hp:=hx) (hs:=by (first | refine aa ?_ rfl | apply ac); (repeat' (first | exact ab | apply ag | apply ae | exact aw _)); first | done | fail)|refine cFY ?_|(refine zGY ?_ ?_ <;> (intro _hg; try (exfalso; omega)))|fail)) <;> (try clear zz)
 exact ⟨k + 1,by omega,⟨by omega,g0⟩,ag0⟩
theorem wQ (m:MapV) (c:List Spx) (hm:ShM m) (hc:Shn c) (hcs:∀ s ∈ c,Shn s):Pure Tryz.prog 8 [pe m,c9 c] (.tup [c9 (lu m c).1,.int .i64 (lu m c).2]):=by
 refine Pure.of_c2 follows is8 (Nat.le_of_ble_eq_true rfl) ?_
 simp only [b8,cO,cG,cN,cM,cD,cF,cB,ax,aN]
 have hcc:=gL c hc hcs
 unfold lu
 (have zz:=aI @a9 (aI @aQ (aI @aB @av)); repeat' (first|refine zW ?_|apply a_n|refine zO ?_|refine vY ?_|refine alY ?_|refine bxY ?_|fail)) <;> (try clear zz)
 refine ay ev0 ev0 (rm m hm _ _) ?_
 rintro _ H1 nx1 ⟨hsm,hle,h⟩
 have g1:H1 1=some [aC c]:=(hsm 1 (by omega)).trans (by rw [al (by omega),ai])
 have g2:H1 2=some [.esl]:=(hsm 2 (by omega)).trans ai
 rcases h with ⟨he,B,rfl,hB1,hB2,hB3⟩ | ⟨he,zv,rfl⟩
 rotate_left
 ·rw [if_pos he]
  have z:decide (dI m ≠ 0)=true:=decide_eq_true he
  (have zz:=aI @g2 @z; repeat' (first|refine zW ?_|apply a_n|apply a_r|refine zO ?_|refine vY ?_|refine stY ?_|refine cTY ?_|refine af rfl ?_|refine r2Y ?_|fail)) <;> (try clear zz)
  exact j0 (.eslsl _) rfl
 rw [if_neg (fun h=>h he)]
 obtain ⟨q1,q2,q3,q4,q5⟩:=iG he
 have z0:decide ((0:Int) ≠ 0)=false:=rfl
 by_cases hes:aJ c=0
 rotate_left
 ·rw [if_pos hes]
  have z:decide (aJ c ≠ 0)=true:=decide_eq_true hes
  (have zz:=aI @g1 (aI @g2 (aI @z0 (aI @z (aI @aB @av)))); repeat' (first|refine zW ?_|apply a_n|apply a_r|refine zO ?_|refine vY ?_|refine cY ?_ (hp:=hcc) (hs:=by (first | refine aa ?_ rfl | apply ac); (repeat' (first | exact ab | apply ag | apply ae | exact br _)); first | done | fail)|refine stY ?_|refine cTY ?_|refine cFY ?_|refine af rfl ?_|refine r2Y ?_|fail)) <;> (try clear zz)
  exact j0 (.eslsl _) rfl
 rw [if_neg (fun h=>h hes)]
 rw [hes] at hcc
 obtain ⟨a1,a2,a3,a4⟩:=bA hes
 (have zz:=aI @g1 (aI @g2 (aI @z0 (aI @aB @av))); repeat' (first|refine zW ?_|apply a_n|refine zO ?_|refine vY ?_|refine cY ?_ (hp:=hcc) (hs:=by (first | refine aa ?_ rfl | apply ac); (repeat' (first | exact ab | apply ag | apply ae | exact br _)); first | done | fail)|refine cFY ?_|fail)) <;> (try clear zz)
 refine ay ev0 ev0 (qJ m c q2 (by omega) (fun s hs=>by obtain ⟨p1,p2,p3,p4⟩:=bH (a2 s hs); exact ⟨by omega,fun e=>by rw [e] at p1; simp at p1⟩) B H1 nx1 hB3 hB2) ?_
 rintro _ H3 nx3 ⟨hle3,hsm3,h⟩
 have g3:H3 2=some [.esl]:=(hsm3 2 (by omega)).trans g2
 rcases h with ⟨ht,rfl⟩ | ⟨ht,sv,rfl,hrow,hbd⟩
 ·rw [if_pos ht]
  (have zz:=@g3; repeat' (first|refine zW ?_|apply a_n|apply a_r|refine zO ?_|refine vY ?_|refine stY ?_|refine cTY ?_|refine af rfl ?_|refine r2Y ?_|fail)) <;> (try clear zz)
  exact j0 (.eslsl _) rfl
 rw [if_neg (by rw [ht]; decide)]
 have htl:∀ s ∈ c,bU m s=true:=List.all_eq_true.1 ht
 have hof:=Ag (c.map (bR m)) (by rw [List.length_map]; exact a1) (fun t ht=>by
  obtain ⟨s,s1,rfl⟩:=List.mem_map.1 ht
  exact gU he (a2 s s1) (htl s s1))
 obtain ⟨Hf,H4,hfz,hsn,hoth⟩:=vF hrow
 have g4:H4 2=some [.esl]:=(hoth 2 (fun e=>by have:=hbd 2 e; omega)).trans g3
 (have zz:=and_self; repeat' (first|apply a_n|refine zO ?_|refine vY ?_|fail)) <;> (try clear zz)
 refine cQ (cQ ?_)
 refine lr Hf H4 [(4,.ptr 2 1 0),(9,aC (c.map (bR m))),(10,.bool true)] hfz ⟨.inl rfl,.inr hsn,.inl rfl,trivial⟩ ?_
 (have zz:=aI @g4 (aI @aB @av); repeat' (first|refine zW ?_|apply a_n|refine zO ?_|refine vY ?_|refine cY ?_ (hp:=hof) (hs:=by (first | refine aa ?_ rfl | apply ac); (repeat' (first | exact ab | apply ag | apply ae | exact bh _)); first | done | fail)|refine stY ?_|refine cFY ?_|refine af rfl ?_|refine r2Y ?_|fail)) <;> (try clear zz)
 exact j0 (bh _).snap rfl
end Go.Proofs.YtpfkjcjgdilkkaaGreat
namespace Go.Proofs.YtpfkjcjgdilkkaaGreat
open Go Go.Abs
theorem zE {H:Hp} {s r:AV} {l n:Spx} {e f:Int} (h:Snap H s (aq l)) (h2:Snap H r (aq n)) (he:e=f):Snap H (.tup [.agg [s,r],.int .i64 e]) (.tup [pe ⟨l,n⟩,.int .i64 f]):=by
 subst he; exact gK (ap (ni (ap h (ap h2 ab))) (ap (.int _ _) ab))
attribute [local irreducible] aD ah aX aP aH aK az aL aR be Go.Abs.Fn aO Go.Abs.Pure ar aE Yl
end Go.Proofs.YtpfkjcjgdilkkaaGreat
namespace Go.Proofs.YtpfkjcjgdilkkaaGreat
open Go Go.Abs
attribute [local irreducible] aD ah aX aP aH aK az aL aR be Go.Abs.Fn aO Go.Abs.Pure ar aE Yl
theorem AM (a b:Int):Pure Tryz.prog 81 [cT [a,b]] (.int .i64 (if a ≠ 0 then a else b)):=by
 refine Pure.of_c2 follows A7 (Nat.le_of_ble_eq_true rfl) ?_
 simp only [b81,cO,cG,cN,cM,cD,cF,cB,ax,aN]
 (have zz:=and_self; repeat' (first|refine zW ?_|apply a_n|refine zO ?_|refine vZ ?_|fail)) <;> (try clear zz)
 refine n3 (fun k=>[(3,.int .i64 0),(6,cT [a,b]),(7,.int .i64 2),(8,.int .i64 k)]) 2 (fun k=>[a,b].getD k default=0) (by (iterate 4 refine And.intro rfl ?_); trivial) ?_
 intro k hk hz
 rcases (by omega:k=0 ∨ k=1 ∨ k=2) with rfl | rfl | rfl
 ·have e:[a,b].getD 0 default=a:=rfl
  have ix:dR 1 (cT [a,b]) (.int .i64 ((0:Nat):Int))=some (.iptr [.int .i64 a] 0):=rfl
  by_cases h0:a=0
  ·have z:decide (a ≠ 0)=false:=decide_eq_false (fun h=>h h0)
   (have zz:=aI @ix @z; repeat' (first|refine zW ?_|apply a_n|refine zO ?_|refine vZ ?_|refine cFZ ?_|(refine zGZ ?_ ?_ <;> (intro _hg; try (exfalso; omega)))|fail)) <;> (try clear zz)
   exact ⟨by omega,h0,by (iterate 4 refine And.intro rfl ?_); trivial,rfl,rfl⟩
  ·have z:decide (a ≠ 0)=true:=decide_eq_true h0
   (have zz:=aI @ix @z; repeat' (first|refine zW ?_|apply a_n|apply a_r|refine zO ?_|refine vZ ?_|refine cTZ ?_|(refine zGZ ?_ ?_ <;> (intro _hg; try (exfalso; omega)))|refine af rfl ?_|refine r1Z ?_|fail)) <;> (try clear zz)
   rw [if_pos h0]; exact .int _ _
 ·have h0:a=0:=hz 0 (by omega)
  have ix:dR 1 (cT [a,b]) (.int .i64 ((1:Nat):Int))=some (.iptr [.int .i64 b] 0):=rfl
  rw [if_neg (fun h=>h h0)]
  by_cases h1:b=0
  ·have z:decide (b ≠ 0)=false:=decide_eq_false (fun h=>h h1)
   (have zz:=aI @ix @z; repeat' (first|refine zW ?_|apply a_n|refine zO ?_|refine vZ ?_|refine cFZ ?_|(refine zGZ ?_ ?_ <;> (intro _hg; try (exfalso; omega)))|fail)) <;> (try clear zz)
   exact ⟨by omega,h1,by (iterate 4 refine And.intro rfl ?_); trivial,rfl,rfl⟩
  ·have z:decide (b ≠ 0)=true:=decide_eq_true h1
   (have zz:=aI @ix @z; repeat' (first|refine zW ?_|apply a_n|apply a_r|refine zO ?_|refine vZ ?_|refine cTZ ?_|(refine zGZ ?_ ?_ <;> (intro _hg; try (exfalso; omega)))|refine af rfl ?_|refine r1Z ?_|fail)) <;> (try clear zz)
   exact .int _ _
 ·have h0:a=0:=hz 0 (by omega)
  have h1:b=0:=hz 1 (by omega)
  rw [if_neg (fun h=>h h0),h1]
  (have zz:=and_self; repeat' (first|refine zW ?_|apply a_n|apply a_x|refine zO ?_|refine vZ ?_|(refine zGZ ?_ ?_ <;> (intro _hg; try (exfalso; omega)))|refine af rfl ?_|refine r1Z ?_|fail)) <;> (try clear zz)
  exact .int _ _
theorem wI (a b:Spx) (ha:Shn a) (hb:Shn b):Pure Tryz.prog 41 [aq a,aq b] (.int .i64 (if bo a ≠ 0 then bo a else bo b)):=by
 refine Pure.of_c2 follows Bt (Nat.le_of_ble_eq_true rfl) ?_
 simp only [b41,cO,cG,cN,cM,cD,cF,cB,ax,aN]
 have h1:=eW a ha
 have h2:=eW b hb
 have h3:=AM (bo a) (bo b)
 generalize bo a=x at *
 generalize bo b=y at *
 (have zz:=and_self; repeat' (first|refine zW ?_|apply a_n|refine zO ?_|refine vY ?_|refine cY ?_ (hp:=by first | exact h1 | exact h2) (hs:=by (first | refine aa ?_ rfl | apply ac); (repeat' (first | exact ab | apply ag | apply ae | exact aw _)); first | done | fail)|refine blY ?_|fail)) <;> (try clear zz)
 refine bN ev0 ev0 h3 (aa (ap (nk (b:=0) (n:=2) (len:=2) (l:=[x,y]) (by rw [ai]; rfl) rfl rfl) ab) rfl) ?_
 (have zz:=and_self; repeat' (first|apply a_n|refine zO ?_|refine vY ?_|refine af rfl ?_|refine r1Y ?_|fail)) <;> (try clear zz)
 exact .int _ _
theorem yk (l:Spx) (p:Vtx→Bool) (g:Nat) (caps caps':List AV) (hl:l.length ≤ 1000000) (H:Hp) (nx:Nat) (hcap:∀ H':Hp,(∀ x,x < nx→H' x=H x)→aE H' caps caps') (hg:∀ x ∈ l,Pure Tryz.prog g (bf x :: caps') (.bool (p x))) :
    Abs.Fn Tryz.prog 42 [aq l,.func g caps] H nx fun r H' nx'=>Row H' 2 r (cX (l.filter p))∧(∀ x,x < nx→H' x=H x)∧nx ≤ nx':=by
 refine Abs.Fn.of_c2 follows Bx (Nat.le_of_ble_eq_true rfl) ?_
 simp only [b42,cO,cG,cN,cM,cD,cF,cB,ax,aN]
 (have zz:=@ak; repeat' (first|refine zW ?_|apply a_n|refine zO ?_|refine vY ?_|fail)) <;> (try clear zz)
 refine aS (X:=Nat × AV) (fun x=>[(1,.func g caps),(5,x.2),(8,aq l),(9,.int .i64 l.length),(10,.int .i64 x.1)]) (fun x H' nx'=>x.1 ≤ l.length∧nx ≤ nx'∧(∀ y,y < nx→H' y=H y)∧Row H' 2 x.2 (cX ((l.take x.1).filter p))∧∀ b,dB x.2=some b→nx ≤ b∧b < nx') (fun x=>l.length - x.1) (0,.esl) ⟨Nat.zero_le _,Nat.le_refl _,fun _ _=>rfl,Row.nil,fun b h=>(by cases h)⟩ (by (iterate 5 refine And.intro rfl ?_); trivial) ?_
 rintro ⟨k,sv⟩ H1 nx1 ⟨h1,h2,h3,hrow,hbd⟩
 dsimp only at h1 hrow hbd ⊢
 obtain ⟨o1,o2⟩:=hrow.one
 by_cases hk:k < l.length
 rotate_left
 ·rw [List.take_of_length_le (by omega)] at hrow
  (have zz:=aI @o1 @o2; repeat' (first|refine zW ?_|apply a_n|apply a_x|refine zO ?_|refine vY ?_|(refine zGY ?_ ?_ <;> (intro _hg; try (exfalso; omega)))|refine af rfl ?_|refine r1Y ?_|fail)) <;> (try clear zz)
  exact ⟨hrow,h3,h2⟩
 have ix:=ix2 hk
 have hp:=hg _ (aY hk)
 have hft:(l.take (k + 1)).filter p=(l.take k).filter p ++ if p (l.getD k default)=true then [l.getD k default] else []:=by
  rw [ce hk,List.filter_append]
  cases h:p (l.getD k default)
  ·rw [List.filter_cons_of_neg (by rw [h]; decide),List.filter_nil,if_neg (by decide)]
  ·rw [List.filter_cons_of_pos h,List.filter_nil,if_pos rfl]
 have hcl:=dZ ((l.take k).filter p)
 have hfl:((l.take k).filter p).length ≤ l.length:=Nat.le_trans (List.length_filter_le _ _) (by rw [List.length_take]; omega)
 generalize l.getD k default=v at *
 (have zz:=@ix; repeat' (first|refine zW ?_|apply a_n|refine zO ?_|refine vY ?_|refine alY ?_|refine stY ?_|(refine zGY ?_ ?_ <;> (intro _hg; try (exfalso; omega)))|fail)) <;> (try clear zz)
 refine bN ev0 ev0 hp (aa (ap (bj _ _) (hcap _ fun x hx=>by (repeat rw [al (by omega)]); exact h3 x hx)) rfl) ?_
 cases hpv:p v
 ·rw [hpv,if_neg (by decide),List.append_nil] at hft
  (have zz:=aI @o1 @o2; repeat' (first|apply a_n|refine zO ?_|refine vY ?_|refine cFY ?_|fail)) <;> (try clear zz)
  refine ⟨(k + 1,sv),by dsimp only; omega,⟨by dsimp only; omega,by omega,fun y hy=>by (repeat rw [al (by omega)]); exact h3 y hy,by dsimp only; rw [hft]; exact hrow.same fun b hb=>by have:=hbd b hb; (repeat rw [al (by omega)]),fun b hb=>by have:=hbd b hb; omega⟩,ag0⟩
 ·rw [hpv,if_pos rfl] at hft
  (have zz:=aI @o1 @o2; repeat' (first|apply a_n|refine zO ?_|refine vY ?_|refine blY ?_|refine cTY ?_|fail)) <;> (try clear zz)
  refine iT rfl ev0 (hrow.same fun b hb=>?_) ev0 hU rfl rfl (by omega) (by omega) (by omega) ?_
  ·have:=hbd b hb; (repeat rw [al (by omega)])
  rintro s2 H2 nx2 hr2 i1 i2 i3 i4
  obtain ⟨o3,o4⟩:=hr2.one
  (have zz:=aI @o3 @o4; repeat' (first|apply a_n|refine zO ?_|refine vY ?_|fail)) <;> (try clear zz)
  refine ⟨(k + 1,s2),by dsimp only; omega,⟨by dsimp only; omega,by omega,fun y hy=>?_,?_,fun b hb=>?_⟩,ag0⟩
  ·rw [i3 y (by omega) (fun h=>by have:=hbd _ h; omega)]; (repeat rw [al (by omega)]); exact h3 y hy
  ·dsimp only
   rw [hft,gR]; exact hr2
  ·rcases i4 b hb with h | h
   ·have:=hbd b h; omega
   ·omega
theorem AZ (s:Spx) (v:Vtx) (hs:Shn s):Pure Tryz.prog 82 [bf v,.iptr [aq s] 0] (.bool (decide (v ∈ s))):=by
 refine Pure.of_c2 follows Br (Nat.le_of_ble_eq_true rfl) ?_
 simp only [b82,cO,cG,cN,cM,cD,cF,cB,ax,aN]
 (have zz:=and_self; repeat' (first|refine zW ?_|apply a_n|refine zO ?_|refine vY ?_|refine cY ?_ (hp:=by exact kM s v hs) (hs:=by (first | refine aa ?_ rfl | apply ac); (repeat' (first | exact ab | apply ag | apply ae | exact aw _ | exact bj _)); first | done | fail)|refine bxY ?_|refine af rfl ?_|refine r1Y ?_|fail)) <;> (try clear zz)
 exact .bool _
theorem z5 (s:Spx) (H:Hp) (nx:Nat):Abs.Fn Tryz.prog 43 [aq s] H nx fun r H' nx'=>r=.func 82 [.ptr nx 1 0]∧H'=aj H nx [aq s]∧nx'=nx + 1:=by
 refine Abs.Fn.of_c2 follows Ba (Nat.le_of_ble_eq_true rfl) ?_
 simp only [b43,cO,cG,cN,cM,cD,cF,cB,ax,aN]
 (have zz:=aI @a9 @aQ; repeat' (first|refine zW ?_|apply a_n|refine zO ?_|refine vY ?_|refine bxY ?_|refine af rfl ?_|refine r1Y ?_|fail)) <;> (try clear zz)
 exact ⟨rfl,rfl,rfl⟩
theorem qZ {a b:Spx}:decide (((a.filter fun v=>decide (v ∈ b)).length:Int)=a.length)=bw a b:=by
 unfold bw
 induction a with
 | nil=>rfl
 | cons v l ih =>
  rw [List.all_cons]
  by_cases h:v ∈ b
  ·rw [List.filter_cons_of_pos (by simpa using h),decide_eq_true h,Bool.true_and,← ih]
   refine decide_eq_decide.2 ?_
   simp
  ·rw [List.filter_cons_of_neg (by simpa using h),decide_eq_false h,Bool.false_and]
   refine decide_eq_false ?_
   have:=List.length_filter_le (fun v=>decide (v ∈ b)) l
   simp; omega
theorem wL (a b:Spx) (ha:bo a=0) (hb:bo b=0):Pure Tryz.prog 12 [aq a,aq b] (.tup [.bool (bw a b),.int .i64 0]):=by
 refine Pure.of_c2 follows Bv (Nat.le_of_ble_eq_true rfl) ?_
 simp only [b12,cO,cG,cN,cM,cD,cF,cB,ax,aN]
 obtain ⟨a1,a2,a3,a4⟩:=bH ha
 obtain ⟨b1,b2,b3,b4⟩:=bH hb
 have hbo:=wI a b (show _ ≤ _ by omega) (show _ ≤ _ by omega)
 rw [ha,hb,if_neg (fun h=>h rfl)] at hbo
 have z0:decide ((0:Int) ≠ 0)=false:=rfl
 (have zz:=@z0; repeat' (first|refine zW ?_|apply a_n|refine zO ?_|refine vY ?_|refine cY ?_ (hp:=hbo) (hs:=by (first | refine aa ?_ rfl | apply ac); (repeat' (first | exact ab | apply ag | apply ae | exact aw _)); first | done | fail)|refine cFY ?_|fail)) <;> (try clear zz)
 refine ay ev0 ev0 (z5 b _ _) ?_
 rintro _ _ _ ⟨rfl,rfl,rfl⟩
 refine ay ev0 ev0 (yk a (fun v=>decide (v ∈ b)) 82 [.ptr 0 1 0] [.iptr [aq b] 0] (by omega) _ _ (fun H' h=>ap (ec ((h 0 (by omega)).trans ai) rfl (ap (aw _ _) ab)) ab) (fun v _=>AZ b v (show _ ≤ _ by omega))) ?_
 rintro r H1 nx1 ⟨r1,r2,r3⟩
 have hls:=r1.lenS (dZ _) (by omega)
 (have zz:=aI @hls (aI @ak @qZ); repeat' (first|apply a_n|refine zO ?_|refine vY ?_|refine af rfl ?_|refine r2Y ?_|fail)) <;> (try clear zz)
 exact jM rfl rfl
end Go.Proofs.YtpfkjcjgdilkkaaGreat
namespace Go.Proofs.YtpfkjcjgdilkkaaGreat
open Go Go.Abs
attribute [local irreducible] aD ah aX aP aH aK az aL aR be Go.Abs.Fn aO Go.Abs.Pure ar aE Yl
theorem tv (l:List Spx) (p:Spx→Bool) (g:Nat) (caps caps':List AV) (hl:l.length ≤ 1000000) (H:Hp) (nx:Nat) (hcap:∀ H':Hp,(∀ x,x < nx→H' x=H x)→aE H' caps caps') (hg:∀ x ∈ l,Pure Tryz.prog g (aq x :: caps') (.bool (p x))) :
    Abs.Fn Tryz.prog 72 [aC l,.func g caps] H nx fun r H' nx'=>Row H' 1 r ((l.filter p).map aq)∧(∀ x,x < nx→H' x=H x)∧nx ≤ nx':=by
 refine Abs.Fn.of_c2 follows Aw (Nat.le_of_ble_eq_true rfl) ?_
 simp only [b72,cO,cG,cN,cM,cD,cF,cB,ax,aN]
 (have zz:=@ao; repeat' (first|refine zW ?_|apply a_n|refine zO ?_|refine vY ?_|fail)) <;> (try clear zz)
 refine aS (X:=Nat × AV) (fun x=>[(1,.func g caps),(5,x.2),(8,aC l),(9,.int .i64 l.length),(10,.int .i64 x.1)]) (fun x H' nx'=>x.1 ≤ l.length∧nx ≤ nx'∧(∀ y,y < nx→H' y=H y)∧Row H' 1 x.2 (((l.take x.1).filter p).map aq)∧∀ b,dB x.2=some b→nx ≤ b∧b < nx') (fun x=>l.length - x.1) (0,.esl) ⟨Nat.zero_le _,Nat.le_refl _,fun _ _=>rfl,Row.nil,fun b h=>(by cases h)⟩ (by (iterate 5 refine And.intro rfl ?_); trivial) ?_
 rintro ⟨k,sv⟩ H1 nx1 ⟨h1,h2,h3,hrow,hbd⟩
 dsimp only at h1 hrow hbd ⊢
 obtain ⟨o1,o2⟩:=hrow.one
 by_cases hk:k < l.length
 rotate_left
 ·rw [List.take_of_length_le (by omega)] at hrow
  (have zz:=aI @o1 @o2; repeat' (first|refine zW ?_|apply a_n|apply a_x|refine zO ?_|refine vY ?_|(refine zGY ?_ ?_ <;> (intro _hg; try (exfalso; omega)))|refine af rfl ?_|refine r1Y ?_|fail)) <;> (try clear zz)
  exact ⟨hrow,h3,h2⟩
 have ix:=eT hk
 have hp:=hg _ (aY hk)
 have hft:(l.take (k + 1)).filter p=(l.take k).filter p ++ if p (l.getD k default)=true then [l.getD k default] else []:=by
  rw [ce hk,List.filter_append]
  cases h:p (l.getD k default)
  ·rw [List.filter_cons_of_neg (by rw [h]; decide),List.filter_nil,if_neg (by decide)]
  ·rw [List.filter_cons_of_pos h,List.filter_nil,if_pos rfl]
 have hfl:((l.take k).filter p).length ≤ l.length:=Nat.le_trans (List.length_filter_le _ _) (by rw [List.length_take]; omega)
 generalize l.getD k default=v at *
 (have zz:=@ix; repeat' (first|refine zW ?_|apply a_n|refine zO ?_|refine vY ?_|(refine zGY ?_ ?_ <;> (intro _hg; try (exfalso; omega)))|fail)) <;> (try clear zz)
 refine bN ev0 ev0 hp (aa (ap (aw _ _) (hcap _ h3)) rfl) ?_
 cases hpv:p v
 ·rw [hpv,if_neg (by decide),List.append_nil] at hft
  (have zz:=aI @o1 @o2; repeat' (first|apply a_n|refine zO ?_|refine vY ?_|refine cFY ?_|fail)) <;> (try clear zz)
  refine ⟨(k + 1,sv),by dsimp only; omega,⟨by dsimp only; omega,h2,h3,by dsimp only; rw [hft]; exact hrow,hbd⟩,ag0⟩
 ·rw [hpv,if_pos rfl] at hft
  (have zz:=aI @o1 (aI @o2 (aI @a9 @aQ)); repeat' (first|apply a_n|refine zO ?_|refine vY ?_|refine blY ?_|refine cTY ?_|fail)) <;> (try clear zz)
  refine iT rfl ev0 (hrow.same fun b hb=>?_) ev0 kc rfl rfl Nat.one_pos (by rw [List.length_map]; omega) (by rw [List.length_map]; omega) ?_
  ·have:=hbd b hb; rw [al (by omega)]
  rintro s2 H2 nx2 hr2 i1 i2 i3 i4
  obtain ⟨o3,o4⟩:=hr2.one
  (have zz:=aI @o3 @o4; repeat' (first|apply a_n|refine zO ?_|refine vY ?_|fail)) <;> (try clear zz)
  refine ⟨(k + 1,s2),by dsimp only; omega,⟨by dsimp only; omega,by omega,fun y hy=>?_,?_,fun b hb=>?_⟩,ag0⟩
  ·rw [i3 y (by omega) (fun h=>by have:=hbd _ h; omega),al (by omega)]; exact h3 y hy
  ·dsimp only
   rw [hft,List.map_append]; exact hr2
  ·rcases i4 b hb with h | h
   ·have:=hbd b h; omega
   ·omega
theorem tH (s t:Spx) (hs:cf bl s∧s.length ≤ 1000000) (ht:cf bl t∧t.length ≤ 1000000):Pure Tryz.prog 73 [aq t,.iptr [aq s] 0] (.bool (bw s t)):=by
 refine Pure.of_c2 follows Am (Nat.le_of_ble_eq_true rfl) ?_
 simp only [b73,cO,cG,cN,cM,cD,cF,cB,ax,aN]
 (have zz:=and_self; repeat' (first|refine zW ?_|apply a_n|refine zO ?_|refine vY ?_|refine cY ?_ (hp:=by exact vV s t hs.1 ht.1 hs.2 ht.2) (hs:=by (first | refine aa ?_ rfl | apply ac); (repeat' (first | exact ab | apply ag | apply ae | exact aw _)); first | done | fail)|refine af rfl ?_|refine r1Y ?_|fail)) <;> (try clear zz)
 exact .bool _
theorem vK (c:List Spx) (s:Spx) (hc:c.length ≤ 1000000) (hcs:∀ t ∈ c,cf bl t∧t.length ≤ 1000000) (hs:cf bl s∧s.length ≤ 1000000) (H:Hp) (nx:Nat) :
    Abs.Fn Tryz.prog 32 [c9 c,aq s] H nx fun r H' nx'=>Row H' 1 r ((c.filter fun t=>bw s t).map aq)∧(∀ x,x < nx→H' x=H x)∧nx ≤ nx':=by
 refine Abs.Fn.of_c2 follows zR (Nat.le_of_ble_eq_true rfl) ?_
 simp only [b32,cO,cG,cN,cM,cD,cF,cB,ax,aN]
 (have zz:=aI @a9 (aI @aQ (aI @aB @av)); repeat' (first|refine zW ?_|apply a_n|refine zO ?_|refine vY ?_|refine bxY ?_|fail)) <;> (try clear zz)
 refine ay ev0 ev0 (tv c (fun t=>bw s t) 73 [.ptr (nx + 1) 1 0] [.iptr [aq s] 0] hc _ _ (fun H' h=>ap (ec ((h (nx + 1) (by omega)).trans ai) rfl (ap (aw _ _) ab)) ab) (fun t ht=>tH s t hs (hcs t ht))) ?_
 rintro r H1 nx1 ⟨r1,r2,r3⟩
 obtain ⟨o1,o2⟩:=r1.one
 (have zz:=aI @o1 @o2; repeat' (first|apply a_n|refine zO ?_|refine vY ?_|refine af rfl ?_|refine r1Y ?_|fail)) <;> (try clear zz)
 exact ⟨r1,fun x hx=>(r2 x (by omega)).trans (by rw [al (by omega),al (by omega)]),by omega⟩
theorem lF {L:List Spx} (hL:∀ s ∈ L,s.length ≤ 8):∀ (n:Nat) (s:Spx),s ∈ L→8 ≤ s.length + n→∃ t ∈ eJ L,∀ v ∈ s,v ∈ t
 | n,s,hs,hn=>by
  cases h:bd L s
  ·exact ⟨s,js.2 ⟨hs,h⟩,fun v hv=>hv⟩
  ·obtain ⟨t,t1,t2,t3⟩:=bF.1 h
   match n with
   | 0=>have:=hL t t1; omega
   | n + 1 =>
    obtain ⟨u,u1,u2⟩:=lF hL n t t1 (by omega)
    exact ⟨u,u1,fun v hv=>u2 v (t3 v hv)⟩
theorem lf {m:MapV} {a b:Spx} (h:∀ v ∈ a,v ∈ b):∀ w ∈ bR m a,w ∈ bR m b:=fun w hw=>by
 obtain ⟨v,v1,v2⟩:=mY.1 hw
 exact mY.2 ⟨v,h v v1,v2⟩
theorem nM {m:MapV} {c:List Spx} (hc:aJ c=0) {x y:Spx} (hx:x ∈ c) (hy:∀ v ∈ y,v ∈ x):((eJ (c.map (bR m))).any fun t=>bw (bR m y) t)=true:=by
 obtain ⟨p1,p2,p3,p4⟩:=bA hc
 have h8:∀ s ∈ c.map (bR m),s.length ≤ 8:=fun s hs=>by
  obtain ⟨t,t1,rfl⟩:=List.mem_map.1 hs
  exact Nat.le_trans si (bH (p2 t t1)).2.1
 obtain ⟨t,t1,t2⟩:=lF h8 8 (bR m x) (List.mem_map.2 ⟨x,hx,rfl⟩) (by omega)
 exact List.any_eq_true.2 ⟨t,t1,bO.2 fun w hw=>t2 w (lf hy w hw)⟩
end Go.Proofs.YtpfkjcjgdilkkaaGreat
namespace Go.Proofs.YtpfkjcjgdilkkaaGreat
open Go Go.Abs
def dS (c:List Spx) (s:Spx):List Spx:=c.filter fun f=>bw s f
theorem fA {c:List Spx} {s f:Spx}:f ∈ dS c s ↔ f ∈ c∧∀ v ∈ s,v ∈ f:=by
 unfold dS; rw [List.mem_filter,bO]
theorem tI {L c:List Spx} {s:Spx} (h:∀ t ∈ L,t ∈ c) (hc:bd c s=false):bd L s=false:=by
 rw [← Bool.not_eq_true] at hc ⊢
 refine fun h2=>hc ?_
 obtain ⟨t,t1,t2⟩:=bF.1 h2
 exact bF.2 ⟨t,h t t1,t2⟩
theorem qO {L c:List Spx} (hc:aJ c=0) (h:L.Sublist c):aJ L=0:=by
 obtain ⟨c1,c2,c3,c4⟩:=bA hc
 exact ky (Nat.le_trans h.length_le c1) (fun s hs=>c2 s (h.subset hs)) (c3.sublist h) fun s hs=>tI (fun t ht=>h.subset ht) (c4 s (h.subset hs))
theorem dt {c:List Spx} {s:Spx} (hc:aJ c=0):aJ (dS c s)=0:=qO hc List.filter_sublist
theorem uK {c:List Spx} {s:Spx} (hc:aJ c=0):eJ (dS c s)=dS c s:=uc (dt hc)
end Go.Proofs.YtpfkjcjgdilkkaaGreat
namespace Go.Proofs.YtpfkjcjgdilkkaaGreat
open Go Go.Abs
attribute [local irreducible] aD ah aX aP aH aK az aL aR be Go.Abs.Fn aO Go.Abs.Pure ar aE Yl
end Go.Proofs.YtpfkjcjgdilkkaaGreat
namespace Go.Proofs.YtpfkjcjgdilkkaaGreat
open Go Go.Abs
attribute [local irreducible] aD ah aX aP aH aK az aL aR be Go.Abs.Fn aO Go.Abs.Pure ar aE Yl
end Go.Proofs.YtpfkjcjgdilkkaaGreat
namespace Go.Proofs.YtpfkjcjgdilkkaaGreat
open Go Go.Abs
open Nat (reduceEqDiff reduceAdd reduceLeDiff)
def BD (x:List Int):AV:=.agg (x.map (AV.int .i64))
attribute [local irreducible] aD ah aX aP aH aK az aL aR be Go.Abs.Fn aO Go.Abs.Pure ar aE Yl
end Go.Proofs.YtpfkjcjgdilkkaaGreat
namespace Go.Proofs.YtpfkjcjgdilkkaaGreat
open Go Go.Abs
def K16:Type:={x:List Int // x.length=16}
instance:DecidableEq K16:=inferInstanceAs (DecidableEq {x:List Int // x.length=16})
def eK (x:K16):AV:=BD x.1
end Go.Proofs.YtpfkjcjgdilkkaaGreat
namespace Go.Proofs.YtpfkjcjgdilkkaaGreat
open Go Go.Abs
section
variable {α:Type} {K:α→α→Int}
end
end Go.Proofs.YtpfkjcjgdilkkaaGreat
namespace Go.Proofs.YtpfkjcjgdilkkaaGreat
open Go Go.Abs
section
variable {α:Type} [DecidableEq α] {K:α→α→Int}
end
section
variable {g:Vtx→Vtx}
end
end Go.Proofs.YtpfkjcjgdilkkaaGreat
namespace Go.Proofs.YtpfkjcjgdilkkaaGreat
open Go Go.Abs
open Nat (reduceEqDiff reduceAdd reduceLeDiff)
attribute [local irreducible] aD ah aX aP aH aK az aL aR be Go.Abs.Fn aO Go.Abs.Pure ar aE Yl
end Go.Proofs.YtpfkjcjgdilkkaaGreat
namespace Go.Proofs.YtpfkjcjgdilkkaaGreat
open Go Go.Abs
attribute [local irreducible] aD ah aX aP aH aK az aL aR be Go.Abs.Fn aO Go.Abs.Pure ar aE Yl
end Go.Proofs.YtpfkjcjgdilkkaaGreat
namespace Go.Proofs.YtpfkjcjgdilkkaaGreat
open Go Go.Abs
def uI (l:List Nat):List Int:=l.map fun (n:Nat)=>(n:Int)
structure MatOk (H:Hp) (b lo hi n:Nat) (F:Nat→List Nat) (vs:List AV):Prop where
 box:H b=some vs
 len:vs.length=n
 row:∀ j,j < n→Row H 1 (vs.getD j .undef) ((F j).map tF)
 bnd:∀ j B,j < n→dB (vs.getD j .undef)=some B→lo ≤ B∧B < hi∧B ≠ b
 apart:∀ i j B,i < n→j < n→i ≠ j→dB (vs.getD i .undef)=some B→dB (vs.getD j .undef) ≠ some B
theorem MatOk.same {H H':Hp} {b lo hi hi' n:Nat} {F G:Nat→List Nat} {vs:List AV} (h:MatOk H b lo hi n F vs) (hb:H' b=H b) (hs:∀ x,lo ≤ x→x < hi→x ≠ b→H' x=H x) (hh:hi ≤ hi') (hG:∀ j,j < n→G j=F j):MatOk H' b lo hi' n G vs :=
 ⟨hb.trans h.box,h.len,fun j hj=>by rw [hG j hj]; exact (h.row j hj).same fun B hB=>by have:=h.bnd j B hj hB; exact hs B this.1 this.2.1 this.2.2,fun j B hj hB=>by have:=h.bnd j B hj hB; exact ⟨this.1,by omega,this.2.2⟩,h.apart⟩
theorem MatOk.put {H H':Hp} {b lo hi hi' n i x:Nat} {F G:Nat→List Nat} {vs:List AV} {sv:AV} (h:MatOk H b lo hi n F vs) (hin:i < n) (hG:∀ j,j < n→G j=if j=i then F j ++ [x] else F j) (hrow:Row H' 1 sv ((F i ++ [x]).map tF)) (hB:∀ B,dB sv=some B→dB (vs.getD i .undef)=some B ∨ hi ≤ B∧B < hi'∧B ≠ b) (hb:H' b=some (vs.set i sv))
    (hs:∀ x,lo ≤ x→x < hi→x ≠ b→dB (vs.getD i .undef) ≠ some x→H' x=H x) (hh:hi ≤ hi') (hlo:lo ≤ hi):MatOk H' b lo hi' n G (vs.set i sv):=by
 have hl:=h.len
 have hg:∀ j,(vs.set i sv).getD j .undef=if i=j then sv else vs.getD j .undef:=fun j=>n4 (by omega)
 refine ⟨hb,by simp [hl],fun j hj=>?_,fun j B hj=>?_,fun p q B hp hq hpq=>?_⟩
 ·rw [hg,hG j hj]
  by_cases e:i=j
  ·rw [if_pos e,if_pos e.symm,← e]; exact hrow
  ·rw [if_neg e,if_neg (fun h=>e h.symm)]
   exact (h.row j hj).same fun B hB'=>by
    have:=h.bnd j B hj hB'
    exact hs B this.1 this.2.1 this.2.2 fun h'=>h.apart i j B hin hj e h' hB'
 ·rw [hg]
  by_cases e:i=j
  ·rw [if_pos e]
   intro hB'
   rcases hB B hB' with h' | h'
   ·have:=h.bnd _ B hin h'; exact ⟨this.1,by omega,this.2.2⟩
   ·exact ⟨by omega,h'.2⟩
  ·rw [if_neg e]
   intro hB'
   have:=h.bnd j B hj hB'
   exact ⟨this.1,by omega,this.2.2⟩
 ·rw [hg,hg]
  by_cases e1:i=p
  ·rw [if_pos e1,if_neg (by omega)]
   intro h1 h2
   rcases hB B h1 with h' | h'
   ·exact h.apart i q B hin hq (by omega) h' h2
   ·have:=h.bnd q B hq h2; omega
  ·rw [if_neg e1]
   by_cases e2:i=q
   ·rw [if_pos e2]
    intro h1 h2
    rcases hB B h2 with h' | h'
    ·exact h.apart p i B hp hin (by omega) h1 h'
    ·have:=h.bnd p B hp h1; omega
   ·rw [if_neg e2]; exact h.apart p q B hp hq hpq
theorem MatOk.snap {H:Hp} {b lo hi n:Nat} {F:Nat→List Nat} {vs:List AV} (h:MatOk H b lo hi n F vs):Snap H (.msl b n 1 0 n) (fe ((List.range n).map fun i=>uI (F i))):=by
 refine mh (l:=((List.range n).map fun i=>uI (F i)).map cT) h.box h.len (by omega) (by simp) (fun y hy=>?_) (fun i a c ha hc=>?_)
 ·obtain ⟨z,_,rfl⟩:=List.mem_map.1 hy; rfl
 ·have hin:i < n:=by
    have:=(List.getElem?_eq_some_iff.1 hc).1
    simpa using this
  have hr:=h.row i hin
  rw [Nat.zero_add] at ha
  have e1:vs.getD i .undef=a:=by rw [List.getD_eq_getElem?_getD,ha]; rfl
  rw [e1] at hr
  have e2:c=cT (uI (F i)):=by
   rw [List.getElem?_map,List.getElem?_map,List.getElem?_range hin] at hc
   simpa using hc.symm
  rw [e2]
  exact qg hr
theorem MatOk.new {H:Hp} {b lo hi n:Nat} {F:Nat→List Nat} (hb:H b=some (List.replicate n .esl)) (hF:∀ j,j < n→F j=[]):MatOk H b lo hi n F (List.replicate n .esl):=by
 have hg:∀ j,j < n→(List.replicate n AV.esl).getD j .undef=.esl:=fun j hj=>by simp [List.getD,List.getElem?_replicate,hj]
 refine ⟨hb,by simp,fun j hj=>?_,fun j B hj h=>?_,fun i j B hi hj _ h=>?_⟩
 ·rw [hg j hj,hF j hj]; exact Row.nil
 ·rw [hg j hj] at h; cases h
 ·rw [hg i hi] at h; cases h
end Go.Proofs.YtpfkjcjgdilkkaaGreat
namespace Go.Proofs.YtpfkjcjgdilkkaaGreat
open Go Go.Abs
attribute [local irreducible] aD ah aX aP aH aK az aL aR be Go.Abs.Fn aO Go.Abs.Pure ar aE Yl
end Go.Proofs.YtpfkjcjgdilkkaaGreat
namespace Go.Proofs.YtpfkjcjgdilkkaaGreat
open Go Go.Abs
end Go.Proofs.YtpfkjcjgdilkkaaGreat
namespace Go.Proofs.YtpfkjcjgdilkkaaGreat
open Go Go.Abs
attribute [local irreducible] aD ah aX aP aH aK az aL aR be Go.Abs.Fn aO Go.Abs.Pure ar aE Yl
end Go.Proofs.YtpfkjcjgdilkkaaGreat
namespace Go.Proofs.YtpfkjcjgdilkkaaGreat
open Go Go.Abs
open Nat (reduceEqDiff reduceAdd reduceLeDiff)
attribute [local irreducible] aD ah aX aP aH aK az aL aR be Go.Abs.Fn aO Go.Abs.Pure ar aE Yl
end Go.Proofs.YtpfkjcjgdilkkaaGreat
namespace Go.Proofs.YtpfkjcjgdilkkaaGreat
open Go Go.Abs
attribute [local irreducible] aD ah aX aP aH aK az aL aR be Go.Abs.Fn aO Go.Abs.Pure ar aE Yl
end Go.Proofs.YtpfkjcjgdilkkaaGreat
namespace Go.Proofs.YtpfkjcjgdilkkaaGreat
open Go Go.Abs
end Go.Proofs.YtpfkjcjgdilkkaaGreat
namespace Go.Proofs.YtpfkjcjgdilkkaaGreat
open Go Go.Abs
attribute [local irreducible] aD ah aX aP aH aK az aL aR be Go.Abs.Fn aO Go.Abs.Pure ar aE Yl
end Go.Proofs.YtpfkjcjgdilkkaaGreat
namespace Go.Proofs.YtpfkjcjgdilkkaaGreat
open Go Go.Abs
attribute [local irreducible] aD ah aX aP aH aK az aL aR be Go.Abs.Fn aO Go.Abs.Pure ar aE Yl
end Go.Proofs.YtpfkjcjgdilkkaaGreat
namespace Go.Proofs.YtpfkjcjgdilkkaaGreat
open Go Go.Abs
theorem qB {m:MapV} {l:Spx} (hm:dI m=0) (hl:bo l=0) (ht:bU m l=true):mO m l=(bR m l,0):=by
 unfold mO
 rw [if_neg (fun h=>h hm),if_neg (fun h=>h hl),if_neg (by rw [ht]; decide)]
theorem lJ {m:MapV} {c:List Spx} (hm:dI m=0) (hc:aJ c=0) (ht:c.all (bU m)=true):iI m c (eJ (c.map (bR m)))=(true,0)∧aJ (eJ (c.map (bR m)))=0:=by
 obtain ⟨p1,p2,p3,p4⟩:=bA hc
 have hI:aJ (eJ (c.map (bR m)))=0:=o7 (by rw [List.length_map]; omega) fun s hs=>by
  obtain ⟨t,t1,rfl⟩:=List.mem_map.1 hs
  exact gU hm (p2 t t1) (List.all_eq_true.1 ht t t1)
 refine ⟨?_,hI⟩
 unfold iI
 rw [if_neg (fun h=>h hm),if_neg (fun h=>h hc),if_neg (fun h=>h hI),if_neg (by rw [ht]; decide)]
 refine Prod.ext (List.all_eq_true.2 fun s hs=>?_) rfl
 obtain ⟨t,t1,rfl⟩:=List.mem_map.1 hs
 exact nM hc t1 (fun v hv=>hv)
attribute [local irreducible] aD ah aX aP aH aK az aL aR be Go.Abs.Fn aO Go.Abs.Pure ar aE Yl
end Go.Proofs.YtpfkjcjgdilkkaaGreat
namespace Go.Proofs.YtpfkjcjgdilkkaaGreat
open Go Go.Abs
def An (l:List Int):Prop:=l.Pairwise (· < ·)
end Go.Proofs.YtpfkjcjgdilkkaaGreat
namespace Go.Proofs.YtpfkjcjgdilkkaaGreat
open Go Go.Abs
theorem An.nodup {l:List Int} (h:An l):l.Nodup:=List.Pairwise.imp (fun {x y} (h:x < y) e=>by omega) h
end Go.Proofs.YtpfkjcjgdilkkaaGreat
namespace Go.Proofs.YtpfkjcjgdilkkaaGreat
open Go Go.Abs
def sJ (l:List (List Spx)):AV:=eV 1 aC l
theorem pF (l:List (List Spx)):Dat (sJ l):=n7 (fun _=>rfl) bh
instance datI_encXsss {l:List (List Spx)}:DatI (sJ l):=⟨pF l⟩
attribute [local irreducible] aD ah aX aP aH aK az aL aR be Go.Abs.Fn aO Go.Abs.Pure ar aE Yl
end Go.Proofs.YtpfkjcjgdilkkaaGreat
namespace Go.Proofs.YtpfkjcjgdilkkaaGreat
open Go Go.Abs
attribute [local irreducible] aD ah aX aP aH aK az aL aR be Go.Abs.Fn aO Go.Abs.Pure ar aE Yl
end Go.Proofs.YtpfkjcjgdilkkaaGreat
namespace Go.Proofs.YtpfkjcjgdilkkaaGreat
open Go Go.Abs
open Nat (reduceEqDiff reduceAdd reduceLeDiff)
section
variable {P:Program} {T:Tm} {H:Hp} {nx:Nat}
theorem zA {dm:DM} {K:SP} {l:List Op2} {d:Option Nat} {sz bytes:Nat} {z:List AV} {s x:Opd} {k:IntKind} {n:Int} (hd:dm2 dm T (.apz sz bytes z s x)=true) (hs:ov T s=.esl) (hx:ov T x=.int k n) (h0:0 < n) (h1:n ≤ 9223372036854775807) (h2:n.toNat * bytes ≤ 140737488355328)
    (kk:ah P dm l (aG T d (.msl nx (n.toNat * sz) sz 0 n.toNat)) (aj H nx (a7 (.agg z) n.toNat)) (nx + 1) K):ah P dm (⟨d,none,.apz sz bytes z s x⟩ :: l) T H nx K:=by
 refine jp rfl hd ?_ kk
 simp only [ee,hs,hx]
 rw [if_pos ⟨h0,h1,h2⟩]
end
theorem su (T:Tm) (H:Hp) (x:Opd):aZ T H (.capE x)=match ov T x with | .esl=>some (.int .i64 0) | _=>none:=rfl
theorem wz (n:Nat):(a7 (.agg [.int .i64 0,.int .i64 0]) n).length=n * 2:=by simp [a7,AV.cells]
attribute [local irreducible] aD ah aX aP aH aK az aL aR be Go.Abs.Fn aO Go.Abs.Pure ar aE Yl
theorem ws (n:Nat) (h0:0 < n) (h1:n ≤ 1000000) (H:Hp) (nx:Nat):Abs.Fn Tryz.prog 109 [.esl,.int .i64 n] H nx fun r H' nx'=>r=.msl nx (n * 2) 2 0 0∧H'=aj H nx (a7 (.agg [.int .i64 0,.int .i64 0]) n)∧nx'=nx + 1:=by
 refine Abs.Fn.of_c2 follows xB (Nat.le_of_ble_eq_true rfl) ?_
 simp only [zg,cO,cG,cN,cM,cD,cF,cB,ax,aN]
 have z1:decide ((n:Int) < 0)=false:=decide_eq_false (by omega)
 have z2:decide ((0:Int) < n)=true:=decide_eq_true (by omega)
 have s2:gd 2 .esl none (some (.int .i64 0)) none=some .esl:=rfl
 have s3:=ma (B:=nx) (n:=n * 2) (len:=n) (k:=0) (by omega) (by omega)
 rw [show ((0:Nat):Int)=0 from rfl] at s3
 (have zz:=aI @z1 (aI @z2 (aI @s2 (aI @Int.sub_zero (aI @Int.sub_self @su)))); repeat' (first|refine zW ?_|apply a_n|refine zO ?_|refine vY ?_|refine cTY ?_|refine cFY ?_|fail)) <;> (try clear zz)
 refine zA rfl (have zz:=@s2; evY) ev0 (by omega) (by omega) (by omega) ?_
 (have zz:=@s3; repeat' (first|refine zW ?_|apply a_n|refine zO ?_|refine vY ?_|refine af rfl ?_|refine r1Y ?_|fail)) <;> (try clear zz)
 exact ⟨rfl,rfl,rfl⟩
theorem xa (H:Hp) (nx:Nat):Abs.Fn Tryz.prog 109 [.esl,.int .i64 0] H nx fun r H' nx'=>r=.esl∧H'=H∧nx'=nx:=by
 refine Abs.Fn.of_c2 follows xB (Nat.le_of_ble_eq_true rfl) ?_
 simp only [zg,cO,cG,cN,cM,cD,cF,cB,ax,aN]
 (have zz:=aI @Int.sub_zero (aI @Int.sub_self @su); repeat' (first|refine zW ?_|apply a_n|refine zO ?_|refine vY ?_|(refine zGY ?_ ?_ <;> (intro _hg; try (exfalso; omega)))|refine af rfl ?_|refine r1Y ?_|fail)) <;> (try clear zz)
 exact ⟨rfl,rfl,rfl⟩
theorem oX {c:List Spx} {k:Nat} (hk:k < c.length):(c.take (k + 1)).flatten=(c.take k).flatten ++ c.getD k default:=by
 rw [ce hk,List.flatten_append]; simp
theorem tt (c:List Spx) (h0:c ≠ []) (hs:∀ s ∈ c,s ≠ []) (hl:c.flatten.length ≤ 1000000) (hc:c.length ≤ 1000000) (H:Hp) (nx:Nat) :
    Abs.Fn Tryz.prog 92 [aC c] H nx fun r H' nx'=>r=.msl nx (c.flatten.length * 2) 2 0 c.flatten.length∧H'=aj H nx (cX c.flatten)∧nx'=nx + 1:=by
 refine Abs.Fn.of_c2 follows AE (Nat.le_of_ble_eq_true rfl) ?_
 simp only [b92,cO,cG,cN,cM,cD,cF,cB,ax,aN]
 have hpos:0 < c.flatten.length:=by
  rw [List.length_pos_iff]
  intro e
  obtain ⟨s,hm⟩:=List.exists_mem_of_ne_nil c h0
  exact hs s hm (List.flatten_eq_nil_iff.1 e s hm)
 have hle:∀ k,(c.take k).flatten.length ≤ c.flatten.length:=fun k=>by
  have:c.flatten=(c.take k).flatten ++ (c.drop k).flatten:=by rw [← List.flatten_append,List.take_append_drop]
  rw [this,List.length_append]; omega
 refine cQ ?_
 (have zz:=and_self; repeat' (first|apply a_n|refine zO ?_|refine vY ?_|fail)) <;> (try clear zz)
 refine cQ ?_
 (have zz:=and_self; repeat' (first|apply a_n|refine zO ?_|refine vY ?_|fail)) <;> (try clear zz)
 refine aV (fun T H' nx'=>T 0=aC c∧T 3=.int .i64 (c.flatten.length:Nat)∧H=H'∧nx=nx') ?_ ?_
 ·(have zz:=@ao; repeat' (first|refine zW ?_|apply a_n|refine zO ?_|refine vY ?_|fail)) <;> (try clear zz)
  refine xW (X:=Nat) (fun k=>[(0,aC c),(3,.int .i64 ((c.take k).flatten.length:Nat)),(9,aC c),(10,.int .i64 c.length),(11,.int .i64 (k:Nat))]) (fun k=>k ≤ c.length) (fun k=>c.length - k) 0 (by omega) (by simp (disch:=omega) only [agr,ZG,reduceEqDiff,↓reduceIte,List.take_zero,List.flatten_nil,List.length_nil] <;> simp) ?_
  intro k hk
  by_cases hk2:k < c.length
  rotate_left
  ·rw [List.take_of_length_le (by omega)]
   (have zz:=and_self; repeat' (first|refine zW ?_|apply a_n|apply a_x|refine zO ?_|refine vY ?_|(refine zGY ?_ ?_ <;> (intro _hg; try (exfalso; omega)))|fail)) <;> (try clear zz)
   exact ⟨rfl,rfl,rfl,rfl⟩
  have ix:=eT hk2
  have hle2:=hle (k + 1)
  have e:(((c.take (k + 1)).flatten.length:Nat):Int)=((c.take k).flatten.length:Nat) + ((c.getD k default).length:Nat):=by rw [oX hk2,List.length_append]; omega
  rw [oX hk2,List.length_append] at hle2
  have z:decide ((((c.take k).flatten.length:Nat):Int) + ((c.getD k default).length:Nat) < 0)=false:=decide_eq_false (by omega)
  generalize c.getD k default=s at *
  (have zz:=aI @ix (aI @ak @z); repeat' (first|refine zW ?_|apply a_n|refine zO ?_|refine vY ?_|refine cFY ?_|(refine zGY ?_ ?_ <;> (intro _hg; try (exfalso; omega)))|fail)) <;> (try clear zz)
  exact ⟨k + 1,by omega,by omega,(have zz:=@e; agZ),rfl,rfl⟩
 rintro T _ _ ⟨t0,t3,rfl,rfl⟩
 (have zz:=@t3; repeat' (first|refine zW ?_|apply a_n|refine zO ?_|refine vY ?_|fail)) <;> (try clear zz)
 refine ay ev0 (have zz:=@t3; evY) (ws c.flatten.length (by omega) (by omega) H nx) ?_
 rintro _ _ _ ⟨rfl,rfl,rfl⟩
 (have zz:=aI @t0 @ao; repeat' (first|refine zW ?_|apply a_n|refine zO ?_|refine vY ?_|fail)) <;> (try clear zz)
 refine aS (X:=Nat) (fun k=>[(6,.msl nx (c.flatten.length * 2) 2 0 (c.take k).flatten.length),(25,aC c),(26,.int .i64 c.length),(27,.int .i64 (k:Nat))]) (fun k H' nx'=>k ≤ c.length∧(∃ C,H'=aj H nx C∧C.length=c.flatten.length * 2∧C.take ((c.take k).flatten.length * 2)=cX (c.take k).flatten)∧nx'=nx + 1) (fun k=>c.length - k) 0 ⟨by omega,⟨_,rfl,wz _,rfl⟩,rfl⟩ (by simp (disch:=omega) only [agr,ZG,reduceEqDiff,↓reduceIte,List.take_zero,List.flatten_nil,List.length_nil]) ?_
 rintro k _ _ ⟨hk,⟨C,rfl,h1,h2⟩,rfl⟩
 by_cases hk2:k < c.length
 rotate_left
 ·have ek:c.take k=c:=List.take_of_length_le (by omega)
  rw [ek] at h2 ⊢
  rw [List.take_of_length_le (by omega)] at h2
  subst h2
  (have zz:=and_self; repeat' (first|refine zW ?_|apply a_n|apply a_x|refine zO ?_|refine vY ?_|(refine zGY ?_ ?_ <;> (intro _hg; try (exfalso; omega)))|refine af rfl ?_|refine r1Y ?_|fail)) <;> (try clear zz)
  exact ⟨rfl,rfl,rfl⟩
 have ix:=eT hk2
 have hle2:=hle (k + 1)
 have e:=oX hk2
 have hsp:0 < (c.getD k default).length:=List.length_pos_iff.2 (hs _ (aY hk2))
 rw [e,List.length_append] at hle2
 have hcl:=dZ (c.getD k default)
 have hcp:=dZ (c.take k).flatten
 generalize c.getD k default=s at *
 (have zz:=@ix; repeat' (first|refine zW ?_|apply a_n|refine zO ?_|refine vY ?_|(refine zGY ?_ ?_ <;> (intro _hg; try (exfalso; omega)))|fail)) <;> (try clear zz)
 refine y7 (b:=nx) (m:=c.flatten.length * 2) (off:=0) (len:=(c.take k).flatten.length) (n:=s.length) (cs:=C) rfl ev0 ai ev0 uP (ot _) h1 (fun _=>by omega) (by omega) (by omega) ?_
 (have zz:=and_self; repeat' (first|apply a_n|refine zO ?_|refine vY ?_|fail)) <;> (try clear zz)
 refine ⟨k + 1,by omega,⟨by omega,⟨_,an _ _ _ _,?_,?_⟩,rfl⟩,by simp (disch:=omega) only [agr,ZG,reduceEqDiff,↓reduceIte,e,List.length_append]⟩
 ·simp only [bi,List.length_append,List.length_take,List.length_drop,hcl,h1]
  omega
 ·rw [e,gR,List.length_append,← h2]
  simp only [bi,Nat.zero_add]
  rw [List.take_append_of_le_length (by rw [List.length_append,List.length_take,h1,hcl]; omega),List.take_of_length_le (by rw [List.length_append,List.length_take,h1,hcl]; omega)]
theorem tJ (H:Hp) (nx:Nat):Abs.Fn Tryz.prog 92 [aC []] H nx fun r H' nx'=>r=.esl∧H'=H∧nx'=nx:=by
 refine Abs.Fn.of_c2 follows AE (Nat.le_of_ble_eq_true rfl) ?_
 simp only [b92,cO,cG,cN,cM,cD,cF,cB,ax,aN]
 have hal:cr (aC [])=some (.int .i64 0):=rfl
 (have zz:=@hal; repeat' (first|refine zW ?_|apply a_n|refine zO ?_|refine vY ?_|fail)) <;> (try clear zz)
 refine aS (X:=Unit) (fun _=>[(0,aC []),(3,.int .i64 0),(9,aC []),(10,.int .i64 0),(11,.int .i64 0)]) (fun _ H' nx'=>H'=H∧nx'=nx) (fun _=>0) () ⟨rfl,rfl⟩ ag0 ?_
 rintro _ _ _ ⟨rfl,rfl⟩
 (have zz:=and_self; repeat' (first|refine zW ?_|apply a_n|apply a_x|refine zO ?_|refine vY ?_|(refine zGY ?_ ?_ <;> (intro _hg; try (exfalso; omega)))|fail)) <;> (try clear zz)
 refine ay ev0 ev0 (xa _ _) ?_
 rintro _ Ha na ⟨rfl,rfl,rfl⟩
 (have zz:=@hal; repeat' (first|refine zW ?_|apply a_n|refine zO ?_|refine vY ?_|fail)) <;> (try clear zz)
 refine aS (X:=Unit) (fun _=>[(6,.esl),(25,aC []),(26,.int .i64 0),(27,.int .i64 0)]) (fun _ H1 nx1=>H1=Ha∧nx1=na) (fun _=>0) () ⟨rfl,rfl⟩ ag0 ?_
 rintro _ _ _ ⟨rfl,rfl⟩
 (have zz:=and_self; repeat' (first|refine zW ?_|apply a_n|apply a_x|refine zO ?_|refine vY ?_|(refine zGY ?_ ?_ <;> (intro _hg; try (exfalso; omega)))|refine af rfl ?_|refine r1Y ?_|fail)) <;> (try clear zz)
 exact ⟨rfl,rfl,rfl⟩
theorem uD {v w:Vtx}:bB [v] [w]=bl v w:=by
 rw [s5]
 split
 ·rfl
 ·rename_i h
  have:=Decidable.of_not_not h
  rw [this]; rfl
theorem uz (v w:Vtx):Pure Tryz.prog 98 [bf v,bf w] (.int .i64 (bl v w)):=by
 refine Pure.of_c2 follows Bz (Nat.le_of_ble_eq_true rfl) ?_
 simp only [b98,cO,cG,cN,cM,cD,cF,cB,ax,aN]
 have hc:=gY [v] [w] (show 1 ≤ _ by omega) (show 1 ≤ _ by omega)
 rw [uD] at hc
 (have zz:=and_self; repeat' (first|refine zW ?_|apply a_n|refine zO ?_|refine vY ?_|refine bxY ?_|refine blY ?_|fail)) <;> (try clear zz)
 refine bN ev0 ev0 hc (aa (ap (rW (Row.box 2 1 (cX [v]) ?_ rfl)) (ap (rW (Row.box 3 1 (cX [w]) ?_ rfl)) ab)) rfl) ?_
 ·rw [al (by omega),ai]; rfl
 ·rw [ai]; rfl
 (have zz:=and_self; repeat' (first|apply a_n|refine zO ?_|refine vY ?_|refine af rfl ?_|refine r1Y ?_|fail)) <;> (try clear zz)
 exact .int _ _
theorem z7:Cmp2 Tryz.prog bf bl (fun _=>True) 98 [] where
 len _:=rfl
 agg _:=rfl
 ones _:=rfl
 dat x:=bj x
 dcaps x hx:=by cases hx
 run x y _ _:=uz x y
 ord:=iO.ord
theorem rO (H:Hp) (nx:Nat):Abs.Fn Tryz.prog 71 [.esl] H nx fun r H' nx'=>r=.esl∧H'=H∧nx'=nx:=by
 refine Abs.Fn.of_c2 follows yx (Nat.le_of_ble_eq_true rfl) ?_
 simp only [b71,cO,cG,cN,cM,cD,cF,cB,ax,aN]
 (have zz:=and_self; repeat' (first|refine zW ?_|apply a_n|apply a_r|refine zO ?_|refine vY ?_|(refine zGY ?_ ?_ <;> (intro _hg; try (exfalso; omega)))|refine af rfl ?_|refine r1Y ?_|fail)) <;> (try clear zz)
 exact ⟨rfl,rfl,rfl⟩
theorem rx (c:List Spx) (hs:∀ s ∈ c,s ≠ []) (hl:c.flatten.length ≤ 100000) (hc:c.length ≤ 100000):Pure Tryz.prog 64 [aC c] (aq (dY bl c.flatten)):=by
 refine Pure.of_c2 follows A5 (Nat.le_of_ble_eq_true rfl) ?_
 simp only [b64,cO,cG,cN,cM,cD,cF,cB,ax,aN]
 by_cases h0:c=[]
 ·subst h0
  (have zz:=and_self; repeat' (first|refine zW ?_|apply a_n|refine zO ?_|refine vY ?_|fail)) <;> (try clear zz)
  refine ay ev0 ev0 (tJ _ _) ?_
  rintro _ _ _ ⟨rfl,rfl,rfl⟩
  (have zz:=and_self; repeat' (first|refine zW ?_|apply a_n|refine zO ?_|refine vY ?_|fail)) <;> (try clear zz)
  refine ay ev0 ev0 uR ?_
  rintro _ _ _ ⟨rfl,rfl⟩
  (have zz:=and_self; repeat' (first|refine zW ?_|apply a_n|refine zO ?_|refine vY ?_|fail)) <;> (try clear zz)
  refine ay ev0 ev0 (rO _ _) ?_
  rintro _ _ _ ⟨rfl,rfl,rfl⟩
  (have zz:=and_self; repeat' (first|apply a_n|refine zO ?_|refine vY ?_|refine af rfl ?_|refine r1Y ?_|fail)) <;> (try clear zz)
  exact .eslsl 2
 have hpos:0 < c.flatten.length:=by
  rw [List.length_pos_iff]
  intro e
  obtain ⟨s,hm⟩:=List.exists_mem_of_ne_nil c h0
  exact hs s hm (List.flatten_eq_nil_iff.1 e s hm)
 (have zz:=and_self; repeat' (first|refine zW ?_|apply a_n|refine zO ?_|refine vY ?_|fail)) <;> (try clear zz)
 refine ay ev0 ev0 (tt c h0 hs (by omega) (by omega) _ _) ?_
 rintro _ _ _ ⟨rfl,rfl,rfl⟩
 generalize c.flatten=M at *
 (have zz:=and_self; repeat' (first|refine zW ?_|apply a_n|refine zO ?_|refine vY ?_|fail)) <;> (try clear zz)
 refine ay ev0 ev0 (rZ z7 (L:=M) (b:=0) (n:=M.length) ai (by omega) rfl hpos (fun _ _=>trivial) (by omega)) ?_
 rintro _ H3 nx3 ⟨L,ps,hperm,hsort⟩
 have hLl:L.length=M.length:=hperm.length_eq
 have hL0:L ≠ []:=fun e=>by rw [e] at hLl; simp at hLl; omega
 have hB3:H3 0=some (cX L):=ps.at_
 rw [← hLl]
 (have zz:=and_self; repeat' (first|refine zW ?_|apply a_n|refine zO ?_|refine vY ?_|fail)) <;> (try clear zz)
 refine ay ev0 ev0 (lM L (show _ ≤ _ by omega) hL0 H3 0 nx3 hB3 (by have:=ps.le; omega)) ?_
 rintro _ H4 nx4 ⟨rfl,⟨C,rfl,c1,c2⟩,rfl⟩
 have hd:cL L L.length=dY bl M:=j9 iO hperm (by rw [hLl]; exact hsort)
 rw [hd] at c2
 have hle:=my L L.length
 have hdl:=jV L L.length
 rw [hd] at hdl
 (have zz:=and_self; repeat' (first|apply a_n|refine zO ?_|refine vY ?_|refine af rfl ?_|refine r1Y ?_|fail)) <;> (try clear zz)
 exact mq ai c1 (by omega) hdl c2
theorem qy (c:List Spx) (hc:c.length ≤ 5000) (hs:∀ s ∈ c,Shn s):Pure Tryz.prog 24 [c9 c] (.tup [aq (if aJ c=0 then dY bl c.flatten else []),.int .i64 (aJ c)]):=by
 refine Pure.of_c2 follows BE (Nat.le_of_ble_eq_true rfl) ?_
 simp only [b24,cO,cG,cN,cM,cD,cF,cB,ax,aN]
 have hcc:=gL c (show _ ≤ _ by omega) hs
 by_cases he:aJ c=0
 rotate_left
 ·rw [if_neg he]
  have z:decide (aJ c ≠ 0)=true:=decide_eq_true he
  (have zz:=aI @aB (aI @av @z); repeat' (first|refine zW ?_|apply a_n|apply a_r|refine zO ?_|refine vY ?_|refine cY ?_ (hp:=hcc) (hs:=by (first | refine aa ?_ rfl | apply ac); (repeat' (first | exact ab | apply ag | apply ae | exact br _)); first | done | fail)|refine bxY ?_|refine cTY ?_|refine af rfl ?_|refine r2Y ?_|fail)) <;> (try clear zz)
  exact j4 (.eslsl _) rfl
 rw [if_pos he]
 rw [he] at hcc ⊢
 have z0:decide ((0:Int) ≠ 0)=false:=rfl
 obtain ⟨p1,p2,p3,p4⟩:=bA he
 have hfl:∀ (l:List Spx),(∀ s ∈ l,s.length ≤ 8)→l.flatten.length ≤ 8 * l.length:=by
  intro l
  induction l with
  | nil=>intro _; simp
  | cons s l ih =>
   intro h
   rw [List.flatten_cons,List.length_append,List.length_cons]
   have:=h s List.mem_cons_self
   have:=ih fun t ht=>h t (List.mem_cons_of_mem _ ht)
   omega
 have h8:=hfl c (fun s h=>(bH (p2 s h)).2.1)
 have hv:=rx c (fun s h e=>by have:=(bH (p2 s h)).1; rw [e] at this; simp at this) (by omega) (by omega)
 (have zz:=aI @aB (aI @av @z0); repeat' (first|refine zW ?_|apply a_n|refine zO ?_|refine vY ?_|refine cY ?_ (hp:=by first | exact hcc | exact hv) (hs:=by (first | refine aa ?_ rfl | apply ac); (repeat' (first | exact ab | apply ag | apply ae | exact br _ | exact bh _)); first | done | fail)|refine bxY ?_|refine cFY ?_|refine af rfl ?_|refine r2Y ?_|fail)) <;> (try clear zz)
 exact j4 (aw _).snap rfl
end Go.Proofs.YtpfkjcjgdilkkaaGreat
namespace Go.Proofs.YtpfkjcjgdilkkaaGreat
open Go Go.Abs
open Nat (reduceEqDiff reduceAdd reduceLeDiff)
attribute [local irreducible] aD ah aX aP aH aK az aL aR be Go.Abs.Fn aO Go.Abs.Pure ar aE Yl
end Go.Proofs.YtpfkjcjgdilkkaaGreat
namespace Go.Proofs.YtpfkjcjgdilkkaaGreat
open Go Go.Abs
def uo:Nat→Spx→List Int
 | 0,_=>[]
 | n + 1,[]=>0 :: 0 :: uo n []
 | n + 1,v :: l=>v.color :: v.label :: uo n l
theorem ng:∀ {n:Nat} {s:Spx},(uo n s).length=2 * n
 | 0,_=>rfl
 | n + 1,[]=>by show (uo n []).length + 1 + 1=_; rw [ng]; omega
 | n + 1,v :: l=>by show (uo n l).length + 1 + 1=_; rw [ng]; omega
def kZ (s:Spx):K16:=⟨uo 8 s,by rw [ng]⟩
structure BOk (H:Hp) (n:Nat) (c:Spx→Nat) (O:List Spx) (bs:List Nat) (ck:Nat):Prop where
 box:H 0=some [.bmap ((O.map kZ).map eK) (O.map aq) bs ck]
 len:bs.length=O.length
 asc:bs.Pairwise (· < ·)
 below:∀ s ∈ bs,s < ck
 nd:O.Nodup
 all:∀ f ∈ O,f.length=n
 odd:∀ f,f ∈ O ↔ c f % 2=1
theorem BOk.same {H H':Hp} {n:Nat} {c c':Spx→Nat} {O:List Spx} {bs:List Nat} {ck:Nat} (h:BOk H n c O bs ck) (hs:H' 0=H 0) (hc:∀ f,c' f % 2=c f % 2):BOk H' n c' O bs ck :=
 ⟨hs.trans h.box,h.len,h.asc,h.below,h.nd,h.all,fun f=>by rw [hc]; exact h.odd f⟩
theorem BOk.put {H H':Hp} {n:Nat} {c c':Spx→Nat} {O:List Spx} {bs:List Nat} {ck:Nat} {f:Spx} (h:BOk H n c O bs ck) (hf:f ∉ O) (hl:f.length=n) (hH:H' 0=some [.bmap ((O.map kZ).map eK ++ [eK (kZ f)]) (O.map aq ++ [aq f]) (bs ++ [ck]) (ck + 1)]) (hc:∀ g,c' g=c g + if g=f then 1 else 0):BOk H' n c' (O ++ [f]) (bs ++ [ck]) (ck + 1):=by
 refine ⟨by rw [hH]; simp,by rw [List.length_append,List.length_append,h.len]; rfl,?_,fun s hs=>?_,?_,fun g hg=>?_,fun g=>?_⟩
 ·exact List.pairwise_append.2 ⟨h.asc,List.pairwise_singleton _ _,fun a ha b hb=>by rw [List.mem_singleton.1 hb]; exact h.below a ha⟩
 ·rcases List.mem_append.1 hs with q | q
  ·have:=h.below s q; omega
  ·rw [List.mem_singleton.1 q]; omega
 ·exact List.nodup_append.2 ⟨h.nd,by simp,fun a ha b hb e=>by rw [e,List.mem_singleton.1 hb] at ha; exact hf ha⟩
 ·rcases List.mem_append.1 hg with q | q
  ·exact h.all g q
  ·rw [List.mem_singleton.1 q]; exact hl
 ·rw [List.mem_append,List.mem_singleton,h.odd,hc]
  by_cases e:g=f
  ·subst e
   have:¬ c g % 2=1:=fun q=>hf ((h.odd g).2 q)
   rw [if_pos rfl]
   exact ⟨fun _=>by omega,fun _=>.inr rfl⟩
  ·rw [if_neg e]; simp [e]
theorem ea {α β:Type} {f:α→β}:∀ {l:List α} {i:Nat},(l.map f).eraseIdx i=(l.eraseIdx i).map f
 | [],_=>rfl
 | a :: l,0=>rfl
 | a :: l,i + 1=>by show f a :: (l.map f).eraseIdx i=f a :: (l.eraseIdx i).map f; rw [ea]
theorem BOk.del {H H':Hp} {n:Nat} {c c':Spx→Nat} {O:List Spx} {bs:List Nat} {ck i:Nat} {f:Spx} (h:BOk H n c O bs ck) (hf:f ∈ O) (hi:O.idxOf f=i) (hH:H' 0=some [.bmap (((O.map kZ).map eK).eraseIdx i) ((O.map aq).eraseIdx i) (bs.eraseIdx i) ck]) (hc:∀ g,c' g=c g + if g=f then 1 else 0):BOk H' n c' (O.erase f) (bs.eraseIdx i) ck:=by
 have hil:i < O.length:=by rw [← hi]; exact List.idxOf_lt_length_iff.2 hf
 have he:O.erase f=O.eraseIdx i:=List.erase_eq_eraseIdx_of_idxOf hi
 refine ⟨?_,?_,h.asc.sublist (List.eraseIdx_sublist _ _),fun s hs=>h.below s ((List.eraseIdx_sublist _ _).subset hs),h.nd.erase _,fun g hg=>h.all g (List.mem_of_mem_erase hg),fun g=>?_⟩
 ·rw [hH,he]
  rw [ea,ea,ea]
 ·rw [he,List.length_eraseIdx_of_lt hil,List.length_eraseIdx_of_lt (by rw [h.len]; exact hil),h.len]
 ·rw [h.nd.mem_erase_iff,h.odd,hc]
  by_cases e:g=f
  ·subst e
   have:=(h.odd g).1 hf
   rw [if_pos rfl]
   constructor
   ·exact fun q=>absurd rfl q.1
   ·intro q; omega
  ·rw [if_neg e]; simp [e]
attribute [local irreducible] aD ah aX aP aH aK az aL aR be Go.Abs.Fn aO Go.Abs.Pure ar aE Yl
end Go.Proofs.YtpfkjcjgdilkkaaGreat
namespace Go.Proofs.YtpfkjcjgdilkkaaGreat
open Go Go.Abs
attribute [local irreducible] aD ah aX aP aH aK az aL aR be Go.Abs.Fn aO Go.Abs.Pure ar aE Yl
end Go.Proofs.YtpfkjcjgdilkkaaGreat
namespace Go.Proofs.YtpfkjcjgdilkkaaGreat
open Go Go.Abs
attribute [local irreducible] aD ah aX aP aH aK az aL aR be Go.Abs.Fn aO Go.Abs.Pure ar aE Yl
end Go.Proofs.YtpfkjcjgdilkkaaGreat
namespace Go.Proofs.YtpfkjcjgdilkkaaGreat
open Go Go.Abs
structure PairV where
 a:List Spx
 b:List Spx
 d:Int
attribute [local irreducible] aD ah aX aP aH aK az aL aR be Go.Abs.Fn aO Go.Abs.Pure ar aE Yl
end Go.Proofs.YtpfkjcjgdilkkaaGreat
namespace Go.Proofs.YtpfkjcjgdilkkaaGreat
open Go Go.Abs
theorem wR {m:MapV} (h1:m.fr.length ≤ 4096) (h2:m.to.length=m.fr.length) (h3:cf bl m.fr) (h4:∀ v ∈ m.fr,bv v=true) (h5:∀ v ∈ m.to,bv v=true):dI m=0:=by
 unfold dI
 rw [if_neg (by omega),if_neg (by omega)]
 refine bZ fun k hk=>?_
 unfold pM
 rw [if_neg,if_neg]
 ·rintro ⟨a,b⟩
  have:=dh h3 (i:=k - 1) (j:=k) (by omega) hk
  omega
 ·rintro (h | h)
  ·rw [h4 _ (aY hk)] at h; cases h
  ·rw [h5 _ (aY (by omega))] at h; cases h
def jq (c:List Spx):Spx:=dY bl c.flatten
theorem nX {c:List Spx} {v:Vtx}:v ∈ jq c ↔ ∃ s ∈ c,v ∈ s:=by
 unfold jq; rw [ef,List.mem_flatten]
theorem mT:∀ {l:List Spx},(∀ s ∈ l,s.length ≤ 8)→l.flatten.length ≤ 8 * l.length
 | [],_=>by simp
 | s :: l,h=>by
  rw [List.flatten_cons,List.length_append,List.length_cons]
  have:=h s List.mem_cons_self
  have:=mT (l:=l) fun t ht=>h t (List.mem_cons_of_mem _ ht)
  omega
end Go.Proofs.YtpfkjcjgdilkkaaGreat
namespace Go.Proofs.YtpfkjcjgdilkkaaGreat
open Go Go.Abs
theorem vO {m:MapV} {c:List Spx} (hm:dI m=0) (hc:aJ c=0) (ht:c.all (bU m)=true):lu m c=(eJ (c.map (bR m)),0):=by
 unfold lu
 rw [if_neg (fun h=>h hm),if_neg (fun h=>h hc),if_neg (by rw [ht]; decide)]
end Go.Proofs.YtpfkjcjgdilkkaaGreat
namespace Go.Proofs.YtpfkjcjgdilkkaaGreat
open Go Go.Abs
attribute [local irreducible] aD ah aX aP aH aK az aL aR be Go.Abs.Fn aO Go.Abs.Pure ar aE Yl
end Go.Proofs.YtpfkjcjgdilkkaaGreat
namespace Go.Proofs.YtpfkjcjgdilkkaaGreat
open Go Go.Abs
end Go.Proofs.YtpfkjcjgdilkkaaGreat
namespace Go.Proofs.YtpfkjcjgdilkkaaGreat
open Go Go.Abs
theorem pS {H:Hp} {r:AV} {l:List Spx} {b:Nat} (h:Row H 1 r (l.map aq)) (hb:H b=some [.esl]):dB r ≠ some b:=by
 generalize hcs:l.map aq=cs at h
 cases h with
 | nil=>exact fun e=>by cases e
 | box b' len cs k1 k2 =>
  intro e
  cases e
  rw [hb] at k1
  have e2:=Option.some.inj k1
  subst e2
  match l with
  | []=>simp at hcs
  | x :: l =>
   have e3:=(List.cons.inj hcs).1
   unfold aq eV at e3
   cases e3
theorem fY {s:Spx} (h:bo s=0):cf bl s∧s.length ≤ 1000000:=⟨(bH h).2.2.1,by have:=(bH h).2.1; omega⟩
theorem lk {c:List Spx} (h:aJ c=0):∀ t ∈ c,Shn t:=fun t ht=>by have:=(bH ((bA h).2.1 t ht)).2.1; show _ ≤ _; omega
attribute [local irreducible] aD ah aX aP aH aK az aL aR be Go.Abs.Fn aO Go.Abs.Pure ar aE Yl
theorem wt (c:List Spx) (s:Spx) (hc:aJ c=0) (hs:bo s=0):Pure Tryz.prog 31 [c9 c,aq s] (.int .i64 0):=by
 refine Pure.of_c2 follows AO (Nat.le_of_ble_eq_true rfl) ?_
 simp only [b31,cO,cG,cN,cM,cD,cF,cB,ax,aN]
 have h1:=gL c (show _ ≤ _ by have:=(bA hc).1; omega) (lk hc)
 have h2:=eW s (show _ ≤ _ by have:=(fY hs).2; omega)
 rw [hc] at h1
 rw [hs] at h2
 have z0:decide ((0:Int) ≠ 0)=false:=rfl
 (have zz:=aI @aB (aI @av @z0); repeat' (first|refine zW ?_|apply a_n|refine zO ?_|refine vY ?_|refine cY ?_ (hp:=by first | exact h1 | exact h2) (hs:=by (first | refine aa ?_ rfl | apply ac); (repeat' (first | exact ab | apply ag | apply ae | exact br _ | exact aw _)); first | done | fail)|refine bxY ?_|refine cFY ?_|refine af rfl ?_|refine r1Y ?_|fail)) <;> (try clear zz)
 exact .int _ _
theorem wq (c:List Spx) (s:Spx) (hc:aJ c=0) (hs:bo s=0) (hne:dS c s ≠ []):Pure Tryz.prog 10 [c9 c,aq s] (.tup [c9 (dS c s),.int .i64 0]):=by
 refine Pure.of_c2 follows Bq (Nat.le_of_ble_eq_true rfl) ?_
 simp only [b10,cO,cG,cN,cM,cD,cF,cB,ax,aN]
 have hpl:=wt c s hc hs
 have z0:decide ((0:Int) ≠ 0)=false:=rfl
 obtain ⟨c1,c2,c3,c4⟩:=bA hc
 (have zz:=aI @aB (aI @av @z0); repeat' (first|refine zW ?_|apply a_n|refine zO ?_|refine vY ?_|refine cY ?_ (hp:=hpl) (hs:=by (first | refine aa ?_ rfl | apply ac); (repeat' (first | exact ab | apply ag | apply ae | exact br _ | exact aw _)); first | done | fail)|refine alY ?_|refine bxY ?_|refine cFY ?_|fail)) <;> (try clear zz)
 refine ay ev0 ev0 (vK c s (by omega) (fun t h=>fY (c2 t h)) (fY hs) _ _) ?_
 rintro r H1 nx1 ⟨r1,r2,r3⟩
 have g1:H1 1=some [.esl]:=(r2 1 (by omega)).trans ai
 have hst:=dt (s:=s) hc
 have hsm:=uK (s:=s) hc
 have hco:=kj (dS c s) (by have:=(bA hst).1; omega) (fun t ht=>by
  obtain ⟨p1,p2,p3,p4⟩:=bH ((bA hst).2.1 t ht)
  exact ⟨p3,by omega,fun e=>by rw [e] at p1; simp at p1⟩)
 rw [hsm] at hco
 change Row H1 1 r ((dS c s).map aq) at r1
 have hpos:=List.length_pos_iff.2 hne
 generalize dS c s=L at *
 have hls:=r1.lenS (n:=L.length) (by rw [List.length_map,Nat.mul_one]) Nat.one_pos
 have z:decide ((L.length:Int)=0)=false:=decide_eq_false (by omega)
 have hb1:=pS r1 g1
 obtain ⟨Hf,H4,hfz,hsn,hoth⟩:=vF r1
 have g4:H4 1=some [.esl]:=(hoth 1 hb1).trans g1
 (have zz:=and_self; repeat' (first|apply a_n|refine zO ?_|refine vY ?_|fail)) <;> (try clear zz)
 refine cQ (cQ ?_)
 (have zz:=aI @hls @z; repeat' (first|apply a_n|refine zO ?_|refine vY ?_|refine cFY ?_|fail)) <;> (try clear zz)
 refine cQ ?_
 refine lr Hf H4 [(4,.ptr 1 1 0),(7,aC L)] hfz ⟨.inl rfl,.inr hsn,trivial⟩ ?_
 (have zz:=aI @g4 (aI @aB @av); repeat' (first|apply a_n|refine zO ?_|refine vY ?_|refine cY ?_ (hp:=hco) (hs:=by (first | refine aa ?_ rfl | apply ac); (repeat' (first | exact ab | apply ag | apply ae | exact bh _)); first | done | fail)|refine stY ?_|refine af rfl ?_|refine r2Y ?_|fail)) <;> (try clear zz)
 exact j0 (bh _).snap rfl
def szS (c:List Spx):Nat→Int × Bool
 | 0=>(-1,true)
 | k + 1=>(if (szS c k).1 < ((c.getD k default).length:Int) - 1 then ((c.getD k default).length:Int) - 1 else (szS c k).1,(szS c k).2 && (decide (k=0) || decide (((c.getD k default).length:Int) - 1=(szS c k).1)))
theorem vj {c:List Spx}:∀ {k:Nat},∀ i,i < k→((c.getD i default).length:Int) - 1 ≤ (szS c k).1
 | 0,i,h=>absurd h (by omega)
 | k + 1,i,h=>by
  unfold szS
  rcases Nat.lt_succ_iff_lt_or_eq.1 h with h | rfl
  ·have:=vj (c:=c) i h
   dsimp only; split <;> omega
  ·dsimp only; split <;> omega
theorem yK (c:List Spx) (hc:Shn c) (hs:∀ s ∈ c,Shn s):Pure Tryz.prog 21 [c9 c] (.tup [.int .i64 (szS c c.length).1,.bool (szS c c.length).2]):=by
 refine Pure.of_c2 follows A2 (Nat.le_of_ble_eq_true rfl) ?_
 simp only [b21,cO,cG,cN,cM,cD,cF,cB,ax,aN]
 have hc':c.length ≤ 17592186044416:=hc
 (have zz:=aI @aB @av; repeat' (first|refine zW ?_|apply a_n|refine zO ?_|refine vY ?_|refine bxY ?_|fail)) <;> (try clear zz)
 refine aS (X:=Nat) (fun k=>[(1,.ptr 0 1 0),(4,.int .i64 (szS c k).1),(5,.bool (szS c k).2),(6,.int .i64 k)]) (fun k H nx=>k ≤ c.length∧H 0=some [aC c]) (fun k=>c.length - k) 0 ⟨Nat.zero_le _,ai⟩ (by (iterate 4 refine And.intro rfl ?_); trivial) ?_
 rintro k H nx ⟨h1,g0⟩
 by_cases hk:k < c.length
 rotate_left
 ·obtain rfl:k=c.length:=by omega
  (have zz:=aI @g0 @ao; repeat' (first|refine zW ?_|apply a_n|apply a_x|refine zO ?_|refine vY ?_|(refine zGY ?_ ?_ <;> (intro _hg; try (exfalso; omega)))|refine af rfl ?_|refine r2Y ?_|fail)) <;> (try clear zz)
  exact gK (ap (.int _ _) (ap (.bool _) ab))
 have ix:=eT hk
 have hsl:(c.getD k default).length ≤ 17592186044416:=hs _ (aY hk)
 have e:szS c (k + 1)=(if (szS c k).1 < ((c.getD k default).length:Int) - 1 then ((c.getD k default).length:Int) - 1 else (szS c k).1,(szS c k).2 && (decide (k=0) || decide (((c.getD k default).length:Int) - 1=(szS c k).1))):=rfl
 generalize c.getD k default=s at *
 generalize szS c k=P at *
 obtain ⟨m,p⟩:=P
 dsimp only at e ⊢
 by_cases hm:m < (s.length:Int) - 1
 ·have zm:decide (m < (s.length:Int) - 1)=true:=decide_eq_true hm
  rw [if_pos hm] at e
  cases p
  ·rw [Bool.false_and] at e
   (have zz:=aI @g0 (aI @ix (aI @ao (aI @ak @zm))); repeat' (first|refine zW ?_|apply a_n|refine zO ?_|refine vY ?_|refine gFY ?_|refine cTY ?_|(refine zGY ?_ ?_ <;> (intro _hg; try (exfalso; omega)))|fail)) <;> (try clear zz)
   exact ⟨k + 1,by omega,⟨by omega,g0⟩,by rw [e]; (iterate 4 refine And.intro rfl ?_); trivial⟩
  ·rw [Bool.true_and] at e
   by_cases hk0:k=0
   ·have zk:decide ((k:Int)=0)=true:=decide_eq_true (by omega)
    rw [decide_eq_true hk0,Bool.true_or] at e
    (have zz:=aI @g0 (aI @ix (aI @ao (aI @ak (aI @zm @zk)))); repeat' (first|refine zW ?_|apply a_n|refine zO ?_|refine vY ?_|refine gTY ?_|refine gFY ?_|refine cTY ?_|(refine zGY ?_ ?_ <;> (intro _hg; try (exfalso; omega)))|fail)) <;> (try clear zz)
    exact ⟨k + 1,by omega,⟨by omega,g0⟩,by rw [e]; (iterate 4 refine And.intro rfl ?_); trivial⟩
   ·have zk:decide ((k:Int)=0)=false:=decide_eq_false (by omega)
    rw [decide_eq_false hk0,Bool.false_or] at e
    (have zz:=aI @g0 (aI @ix (aI @ao (aI @ak (aI @zm @zk)))); repeat' (first|refine zW ?_|apply a_n|refine zO ?_|refine vY ?_|refine gTY ?_|refine cTY ?_|(refine zGY ?_ ?_ <;> (intro _hg; try (exfalso; omega)))|fail)) <;> (try clear zz)
    exact ⟨k + 1,by omega,⟨by omega,g0⟩,by rw [e]; (iterate 4 refine And.intro rfl ?_); trivial⟩
 ·have zm:decide (m < (s.length:Int) - 1)=false:=decide_eq_false hm
  rw [if_neg hm] at e
  cases p
  ·rw [Bool.false_and] at e
   (have zz:=aI @g0 (aI @ix (aI @ao (aI @ak @zm))); repeat' (first|refine zW ?_|apply a_n|refine zO ?_|refine vY ?_|refine gFY ?_|refine cFY ?_|(refine zGY ?_ ?_ <;> (intro _hg; try (exfalso; omega)))|fail)) <;> (try clear zz)
   exact ⟨k + 1,by omega,⟨by omega,g0⟩,by rw [e]; (iterate 4 refine And.intro rfl ?_); trivial⟩
  ·rw [Bool.true_and] at e
   by_cases hk0:k=0
   ·have zk:decide ((k:Int)=0)=true:=decide_eq_true (by omega)
    rw [decide_eq_true hk0,Bool.true_or] at e
    (have zz:=aI @g0 (aI @ix (aI @ao (aI @ak (aI @zm @zk)))); repeat' (first|refine zW ?_|apply a_n|refine zO ?_|refine vY ?_|refine gTY ?_|refine gFY ?_|refine cFY ?_|(refine zGY ?_ ?_ <;> (intro _hg; try (exfalso; omega)))|fail)) <;> (try clear zz)
    exact ⟨k + 1,by omega,⟨by omega,g0⟩,by rw [e]; (iterate 4 refine And.intro rfl ?_); trivial⟩
   ·have zk:decide ((k:Int)=0)=false:=decide_eq_false (by omega)
    rw [decide_eq_false hk0,Bool.false_or] at e
    (have zz:=aI @g0 (aI @ix (aI @ao (aI @ak (aI @zm @zk)))); repeat' (first|refine zW ?_|apply a_n|refine zO ?_|refine vY ?_|refine gTY ?_|refine cFY ?_|(refine zGY ?_ ?_ <;> (intro _hg; try (exfalso; omega)))|fail)) <;> (try clear zz)
    exact ⟨k + 1,by omega,⟨by omega,g0⟩,by rw [e]; (iterate 4 refine And.intro rfl ?_); trivial⟩
def va (c:List Spx):Bool:=gW c && decide (aJ c=0) && decide (c.length ≤ 12) && decide ((szS c c.length).1 ≤ 3)
theorem vE {c:List Spx} (h:va c=true):gW c=true∧aJ c=0∧c.length ≤ 12∧∀ s ∈ c,s.length ≤ 4:=by
 unfold va at h
 simp only [Bool.and_eq_true,decide_eq_true_eq] at h
 refine ⟨h.1.1.1,h.1.1.2,h.1.2,fun s hs=>?_⟩
 obtain ⟨i,hi,e⟩:=List.getElem_of_mem hs
 have:=vj (c:=c) i hi
 rw [show c.getD i default=s by simp [List.getD,hi,e]] at this
 omega
theorem yH (c:List Spx) (hc:Shn c∧∀ s ∈ c,Shn s):Pure Tryz.prog 6 [c9 c] (.bool (va c)):=by
 refine Pure.of_c2 follows is6 (Nat.le_of_ble_eq_true rfl) ?_
 simp only [b6,cO,cG,cN,cM,cD,cF,cB,ax,aN]
 have hc':c.length ≤ 17592186044416:=hc.1
 have h1:=yK c hc.1 hc.2
 have h2:=wv c hc.1 hc.2
 have h3:=wE c hc.1 hc.2
 unfold va
 generalize szS c c.length=P at *
 obtain ⟨m,p⟩:=P
 dsimp only at h1 ⊢
 cases hf:gW c
 ·rw [hf] at h2
  (have zz:=aI @aB @av; repeat' (first|refine zW ?_|apply a_n|refine zO ?_|refine vY ?_|refine cY ?_ (hp:=by first | exact h1 | exact h2 | exact h3) (hs:=by (first | refine aa ?_ rfl | apply ac); (repeat' (first | exact ab | apply ag | apply ae | exact br _)); first | done | fail)|refine bxY ?_|refine gFY ?_|refine af rfl ?_|refine r1Y ?_|fail)) <;> (try clear zz)
  exact .bool _
 rw [hf] at h2
 by_cases he:aJ c=0
 rotate_left
 ·have z:decide (aJ c=0)=false:=decide_eq_false he
  rw [z]
  (have zz:=aI @aB (aI @av @z); repeat' (first|refine zW ?_|apply a_n|refine zO ?_|refine vY ?_|refine cY ?_ (hp:=by first | exact h1 | exact h2 | exact h3) (hs:=by (first | refine aa ?_ rfl | apply ac); (repeat' (first | exact ab | apply ag | apply ae | exact br _)); first | done | fail)|refine bxY ?_|refine gTY ?_|refine gFY ?_|refine af rfl ?_|refine r1Y ?_|fail)) <;> (try clear zz)
  exact .bool _
 rw [he] at h3
 rw [decide_eq_true he]
 have z0:decide ((0:Int)=0)=true:=rfl
 by_cases hl:c.length ≤ 12
 rotate_left
 ·have z:decide ((c.length:Int) ≤ 12)=false:=decide_eq_false (by omega)
  rw [decide_eq_false hl]
  (have zz:=aI @aB (aI @av (aI @ao (aI @z @z0))); repeat' (first|refine zW ?_|apply a_n|refine zO ?_|refine vY ?_|refine cY ?_ (hp:=by first | exact h1 | exact h2 | exact h3) (hs:=by (first | refine aa ?_ rfl | apply ac); (repeat' (first | exact ab | apply ag | apply ae | exact br _)); first | done | fail)|refine bxY ?_|refine gTY ?_|refine gFY ?_|(refine zGY ?_ ?_ <;> (intro _hg; try (exfalso; omega)))|refine af rfl ?_|refine r1Y ?_|fail)) <;> (try clear zz)
  exact .bool _
 have z:decide ((c.length:Int) ≤ 12)=true:=decide_eq_true (by omega)
 rw [decide_eq_true hl]
 (have zz:=aI @aB (aI @av (aI @ao (aI @z @z0))); repeat' (first|refine zW ?_|apply a_n|refine zO ?_|refine vY ?_|refine cY ?_ (hp:=by first | exact h1 | exact h2 | exact h3) (hs:=by (first | refine aa ?_ rfl | apply ac); (repeat' (first | exact ab | apply ag | apply ae | exact br _)); first | done | fail)|refine bxY ?_|refine gTY ?_|(refine zGY ?_ ?_ <;> (intro _hg; try (exfalso; omega)))|refine af rfl ?_|refine r1Y ?_|fail)) <;> (try clear zz)
 exact bz (by simp)
end Go.Proofs.YtpfkjcjgdilkkaaGreat
namespace Go.Proofs.YtpfkjcjgdilkkaaGreat
open Go Go.Abs
def pg (l:List Nat):AV:=eV 1 (fun n:Nat=>AV.int .u8 (n:Int)) l
theorem qC (l:List Nat):Dat (pg l):=n7 (fun _=>rfl) (fun _=>Dat.int)
instance datI_encU {l:List Nat}:DatI (pg l):=⟨qC l⟩
theorem iR {l:List Nat}:cr (pg l)=some (.int .i64 l.length):=iC
theorem ixU {l:List Nat} {k:Nat} (h:k < l.length):dR 1 (pg l) (.int .i64 (k:Int))=some (.iptr [.int .u8 ((l.getD k default:Nat):Int)] 0):=by
 unfold pg
 rw [jv,if_pos ⟨by omega,by omega⟩,Int.toNat_natCast]; rfl
def nby (b:List Nat) (i:Nat):Nat:=if b.length=0 then 0 else b.getD (i % b.length) default
def vtN (n:Nat):Vtx:=⟨(n % 3:Nat),(n / 3 % 3:Nat)⟩
def toL (n:Nat) (b:List Nat):Spx:=(List.range n).map fun i=>vtN (nby b i)
theorem vP {n:Nat} {b:List Nat}:toL (n + 1) b=toL n b ++ [vtN (nby b n)]:=by
 unfold toL; rw [List.range_succ,List.map_append]; rfl
theorem sk {n:Nat} {b:List Nat}:(toL n b).length=n:=by unfold toL; simp
def kO (c:List Spx) (b:List Nat):MapV:=⟨jq c,toL (jq c).length b⟩
theorem sj {c:List Spx} {b:List Nat} (hc:aJ c=0) (hl:c.length ≤ 30):dI (kO c b)=0:=by
 obtain ⟨c1,c2,c3,c4⟩:=bA hc
 have hV:(jq c).length ≤ 4096:=by
  have h1:=gz (K:=bl) (l:=c.flatten)
  have h2:=mT (l:=c) fun s h=>(bH (c2 s h)).2.1
  unfold jq; omega
 refine wR hV sk (go iO _) (fun v hv=>?_) (fun v hv=>?_)
 ·obtain ⟨s,s1,s2⟩:=nX.1 hv
  exact (bH (c2 s s1)).2.2.2 v s2
 ·unfold kO toL at hv
  obtain ⟨i,_,rfl⟩:=List.mem_map.1 hv
  unfold bv vtN
  have h1:nby b i % 3 < 3:=Nat.mod_lt _ (by omega)
  have h2:nby b i / 3 % 3 < 3:=Nat.mod_lt _ (by omega)
  simp only [Bool.and_eq_true,decide_eq_true_eq]
  omega
theorem rc {c:List Spx} {b:List Nat}:c.all (bU (kO c b))=true:=List.all_eq_true.2 fun s hs=>fX.2 fun v hv=>nX.2 ⟨s,hs,hv⟩
theorem rh {m:MapV} {c:List Spx} {s t:Spx} (hm:dI m=0) (hc:aJ c=0) (ht:c.all (bU m)=true) (hs:s ∈ c) (hts:∀ v ∈ t,v ∈ s) (hne:t ≠ []) :
    dS c t ≠ []∧dS (eJ (c.map (bR m))) (bR m t) ≠ []∧iI m (dS c t) (dS (eJ (c.map (bR m))) (bR m t))=(true,0):=by
 obtain ⟨i1,i2⟩:=lJ hm hc ht
 have hhas:∀ x ∈ c,∃ u ∈ eJ (c.map (bR m)),∀ v ∈ bR m x,v ∈ u:=fun x hx=>by
  obtain ⟨u,u1,u2⟩:=List.any_eq_true.1 (nM (m:=m) hc hx (y:=x) fun v hv=>hv)
  exact ⟨u,u1,bO.1 u2⟩
 refine ⟨List.ne_nil_of_mem (fA.2 ⟨hs,hts⟩),?_,?_⟩
 ·obtain ⟨u,u1,u2⟩:=hhas s hs
  exact List.ne_nil_of_mem (fA.2 ⟨u1,fun v hv=>u2 v (lf hts v hv)⟩)
 ·unfold iI
  rw [if_neg (fun h=>h hm),if_neg (fun h=>h (dt hc)),if_neg (fun h=>h (dt i2))]
  have htot:(dS c t).all (bU m)=true:=List.all_eq_true.2 fun f hf=>List.all_eq_true.1 ht f (fA.1 hf).1
  rw [if_neg (by rw [htot]; decide)]
  congr 1
  rw [List.all_eq_true]
  intro g hg
  obtain ⟨f,f1,rfl⟩:=List.mem_map.1 hg
  obtain ⟨f2,f3⟩:=fA.1 f1
  obtain ⟨u,u1,u2⟩:=hhas f f2
  exact List.any_eq_true.2 ⟨u,fA.2 ⟨u1,fun v hv=>u2 v (lf f3 v hv)⟩,bO.2 u2⟩
end Go.Proofs.YtpfkjcjgdilkkaaGreat
namespace Go.Proofs.YtpfkjcjgdilkkaaGreat
open Go Go.Abs
attribute [local irreducible] aD ah aX aP aH aK az aL aR be Go.Abs.Fn aO Go.Abs.Pure ar aE Yl
end Go.Proofs.YtpfkjcjgdilkkaaGreat
namespace Go.Proofs.YtpfkjcjgdilkkaaGreat
open Go Go.Abs
attribute [local irreducible] aD ah aX aP aH aK az aL aR be Go.Abs.Fn aO Go.Abs.Pure ar aE Yl
end Go.Proofs.YtpfkjcjgdilkkaaGreat
namespace Go.Proofs.YtpfkjcjgdilkkaaGreat
open Go Go.Abs
attribute [local irreducible] aD ah aX aP aH aK az aL aR be Go.Abs.Fn aO Go.Abs.Pure ar aE Yl
end Go.Proofs.YtpfkjcjgdilkkaaGreat
namespace Go.Proofs.YtpfkjcjgdilkkaaGreat
open Go Go.Abs
attribute [local irreducible] aD ah aX aP aH aK az aL aR be Go.Abs.Fn aO Go.Abs.Pure ar aE Yl
end Go.Proofs.YtpfkjcjgdilkkaaGreat
namespace Go.Proofs.YtpfkjcjgdilkkaaGreat
open Go Go.Abs
def Ah:List (Nat × F2):=[(5,b5),(19,b19),(8,b8),(20,b20),(31,b31),(32,b32),(33,b33),(58,b58),(59,b59),(37,b37),(75,b75),(65,b65),(25,b25),(26,b26),(27,b27),(28,b28),(29,b29),(72,b72),(73,b73),(74,b74),(76,b76),(49,b49),(77,b77),(66,b66),(45,b45),(93,b93),(79,b79),(69,b69),(71,b71),(44,b44),(30,b30),(67,b67),(68,b68),(105,wX),(104,xh),(87,b87),(99,b99),(100,yP),(103,wJ),(83,b83),(70,b70),(101,y5),(102,zf),(122,wA),(123,zG),(124,yT),(125,yR),(126,yz),(127,zn),(128,zy),(129,y8),(120,AN),(121,wO),(110,yr),(112,wM),(113,yB),(114,zh),(115,y6),(116,yM),(117,zC),(118,yp),(119,yE),(111,yh),(137,yw),(133,zq),(134,yN),(138,yZ),(139,zc),(132,zs),(135,yL),(136,zi),(144,ze),(143,yu)]
theorem Aa:gw Tryz.prog (lookup Ah) :=
 (am is5 (am Bh (am is8 (am AH (am AO (am zR (am AP (am Be (am BB (am Ai (am zV (am z9 (am As (am zP (am zN (am zK (am zZ (am Aw (am Am (am zU (am yU (am AD (am za (am AR (am zQ (am Bu (am z6 (am zu (am yx (am z8 (am Ax (am AK (am Az (am wa (am uN (am Ar (am Ac (am xJ (am uJ (am Ay (am AS (am xM (am xY (am vI (am xF (am xx (am xz (am xm (am xq (am xE (am xu (am zI (am wi (am xH (am uZ (am yg (am x8 (am xK (am xU (am xS (am x9 (am xZ (am ye (am xI (am xO (am ya (am xG (am xy (am xX (am yc (am xV (am xo (am x6 tC)))))))))))))))))))))))))))))))))))))))))))))))))))))))))))))))))))))))))
set_option maxRecDepth 100000 in
theorem iQ:Go.Abs.Pure Tryz.prog 5 [] (.bool true):=Pure.of_run follows Aa (pf:=xR [20]) (n:=2000) (good:=isTrue) (by decide +kernel) tn
end Go.Proofs.YtpfkjcjgdilkkaaGreat
namespace Go.Proofs.YtpfkjcjgdilkkaaGreat
open Go Go.Abs
theorem xt {n:Nat} (h:n < 256):IntKind.wrap .i64 (n:Int)=n:=jU (by omega) (by omega)
attribute [local irreducible] aD ah aX aP aH aK az aL aR be Go.Abs.Fn aO Go.Abs.Pure ar aE Yl
theorem uv (c:List Spx) (b:List Nat) (hc:aJ c=0) (hl:c.length ≤ 30) (hb:b.length ≤ 1000) (hb8:∀ n ∈ b,n < 256):Pure Tryz.prog 7 [c9 c,pg b] (.tup [pe (kO c b),.int .i64 0]):=by
 refine Pure.of_c2 follows is7 (Nat.le_of_ble_eq_true rfl) ?_
 simp only [b7,cO,cG,cN,cM,cD,cF,cB,ax,aN]
 have hv:=qy c (by omega) (lk hc)
 rw [if_pos hc,hc] at hv
 have hV:(jq c).length ≤ 100000:=by have:=(iG (sj (b:=b) hc hl)).1; show _ ≤ _; exact Nat.le_trans this (by omega)
 unfold kO
 change Pure Tryz.prog 24 [c9 c] (.tup [aq (jq c),.int .i64 0]) at hv
 generalize jq c=V at *
 (have zz:=aI @aB (aI @av (aI @a9 (aI @aQ @ak))); repeat' (first|refine zW ?_|apply a_n|refine zO ?_|refine vY ?_|refine cY ?_ (hp:=hv) (hs:=by (first | refine aa ?_ rfl | apply ac); (repeat' (first | exact ab | apply ag | apply ae | exact br _)); first | done | fail)|refine alY ?_|refine bxY ?_|refine stY ?_|fail)) <;> (try clear zz)
 refine aS (X:=Nat × AV) (fun x=>[(1,pg b),(4,.ptr 1 2 0),(7,.int .i64 0),(8,.ptr 2 2 0),(18,aq V),(19,.int .i64 V.length),(20,.int .i64 x.1)]) (fun x H nx=>x.1 ≤ V.length∧3 ≤ nx∧H 1=some [.esl,.esl]∧H 2=some [aq V,x.2]∧Row H 2 x.2 (cX (toL x.1 b))∧∀ d,dB x.2=some d→3 ≤ d∧d < nx) (fun x=>V.length - x.1) (0,.esl) ⟨Nat.zero_le _,Nat.le_refl _,by (repeat rw [al (by omega)]); rw [ai],by rw [ai]; rfl,Row.nil,fun d h=>(by cases h)⟩ (by (iterate 7 refine And.intro rfl ?_); trivial) ?_
 rintro ⟨k,sv⟩ H nx ⟨k1,k2,g1,g2,hrow,hbd⟩
 dsimp only at k1 g2 hrow hbd ⊢
 obtain ⟨o1,o2⟩:=hrow.one
 by_cases hk:k < V.length
 rotate_left
 ·obtain rfl:k=V.length:=by omega
  (have zz:=aI @g1 (aI @g2 (aI @o1 (aI @o2 (aI @a9 @aQ)))); repeat' (first|refine zW ?_|apply a_n|apply a_x|refine zO ?_|refine vY ?_|refine stY ?_|(refine zGY ?_ ?_ <;> (intro _hg; try (exfalso; omega)))|refine af rfl ?_|refine r2Y ?_|fail)) <;> (try clear zz)
  exact zE (aw _).snap (rW (hrow.same fun d hd=>al (by have:=hbd d hd; omega))) rfl
 have hts:=vP (n:=k) (b:=b)
 have hcl:(cX (toL k b)).length=k * 2:=by rw [dZ,sk]
 have hfin:∀ (s2:AV) (H2:Hp) (nx2:Nat),Row H2 2 s2 (cX (toL k b) ++ cX [vtN (nby b k)])→nx ≤ nx2→(∀ x,x < nx→dB sv ≠ some x→H2 x=H x)→(∀ d,dB s2=some d→dB sv=some d ∨ nx ≤ d∧d < nx2)→Row (aj H2 2 [aq V,s2]) 2 s2 (cX (toL (k + 1) b))∧(∀ d,dB s2=some d→3 ≤ d∧d < nx2)∧aj H2 2 [aq V,s2] 1=some [.esl,.esl]∧H2 2=some [aq V,sv]:=fun s2 H2 nx2 r1 r2 r3 r4=>by
  have hd2:∀ d,dB s2=some d→3 ≤ d∧d < nx2:=fun d hd=>by
   rcases r4 d hd with h | h
   ·have:=hbd d h; omega
   ·omega
  refine ⟨?_,hd2,?_,?_⟩
  ·rw [hts,gR]
   exact r1.same fun d hd=>al (by have:=hd2 d hd; omega)
  ·rw [al (by omega),r3 1 (by omega) (fun h=>by have:=hbd _ h; omega)]; exact g1
  ·rw [r3 2 (by omega) (fun h=>by have:=hbd _ h; omega)]; exact g2
 have hn:nby b k < 256:=by
  unfold nby
  split
  ·omega
  ·exact hb8 _ (aA (Nat.mod_lt _ (by omega)))
 have hn':nby b k=nby b k:=rfl
 have hr1:∀ tb tf,aU .rem tb tf (.int .i64 ((nby b k:Nat):Int)) (.int .i64 3)=some (.int .i64 ((nby b k % 3:Nat):Int)):=fun _ _=>(lg (by omega) (by omega)).trans (by rw [show ((nby b k:Nat):Int) % 3=((nby b k % 3:Nat):Int) by omega])
 have hq1:∀ tb tf,aU .quo tb tf (.int .i64 ((nby b k:Nat):Int)) (.int .i64 3)=some (.int .i64 ((nby b k / 3:Nat):Int)):=fun _ _=>(eH (by omega) (by omega) (by omega)).trans (by rw [show ((nby b k:Nat):Int) / 3=((nby b k / 3:Nat):Int) by omega])
 have hr2:∀ tb tf,aU .rem tb tf (.int .i64 ((nby b k / 3:Nat):Int)) (.int .i64 3)=some (.int .i64 ((nby b k / 3 % 3:Nat):Int)):=fun _ _=>(lg (by omega) (by omega)).trans (by rw [show ((nby b k / 3:Nat):Int) % 3=((nby b k / 3 % 3:Nat):Int) by omega])
 have hvn:cX [vtN (nby b k)]=[.int .i64 ((nby b k % 3:Nat):Int),.int .i64 ((nby b k / 3 % 3:Nat):Int)]:=rfl
 by_cases hb0:b.length=0
 ·have zb:decide ((0:Int) < b.length)=false:=decide_eq_false (by omega)
  have e0:nby b k=0:=by unfold nby; rw [if_pos hb0]
  rw [e0] at hvn hfin
  have q0:∀ tb tf,aU .rem tb tf (.int .i64 0) (.int .i64 3)=some (.int .i64 0):=fun _ _=>rfl
  have q1:∀ tb tf,aU .quo tb tf (.int .i64 0) (.int .i64 3)=some (.int .i64 0):=fun _ _=>rfl
  have hvn:cX [vtN 0]=[.int .i64 0,.int .i64 0]:=rfl
  rw [hvn] at hfin
  (have zz:=aI @iR (aI @zb (aI @g2 (aI @q0 (aI @q1 (aI @o1 (aI @o2 (aI @a9 @aQ))))))); repeat' (first|refine zW ?_|apply a_n|refine zO ?_|refine vY ?_|refine blY ?_|refine cFY ?_|(refine zGY ?_ ?_ <;> (intro _hg; try (exfalso; omega)))|fail)) <;> (try clear zz)
  refine iT rfl ev0 (hrow.same fun d hd=>?_) ev0 hU rfl rfl (by omega) (by omega) (by omega) ?_
  ·have:=hbd d hd; rw [al (by omega)]
  rintro s2 H2 nx2 r1 r2 r3 r4 r5
  obtain ⟨u1,u2,u3,u4⟩:=hfin s2 H2 nx2 r1 (by omega) (fun x hx hne=>(r4 x (by omega) hne).trans (al (by omega))) (fun d hd=>(r5 d hd).imp id fun h=>⟨by omega,by omega⟩)
  obtain ⟨o3,o4⟩:=r1.one
  (have zz:=aI @u4 (aI @o3 @o4); repeat' (first|apply a_n|refine zO ?_|refine vY ?_|refine stY ?_|fail)) <;> (try clear zz)
  exact ⟨(k + 1,s2),by dsimp only; omega,⟨by dsimp only; omega,by omega,u3,by rw [ai]; rfl,u1,u2⟩,ag0⟩
 have zb:decide ((0:Int) < b.length)=true:=decide_eq_true (by omega)
 have hrm:∀ tb tf,aU .rem tb tf (.int .i64 (k:Int)) (.int .i64 (b.length:Int))=some (.int .i64 ((k % b.length:Nat):Int)):=fun _ _=>(lg (by omega) (by omega)).trans (by rw [Int.natCast_emod])
 have ix:=ixU (l:=b) (k:=k % b.length) (Nat.mod_lt _ (by omega))
 have e0:b.getD (k % b.length) default=nby b k:=by unfold nby; rw [if_neg hb0]
 rw [e0] at ix
 have hcv:=xt hn
 rw [hvn] at hfin
 (have zz:=aI @iR (aI @zb (aI @g2 (aI @hrm (aI @ix (aI @hcv (aI @hr1 (aI @hq1 (aI @hr2 (aI @o1 (aI @o2 (aI @a9 @aQ))))))))))); repeat' (first|refine zW ?_|apply a_n|refine zO ?_|refine vY ?_|refine blY ?_|refine cTY ?_|(refine zGY ?_ ?_ <;> (intro _hg; try (exfalso; omega)))|fail)) <;> (try clear zz)
 refine iT rfl ev0 (hrow.same fun d hd=>?_) ev0 hU rfl rfl (by omega) (by omega) (by omega) ?_
 ·have:=hbd d hd; rw [al (by omega)]
 rintro s2 H2 nx2 r1 r2 r3 r4 r5
 obtain ⟨u1,u2,u3,u4⟩:=hfin s2 H2 nx2 r1 (by omega) (fun x hx hne=>(r4 x (by omega) hne).trans (al (by omega))) (fun d hd=>(r5 d hd).imp id fun h=>⟨by omega,by omega⟩)
 obtain ⟨o3,o4⟩:=r1.one
 (have zz:=aI @u4 (aI @o3 @o4); repeat' (first|apply a_n|refine zO ?_|refine vY ?_|refine stY ?_|fail)) <;> (try clear zz)
 exact ⟨(k + 1,s2),by dsimp only; omega,⟨by dsimp only; omega,by omega,u3,by rw [ai]; rfl,u1,u2⟩,ag0⟩
end Go.Proofs.YtpfkjcjgdilkkaaGreat
namespace Go.Proofs.YtpfkjcjgdilkkaaGreat
open Go Go.Abs
theorem sT {s:Spx} {k:Nat} (h:bo s=0) (hk:0 < k):bo (s.take k)=0:=by
 obtain ⟨p1,p2,p3,p4⟩:=bH h
 have hs:=List.take_sublist k s
 exact pW ⟨by rw [List.length_take]; omega,by rw [List.length_take]; omega⟩ (p3.sublist hs) fun v hv=>p4 v (hs.subset hv)
attribute [local irreducible] aD ah aX aP aH aK az aL aR be Go.Abs.Fn aO Go.Abs.Pure ar aE Yl
set_option maxHeartbeats 2000000 in
theorem rK (c:List Spx) (b:List Nat) (w:Nat) (hc:Shn c∧∀ s ∈ c,Shn s) (hb:b.length ≤ 1000000000000000∧∀ n ∈ b,n < 256) (hw:w < 256):Pure Tryz.prog 3 [c9 c,pg b,.int .u8 w] (.bool true):=by
 refine Pure.of_c2 follows is3 (Nat.le_of_ble_eq_true rfl) ?_
 simp only [b3,cO,cG,cN,cM,cD,cF,cB,ax,aN]
 have hc':c.length ≤ 17592186044416:=hc.1
 have hb':b.length ≤ 1000000000000000:=hb.1
 have f1:=yH c hc
 cases e1:va c
 ·rw [e1] at f1
  (have zz:=aI @aB @av; repeat' (first|refine zW ?_|apply a_n|apply a_r|refine zO ?_|refine vY ?_|refine cY ?_ (hp:=by first | exact f1 | exact iQ) (hs:=by (first | refine aa ?_ rfl | apply ac); (repeat' (first | exact ab | apply ag | apply ae | exact br _)); first | done | fail)|refine bxY ?_|refine gFY ?_|refine cTY ?_|refine cFY ?_|refine af rfl ?_|refine r1Y ?_|fail)) <;> (try clear zz)
  exact .bool _
 rw [e1] at f1
 obtain ⟨t1,t2,t3,t4⟩:=vE e1
 by_cases hl:40 < b.length
 ·have z:decide ((40:Int) < b.length)=true:=decide_eq_true (by omega)
  (have zz:=aI @aB (aI @av (aI @iR @z)); repeat' (first|refine zW ?_|apply a_n|apply a_r|refine zO ?_|refine vY ?_|refine cY ?_ (hp:=by first | exact f1 | exact iQ) (hs:=by (first | refine aa ?_ rfl | apply ac); (repeat' (first | exact ab | apply ag | apply ae | exact br _)); first | done | fail)|refine bxY ?_|refine gTY ?_|refine gFY ?_|refine cTY ?_|refine cFY ?_|refine af rfl ?_|refine r1Y ?_|fail)) <;> (try clear zz)
  exact .bool _
 have zl:decide ((40:Int) < b.length)=false:=decide_eq_false (by omega)
 by_cases h0:c.length=0
 ·have z:decide ((c.length:Int)=0)=true:=decide_eq_true (by omega)
  (have zz:=aI @aB (aI @av (aI @ao (aI @iR (aI @zl @z)))); repeat' (first|refine zW ?_|apply a_n|apply a_r|refine zO ?_|refine vY ?_|refine cY ?_ (hp:=by first | exact f1 | exact iQ) (hs:=by (first | refine aa ?_ rfl | apply ac); (repeat' (first | exact ab | apply ag | apply ae | exact br _)); first | done | fail)|refine bxY ?_|refine gTY ?_|refine cTY ?_|refine cFY ?_|refine af rfl ?_|refine r1Y ?_|fail)) <;> (try clear zz)
  exact .bool _
 have z1:decide ((c.length:Int)=0)=false:=decide_eq_false (by omega)
 have hm:=sj (b:=b) t2 (show c.length ≤ 30 by omega)
 have ht:=rc (c:=c) (b:=b)
 have hmS:ShM (kO c b):=by
  obtain ⟨p1,p2,p3,p4,p5⟩:=iG hm
  exact ⟨show _ ≤ _ by omega,show _ ≤ _ by omega⟩
 have s1:=uv c b t2 (by omega) (by omega) hb.2
 have s2:=wQ (kO c b) c hmS hc.1 hc.2
 rw [vO hm t2 ht] at s2
 have hconv:=xt hw
 have hrm:∀ tb tf,aU .rem tb tf (.int .i64 (w:Int)) (.int .i64 (c.length:Int))=some (.int .i64 ((w % c.length:Nat):Int)):=fun _ _=>(lg (by omega) (by omega)).trans (by rw [Int.natCast_emod])
 have hwl:w % c.length < c.length:=Nat.mod_lt _ (by omega)
 have ix:=eT hwl
 have hsm:=aY hwl
 have z0:decide ((0:Int) + 0 ≠ 0)=false:=rfl
 obtain ⟨i1,i2⟩:=lJ hm t2 ht
 have hstar:=fun {s t:Spx}=>rh (m:=kO c b) (c:=c) (s:=s) (t:=t) hm t2 ht
 have hIl:(eJ (c.map (bR (kO c b)))).length ≤ 1000000:=by
  have:=qR (l:=c.map (bR (kO c b)))
  rw [List.length_map] at this; omega
 have htot:=fun s hs=>List.all_eq_true.1 ht s hs
 generalize c.getD (w % c.length) default=s at *
 generalize eJ (c.map (bR (kO c b)))=I at *
 generalize kO c b=m at *
 dsimp only at s2
 have d1:Dat (.agg [aq m.fr,aq m.to]):=jd m
 (have zz:=aI @aB (aI @av (aI @a9 (aI @aQ (aI @ao (aI @ak (aI @iR (aI @zl (aI @z0 (aI @z1 (aI @hconv (aI @hrm @ix))))))))))); repeat' (first|refine zW ?_|apply a_n|refine zO ?_|refine vY ?_|refine cY ?_ (hp:=by first | exact f1 | exact s1 | exact s2 | exact iQ) (hs:=by (first | refine aa ?_ rfl | apply ac); (repeat' (first | exact ab | apply ag | apply ae | exact br _ | exact qC _ | exact d1)); first | done | fail)|refine alY ?_|refine bxY ?_|refine stY ?_|refine gTY ?_|refine cFY ?_|fail)) <;> (try clear zz)
 have hse:=(bA t2).2.1 s hsm
 obtain ⟨x1,x2,x3,x4⟩:=bH hse
 refine aS (X:=Nat) (fun i=>[(3,.ptr 0 1 0),(7,.ptr 1 2 0),(9,.ptr 2 1 0),(11,aq s),(64,aq s),(65,.int .i64 s.length),(66,.int .i64 i)]) (fun i H nx=>i ≤ s.length∧3 ≤ nx∧H 0=some [aC c]∧H 1=some [aq m.fr,aq m.to]∧H 2=some [aC I]) (fun i=>s.length - i) 0 ⟨Nat.zero_le _,Nat.le_refl _,by (repeat rw [al (by omega)]); rw [ai],by (repeat rw [al (by omega)]); rw [ai]; rfl,by rw [ai]; rfl⟩ (by (iterate 7 refine And.intro rfl ?_); trivial) ?_
 rintro i H nx ⟨k1,k2,g0,g1,g2⟩
 clear s1 s2 f1
 by_cases hi:i < s.length
 rotate_left
 ·(have zz:=and_self; repeat' (first|refine zW ?_|apply a_n|apply a_x|refine zO ?_|refine vY ?_|(refine zGY ?_ ?_ <;> (intro _hg; try (exfalso; omega)))|refine af rfl ?_|refine r1Y ?_|fail)) <;> (try clear zz)
  exact .bool _
 have hsl:gd 2 (aq s) none (some (.int .i64 ((i:Int) + 1))) none=some (aq (s.take (i + 1))):=o6 (k:=i + 1) (by omega)
 have hte:=sT (k:=i + 1) hse (by omega)
 have htsub:∀ v ∈ s.take (i + 1),v ∈ s:=fun v hv=>List.mem_of_mem_take hv
 have htne:s.take (i + 1) ≠ []:=fun e=>by have:=congrArg List.length e; rw [List.length_take,List.length_nil] at this; omega
 generalize s.take (i + 1)=t at *
 have hst:=htot s hsm
 have htt:bU m t=true:=fX.2 fun v hv=>fX.1 hst v (htsub v hv)
 obtain ⟨y1,y2,y3⟩:=hstar hsm htsub htne
 have hie:=gU hm hte htt
 have hise:=gU hm hse hst
 have a1:=sO m t hmS (show _ ≤ _ by have:=(fY hte).2; omega)
 rw [qB hm hte htt] at a1
 have a2:=sO m s hmS (show _ ≤ _ by omega)
 rw [qB hm hse hst] at a2
 have a3:=wq c t t2 hte y1
 have a4:=wq I (bR m t) i2 hie y2
 have hsc:=dt (s:=t) t2
 have hsi:=dt (s:=bR m t) i2
 have a5:=oC m (dS c t) (dS I (bR m t)) hmS (show _ ≤ _ by have:=(bA hsc).1; omega) (lk hsc) (show _ ≤ _ by have:=(bA hsi).1; omega) (lk hsi)
 rw [y3] at a5
 have a6:=wL (bR m t) (bR m s) hie hise
 rw [bO.2 (lf htsub)] at a6
 dsimp only at a1 a2 a5
 generalize bR m t=it at *
 generalize bR m s=is at *
 generalize dS c t=S1 at *
 generalize dS I it=S2 at *
 (have zz:=aI @aB (aI @av (aI @a9 (aI @aQ (aI @hsl (aI @z0 (aI @g0 (aI @g1 @g2))))))); repeat' (first|refine zW ?_|apply a_n|refine zO ?_|refine vY ?_|refine cY ?_ (hp:=by first | exact a1 | exact a2 | exact a3 | exact a4 | exact a5 | exact a6) (hs:=by (first | refine aa ?_ rfl | apply ac); (repeat' (first | exact ab | apply ag | apply ae | exact br _ | exact aw _ | exact d1)); first | done | fail)|refine alY ?_|refine stY ?_|refine gTY ?_|refine cFY ?_|(refine zGY ?_ ?_ <;> (intro _hg; try (exfalso; omega)))|fail)) <;> (try clear zz)
 exact ⟨i + 1,by omega,⟨by omega,by omega,by (repeat rw [al (by omega)]); exact g0,by (repeat rw [al (by omega)]); exact g1,by (repeat rw [al (by omega)]); exact g2⟩,ag0⟩
end Go.Proofs.YtpfkjcjgdilkkaaGreat
namespace Go.Proofs.YtpfkjcjgdilkkaaGreat
open Go Go.Abs Go.RowKit
section
variable {H:Type} {enc:TypeId × Value→H} {W:World}
theorem oi:cS enc Tryz.prog W 3 (AV.int .i64) (fun n=>(Lit.int .i64 n).wf=true):=n5 Tryz.underlying3
set_option maxRecDepth 100000 in
theorem A6:cS enc Tryz.prog W 55 bf (fun _=>True) :=
 (iS Tryz.underlying55 (by kernel_rfl) (gO (off:=0) (off':=1) rfl (by kernel_rfl) oi (gO (off:=1) (off':=2) rfl (by kernel_rfl) oi nf))).map
  (fun a=>(⟨a.1,a.2.1⟩:Vtx)) (fun _ _=>trivial) (fun _ _=>rfl)
theorem oXs:cS enc Tryz.prog W 28 aq Shn :=
 (gJ Tryz.underlying28 (sz:=2) (by_:=16) (by kernel_rfl) (by kernel_rfl) (by omega) (fun _=>rfl) A6).mono fun l h=>by have:=h.2.2; show _ ≤ _; omega
theorem Bb:cS enc Tryz.prog W 22 aC (fun l=>Shn l∧∀ x ∈ l,Shn x) :=
 (gJ Tryz.underlying22 (sz:=1) (by_:=24) (by kernel_rfl) (by kernel_rfl) Nat.one_pos (fun _=>rfl) oXs).mono fun l h=>⟨by have:=h.2.2; show _ ≤ _; omega,h.1⟩
set_option maxRecDepth 100000 in
theorem oCx:cS enc Tryz.prog W 24 c9 (fun l=>Shn l∧∀ x ∈ l,Shn x) :=
 (iS Tryz.underlying24 (by kernel_rfl) (gO (off:=0) (off':=1) rfl (by kernel_rfl) Bb nf)).map
  (fun a=>a.1) (by rintro ⟨n,u⟩ ⟨h1,_⟩; exact h1) (fun _ _=>rfl)
end
theorem lv {f:FuncId} {xs:List AV} {vs:List Value} (h:Go.Abs.Pure Tryz.prog f xs (.bool true)) (w:World) (hv:bV (E0 (ny w)) w xs vs) :
    Calls Tryz.prog f vs.toArray w fun e w'=>e=.returned (.bool true)∧Below w.heap.size w w':=by
 refine (h.2 (ny w) w vs (fun _ h=>h) hv).mono ?_
 rintro e w' ⟨v,imm',rfl,hb,_,_,_,hr⟩
 cases hr
 exact ⟨rfl,hb⟩
theorem A1:laidOutB Tryz.prog=true:=by kernel_rfl
end Go.Proofs.YtpfkjcjgdilkkaaGreat
namespace Go.Proofs.YtpfkjcjgdilkkaaGreat
open Go Go.Abs Go.RowKit
theorem wf8 {n:Int} (h:(Lit.int .u8 n).wf=true):0 ≤ n∧n < 256:=by
 simp only [Lit.wf,Bool.and_eq_true,decide_eq_true_eq] at h
 have h1:IntKind.min .u8=0:=by decide
 have h2:IntKind.max .u8=255:=by decide
 omega
section
variable {H:Type} {enc:TypeId × Value→H} {W:World}
theorem ou8:cS enc Tryz.prog W 5 (fun n:Nat=>AV.int .u8 (n:Int)) (fun n=>n < 256) :=
 (n5 Tryz.underlying5).map (fun n=>n.toNat) (fun n h=>by
  have h2:=wf8 h
  omega) (fun n h=>by
  have h2:=wf8 h
  rw [Int.toNat_of_nonneg h2.1])
end
end Go.Proofs.YtpfkjcjgdilkkaaGreat
namespace Go.Proofs.YtpfkjcjgdilkkaaGreat
open Go Go.Abs Go.RowKit
section
variable {H:Type} {enc:TypeId × Value→H} {W:World}
theorem oU:cS enc Tryz.prog W 25 pg (fun l=>l.length ≤ 1000000000000000∧∀ n ∈ l,n < 256) :=
 (gJ Tryz.underlying25 (sz:=1) (by_:=1) (by kernel_rfl) (by kernel_rfl) Nat.one_pos (fun _=>rfl) ou8).mono fun l h=>⟨by have:=h.2.2; show _ ≤ _; omega,h.1⟩
end
end Go.Proofs.YtpfkjcjgdilkkaaGreat
namespace Go.Proofs.YtpfkjcjgdilkkaaGreat
open Go Go.Abs Go.RowKit Go.ChangeShapes Go.WideShapes Go.ChangeAt
theorem ns {H:Type} {enc:TypeId × Value→H} {P:Program} {f:Func} {s:ChangeSpec} {apart fresh handsOn again:Bool} {W W':World} {args:Array Value} {v:Value} {ds gs:List (DataW H)} {before pa pv:List MemPlace}
    (hW:DataW.Whole enc P f.params.toList s.vars apart W args.toList ds gs before)
    (hres:∀ (b:Nat) (sp:Nat→Bool) (hd:Bool),DataW.TrodAll enc P W' b sp hd f.resultTypes.toList (v.resultList f.resultTypes.size) (s.fn H (ds ++ gs)).results [])
    (hargs:∀ sp:Nat→Bool,(∀ p ∈ before,sp p.block=true)→DataW.TrodAll enc P W' 0 sp true f.params.toList args.toList (s.fn H (ds ++ gs)).args pa)
    (hvars:∀ sp:Nat→Bool,(∀ p ∈ before,sp p.block=true)→DataW.TrodVars enc P W' sp s.vars (s.fn H (ds ++ gs)).vars pv)
    (hps:before=pa ++ pv) (hb:Below W.heap.size W W')
    (hok:∀ (j:Nat) (t:TypeId) (r:Value),f.resultTypes[j]?=some t→(v.resultList f.resultTypes.size)[j]?=some r→Value.okWide P W' .any 0 t r) :
    s.post enc P f apart fresh handsOn again W args v W':=by
 have hold:∀ p ∈ before,(fun b=>decide (b < W.heap.size)) p.block=true:=fun p hp=>by simpa using hW.lt p hp
 have hlt:=fun p hp=>hW.lt p hp
 refine ⟨ds,gs,before,[],pa,pv,hW,hres _ _ _,hargs _ hold,hvars _ hold,World.keptBut_mono (fun p hp=>⟨hp,?_⟩) (hb.frame _),fun _=>?_⟩
 ·rw [hps,List.mem_append] at hp
  exact Or.inr hp
 ·obtain ⟨_,_,_,_,_,hz,hn⟩:=hW
  refine ⟨hok,_,_,([] ++ pa) ++ pv,⟨[] ++ pa,pv,trodAll_append (hargs _ (fun _ _=>rfl)) (hres _ _ _),hvars _ (fun _ _=>rfl),rfl,?_,?_⟩,?_⟩
  ·intro b off hp
   have hp':MemPlace.cell b off ∈ before:=by rw [hps]; simpa using hp
   rw [hb.frozen (hlt _ hp')]
   exact hz b off hp'
  ·intro ha
   have:=hn ha
   rw [hps] at this
   simpa using this
  ·intro p hp _
   rw [hps]
   simpa using hp
theorem uB {E:Env} {w:World}:bV E w [] []:=⟨rfl,fun i x y h=>(by cases h)⟩
theorem j7 {E:Env} {w:World} {x:AV} {y:Value} {xs:List AV} {ys:List Value} (h:Rel E w x y) (hs:bV E w xs ys):bV E w (x :: xs) (y :: ys):=by
 refine ⟨by simp [hs.1],fun i a b ha hb=>?_⟩
 cases i with
 | zero=>simp at ha hb; subst ha hb; exact h
 | succ i=>simp at ha hb; exact hs.2 i a b ha hb
theorem own:ownKnob Tryz.prog.godebug=none:=by kernel_rfl
end Go.Proofs.YtpfkjcjgdilkkaaGreat