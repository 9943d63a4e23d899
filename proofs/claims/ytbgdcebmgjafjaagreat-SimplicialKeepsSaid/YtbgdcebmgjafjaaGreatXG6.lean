/- Texts of this claim, one after the other: U13p, T106, T109, T110, T111, T112, T113, T114, T115, T116, T117, T119, T124, T125, T120, T123, T126, T127, T128, T129, T130, T131, T132, T134, T146, T135, T136, T137, T138, T139, T140, T141, T142, T143, A33, T122, T133, T144, T147, T148, T149, T121. -/
import Derived.Test.YtbgdcebmgjafjaaGreatXG5
import Derived.Test.YtbgdcebmgjafjaaGreatXG4
import Derived.Test.YtbgdcebmgjafjaaGreatXG3
import Derived.Test.YtbgdcebmgjafjaaGreatRows
import Derived.WalkKit
import Derived.ProofKit
import Derived.OpenShut

set_option linter.unusedSimpArgs false
set_option linter.unusedVariables false
namespace Go.Proofs.YtbgdcebmgjafjaaGreat
open Go Go.Abs
open Nat (reduceEqDiff reduceAdd reduceLeDiff)
section
variable {α:Type} [Inhabited α] {f:α→AV} {K:α→α→Int} {G:α→Prop} {g:Nat} {caps:List AV}
attribute [local irreducible] aF ak be aY aL aO aB aP a7 bt Go.Abs.Fn aW Go.Abs.Pure aw aK Yl
theorem zd {H:Hp} {nx:Nat}:Abs.Fn Tryz.prog 132 [.esl,.int .i64 0,.int .i64 0,.func g caps] H nx fun r H' nx'=>nx'=nx∧H'=H:=by
 refine Abs.Fn.of_c2 follows wj (Nat.le_of_ble_eq_true rfl) ?_
 simp only [xK,cO,cG,cN,cM,cD,cF,cB,aq,aH]
 (have zz:=and_self; repeat' (first|refine zW ?_|apply a_n|refine zO ?_|refine vZ ?_|fail)) <;> (try clear zz)
 refine aN (X:=Unit) (fun x=>[(0,.esl),(1,.int .i64 0),(2,.int .i64 0),(3,.func g caps),(8,.int .i64 1)]) (fun x H' nx'=>H'=H∧nx'=nx) (fun x=>0) () ⟨rfl,rfl⟩ (by simp (disch:=omega) only [agr,ZG,reduceEqDiff,↓reduceIte,Int.zero_add,true_and]) ?_
 rintro _ _ _ ⟨rfl,rfl⟩
 (have zz:=and_self; repeat' (first|refine zW ?_|apply a_n|apply a_x|refine zO ?_|refine vZ ?_|(refine zGZ ?_ ?_ <;> (intro _hg; try (exfalso; omega)))|refine ah rfl ?_|fail)) <;> (try clear zz)
 exact ⟨rfl,rfl⟩
theorem yP {H:Hp} {nx:Nat}:Abs.Fn Tryz.prog 122 [.esl,.int .i64 0,.int .i64 0,.int .i64 0,.func g caps] H nx fun r H' nx'=>nx'=nx∧H'=H:=by
 refine Abs.Fn.of_c2 follows we (Nat.le_of_ble_eq_true rfl) ?_
 simp only [xa,cO,cG,cN,cM,cD,cF,cB,aq,aH]
 (have zz:=and_self; repeat' (first|refine zW ?_|apply a_n|refine zO ?_|refine vZ ?_|fail)) <;> (try clear zz)
 refine aN (X:=Unit) (fun x=>[(0,.esl),(1,.int .i64 0),(2,.int .i64 0),(3,.int .i64 0),(4,.func g caps)]) (fun x H' nx'=>H'=H∧nx'=nx) (fun x=>0) () ⟨rfl,rfl⟩ ag0 ?_
 rintro _ _ _ ⟨rfl,rfl⟩
 (have zz:=and_self; repeat' (first|refine zW ?_|apply a_n|refine zO ?_|refine vZ ?_|(refine zGZ ?_ ?_ <;> (intro _hg; try (exfalso; omega)))|fail)) <;> (try clear zz)
 refine au ev0 ev0 zd ?_
 rintro _ _ _ ⟨rfl,rfl⟩
 (have zz:=and_self; repeat' (first|apply a_n|apply a_r|refine zO ?_|refine ah rfl ?_|fail)) <;> (try clear zz)
 exact ⟨rfl,rfl⟩
theorem vw {H:Hp} {nx:Nat}:Abs.Fn Tryz.prog 91 [.esl,.func g caps] H nx fun r H' nx'=>nx'=nx∧H'=H:=by
 refine Abs.Fn.of_c2 follows zi (Nat.le_of_ble_eq_true rfl) ?_
 simp only [b91,cO,cG,cN,cM,cD,cF,cB,aq,aH]
 have w8:IntKind.wrap .u64 0=0:=by decide
 (have zz:=@w8; repeat' (first|refine zW ?_|apply a_n|refine zO ?_|refine vZ ?_|fail)) <;> (try clear zz)
 refine au ev0 (have zz:=@w8; evZ) x5 ?_
 rintro _ _ _ ⟨rfl,rfl,rfl⟩
 (have zz:=and_self; repeat' (first|apply a_n|refine zO ?_|refine vZ ?_|fail)) <;> (try clear zz)
 refine au ev0 ev0 yP ?_
 rintro _ _ _ ⟨rfl,rfl⟩
 (have zz:=and_self; repeat' (first|apply a_n|refine zO ?_|refine ah rfl ?_|fail)) <;> (try clear zz)
 exact ⟨rfl,rfl⟩
theorem sr (hc:Cmp2 Tryz.prog f K G g caps) {L:List α} {H:Hp} {b nx n:Nat} (hH:H b=some (L.c2 f)) (hbx:b < nx) (hn:L.length=n) (hn0:0 < n) (hG:∀ x ∈ L,G x) (hn2:n ≤ 1000000000) :
    Abs.Fn Tryz.prog 91 [.msl b (n * 2) 2 0 n,.func g caps] H nx fun r H' nx'=>∃ L',PS H H' nx nx' b (L'.c2 f)∧L'.Perm L∧aJ K 0 n L':=by
 refine Abs.Fn.of_c2 follows zi (Nat.le_of_ble_eq_true rfl) ?_
 simp only [b91,cO,cG,cN,cM,cD,cF,cB,aq,aH]
 have w:IntKind.wrap .u64 (n:Int)=n:=dQ (by omega) (by omega)
 (have zz:=@w; repeat' (first|refine zW ?_|apply a_n|refine zO ?_|refine vZ ?_|fail)) <;> (try clear zz)
 refine au ev0 (have zz:=@w; evZ) (wx hn0 (by omega)) ?_
 rintro _ _ _ ⟨rfl,rfl,k,rfl,h3,h4⟩
 have hk:k ≤ 62:=by
  rcases Nat.lt_or_ge 62 k with h | h
  ·have:=Nat.pow_le_pow_right (n:=2) (by omega) h
   omega
  ·exact h
 (have zz:=and_self; repeat' (first|apply a_n|refine zO ?_|refine vZ ?_|fail)) <;> (try clear zz)
 refine au ev0 (have zz:=@Int.natCast_zero; evZ) (Bq hc hn2 (n + 1) 0 n k L _ _ (by omega) hH hbx hn hG (by omega) (Nat.le_refl _) (by omega) (fun q h=>by omega)) ?_
 rintro _ _ _ ⟨N,hps,hp,hs⟩
 (have zz:=and_self; repeat' (first|apply a_n|refine zO ?_|refine ah rfl ?_|fail)) <;> (try clear zz)
 exact ⟨N,hps,hp.perm,hs⟩
end
end Go.Proofs.YtbgdcebmgjafjaaGreat
namespace Go.Proofs.YtbgdcebmgjafjaaGreat
open Go Go.Abs
open Nat (reduceEqDiff reduceAdd reduceLeDiff)
theorem pC:∀ (l:Spx) (k:Nat),(cX l).drop (k * 2)=cX (l.drop k)
 | [],k=>by simp [cX]
 | a :: l,0=>by simp
 | a :: l,k + 1=>by
  show (kE a ++ cX l).drop _=cX (l.drop k)
  rw [show (k + 1) * 2=(kE a).length + k * 2 by show _=2 + _; omega,List.drop_append,List.drop_eq_nil_of_le (Nat.le_add_right _ _),List.nil_append,Nat.add_sub_cancel_left,pC l k]
theorem lw:∀ (l:Spx) (k:Nat),(cX l).take (k * 2)=cX (l.take k)
 | [],k=>by simp [cX]
 | a :: l,0=>by simp [cX]
 | a :: l,k + 1=>by
  show (kE a ++ cX l).take _=kE a ++ cX (l.take k)
  rw [List.take_append,List.take_of_length_le (by show 2 ≤ _; omega),show (k + 1) * 2 - (kE a).length=k * 2 by show _ - 2=_; omega,lw l k]
theorem rdX {l:Spx} {k:Nat} (hk:k < l.length):((cX l).drop (k * 2)).take 2=[.int .i64 (l.getD k default).color,.int .i64 (l.getD k default).label]:=by
 rw [pC,eR hk]; rfl
theorem BT {l:Spx} {k:Nat} {w:Vtx} (hk:k < l.length):bb (cX l) (k * 2) [.int .i64 w.color,.int .i64 w.label]=cX (l.set k w):=by
 simp only [bb,List.length_cons,List.length_nil]
 rw [show k * 2 + (0 + 1 + 1)=(k + 1) * 2 by omega,pC,lw,List.set_eq_take_append_cons_drop,if_pos hk]
 simp only [cX,List.flatMap_append,List.flatMap_cons,List.append_assoc]
 rfl
theorem lz {c:Prop} [Decidable c] {g:List AV→AV} {x:List AV}:Option.map g (if c then some x else none)=if c then some (g x) else none:=by
 split <;> rfl
theorem tY {L:Spx} {h:Nat} {x:Vtx} (hh:h < L.length):(L.set h x).take (h + 1)=L.take h ++ [x]:=by
 rw [bU (by simpa using hh),List.take_set_of_le (Nat.le_refl h)]
 simp [List.getD,hh]
theorem mw {B n len k:Nat} (h:k < len) (hn:n ≠ 0):iO 2 (.msl B n 2 0 len) (some (.int .i64 k)) none none=some (.msl B n 2 (k * 2) (len - k)):=by
 simp only [iO,bd,Int.natCast_nonneg,if_true,Int.toNat_natCast]
 rw [if_pos ⟨trivial,by omega,Nat.le_refl _,hn⟩,if_pos (.inr h),Nat.zero_add]
theorem ml {B n len k:Nat} (h:k ≤ len) (hn:n ≠ 0):iO 2 (.msl B n 2 0 len) none (some (.int .i64 k)) none=some (.msl B n 2 0 k):=by
 simp only [iO,bd,Int.natCast_nonneg,if_true,Int.toNat_natCast]
 rw [if_pos ⟨trivial,by omega,h,hn⟩,if_pos (.inl trivial),Nat.zero_mul,Nat.sub_zero]
theorem tG {H:Hp} {B:Nat} {cs:List AV} (hH:H B=some cs):H=aj H B cs:=by
 funext b
 by_cases e:b=B
 ·subst e; rw [ag]; exact hH
 ·rw [af e]
attribute [local irreducible] aF ak be aY aL aO aB aP a7 bt Go.Abs.Fn aW Go.Abs.Pure aw aK Yl
set_option maxHeartbeats 1000000 in
theorem lX (l:Spx) (hl:Shn l) (h0:l ≠ []) (H:Hp) (B nx:Nat) (hH:H B=some (cX l)) (hB:B < nx) :
    Abs.Fn Tryz.prog 92 [.msl B (l.length * 2) 2 0 l.length] H nx fun r H' nx'=>r=.msl B (l.length * 2) 2 0 (bm l l.length)∧(∃ C,H'=aj H B C∧C.length=l.length * 2∧C.take (bm l l.length * 2)=cX (cz l l.length))∧nx'=nx:=by
 refine Abs.Fn.of_c2 follows zm (Nat.le_of_ble_eq_true rfl) ?_
 simp only [b92,cO,cG,cN,cM,cD,cF,cB,aq,aH]
 have hl':l.length ≤ 17592186044416:=hl
 have hpos:=List.length_pos_iff.2 h0
 have hid:=tG hH
 (have zz:=and_self; repeat' (first|refine zW ?_|apply a_n|apply a_r|refine zO ?_|refine vZ ?_|(refine zGZ ?_ ?_ <;> (intro _hg; try (exfalso; omega)))|refine ah rfl ?_|refine r1Z ?_|fail)) <;> (try clear zz)
 ·have e1:l.length=1:=by omega
  have e2:cz l l.length=l:=by
   match l,e1 with
   | [a],_=>rfl
  refine ⟨?_,⟨_,hid,d8 l,?_⟩,rfl⟩
  ·rw [show bm l l.length=l.length by rw [e1]; rfl]
  ·rw [e2,show bm l l.length=l.length by rw [e1]; rfl,List.take_of_length_le (by rw [d8]; omega)]
 refine aN (X:=Nat) (fun k=>[(0,.msl B (l.length * 2) 2 0 l.length),(3,.int .i64 k)]) (fun k H' nx'=>H'=H∧nx'=nx∧1 ≤ k∧k ≤ l.length∧bm l k=k∧cz l k=l.take k) (fun k=>l.length - k) 1 ⟨rfl,rfl,Nat.le_refl _,hpos,rfl,by match l,h0 with | a :: r,_=>rfl⟩ ag0 ?_
 rintro k H' nx' ⟨rfl,rfl,k1,k2,k3,k4⟩
 have hcl:=d8 l
 by_cases hk:k < l.length
 ·have tk:(k:Int) - 1=(k - 1:Nat):=by omega
  have q1:=rdX hk
  have q2:=rdX (l:=l) (k:=k - 1) (by omega)
  have hd:=ip (l.getD k default) (l.getD (k - 1) default)
  by_cases he:l.getD k default=l.getD (k - 1) default
  ·have hs:=mw (B:=B) (n:=l.length * 2) hk (by omega)
   rw [decide_eq_true he] at hd
   (have zz:=aI @tk (aI @hH (aI @Int.toNat_natCast (aI @hcl (aI @q1 (aI @q2 (aI @lz (aI @acq (aI @hd @hs)))))))); repeat' (first|refine zW ?_|apply a_n|refine zO ?_|refine vZ ?_|refine cTZ ?_|(refine zGZ ?_ ?_ <;> (intro _hg; try (exfalso; omega)))|fail)) <;> (try clear zz)
   refine aN (X:=Nat × Spx) (fun x=>[(0,.msl B (l.length * 2) 2 0 l.length),(3,.int .i64 (bm l (k + x.1):Nat)),(4,.msl B (l.length * 2) 2 (k * 2) (l.length - k)),(5,.int .i64 x.1)]) (fun x H2 nx2=>x.2.length=l.length∧1 ≤ x.1∧k + x.1 ≤ l.length∧bm l (k + x.1) + 1 ≤ k + x.1∧H2=aj H' B (cX x.2)∧nx2=nx'∧(∀ p,k + x.1 ≤ p + 1→x.2.getD p default=l.getD p default)∧x.2.take (bm l (k + x.1))=cz l (k + x.1)) (fun x=>l.length - x.1) (1,l)
    ⟨rfl,Nat.le_refl _,hk,by dsimp only; rw [c7 (by omega) he]; omega,hid,rfl,fun _ _=>rfl,by dsimp only; rw [c7 (by omega) he,gd (by omega) he,k3,k4]⟩ (by simp (disch:=omega) only [agr,ZG,reduceEqDiff,↓reduceIte,c7 (show k ≠ 0 by omega) he,k3]) ?_
   rintro ⟨j,L⟩ H2 nx2 ⟨a1,a2,a3,a4,rfl,rfl,a5,a6⟩
   dsimp only at a1 a2 a3 a4 a5 a6 ⊢
   have hcL:(cX L).length=l.length * 2:=by rw [d8,a1]
   by_cases hj:k + j < l.length
   ·have tj:(j:Int) - 1=(j - 1:Nat):=by omega
    have r1:=a5 (k + j) (by omega)
    have r2:=a5 (k + (j - 1)) (by omega)
    have s1:=rdX (l:=L) (k:=k + j) (by omega)
    have s2:=rdX (l:=L) (k:=k + (j - 1)) (by omega)
    rw [r1] at s1
    rw [r2] at s2
    rw [Nat.add_mul] at s1 s2
    have hd2:=ip (l.getD (k + j) default) (l.getD (k + (j - 1)) default)
    by_cases hd:l.getD (k + j) default=l.getD (k + (j - 1)) default
    ·have hq:bm l (k + (j + 1))=bm l (k + j):=c7 (l:=l) (k:=k + j) (by omega) (by rw [hd,show k + j - 1=k + (j - 1) by omega])
     rw [decide_eq_true hd] at hd2
     (have zz:=aI @tj (aI @Int.toNat_natCast (aI @hcL (aI @s1 (aI @s2 (aI @lz (aI @acn @hd2)))))); repeat' (first|refine zW ?_|apply a_n|refine zO ?_|refine vZ ?_|refine cFZ ?_|(refine zGZ ?_ ?_ <;> (intro _hg; try (exfalso; omega)))|fail)) <;> (try clear zz)
     refine ⟨(j + 1,L),by dsimp only; omega,⟨a1,by dsimp only; omega,by dsimp only; omega,?_,rfl,rfl,fun p hp=>a5 p (by dsimp only at hp; omega),by dsimp only; rw [hq,show k + (j + 1)=k + j + 1 from rfl,gd (by omega) (by rw [hd,show k + j - 1=k + (j - 1) by omega])]; exact a6⟩,(have zz:=@hq; agZ)⟩
     dsimp only
     rw [hq]
     omega
    ·have hq:bm l (k + (j + 1))=bm l (k + j) + 1:=fY (l:=l) (k:=k + j) (by rw [show k + j - 1=k + (j - 1) by omega]; exact hd)
     have hlm:=BT (l:=L) (k:=bm l (k + j)) (w:=l.getD (k + j) default) (by omega)
     rw [decide_eq_false hd] at hd2
     have hle:bm l (k + j) * 2 + 2 ≤ l.length * 2:=by omega
     (have zz:=aI @tj (aI @Int.toNat_natCast (aI @hcL (aI @s1 (aI @s2 (aI @lz (aI @acn @hd2)))))); repeat' (first|refine zW ?_|apply a_n|refine zO ?_|refine vZ ?_|refine stZ ?_|refine cTZ ?_|(refine zGZ ?_ ?_ <;> (intro _hg; try (exfalso; omega)))|fail)) <;> (try clear zz)
     refine ⟨(j + 1,L.set (bm l (k + j)) (l.getD (k + j) default)),by dsimp only; omega,⟨by simp [a1],by dsimp only; omega,by dsimp only; omega,?_,?_,rfl,fun p hp=>?_,by dsimp only; rw [hq,tY (by omega),a6,show k + (j + 1)=k + j + 1 from rfl,gn (by rw [show k + j - 1=k + (j - 1) by omega]; exact hd)]⟩,(have zz:=@hq; agZ)⟩
     ·dsimp only
      rw [hq]
      omega
     ·dsimp only
      rw [al,hlm]
     ·dsimp only at hp ⊢
      rw [List.getD_eq_getElem?_getD,List.getElem?_set_ne (by omega),← List.getD_eq_getElem?_getD]
      exact a5 p (by omega)
   ·have hn:k + j=l.length:=by omega
    have hl1:=mw (B:=B) (n:=l.length * 2) (show bm l (k + j) < l.length by omega) (by omega)
    have hl2:=ml (B:=B) (n:=l.length * 2) (show bm l (k + j) ≤ l.length by omega) (by omega)
    (have zz:=aI @hl1 @hl2; repeat' (first|refine zW ?_|apply a_n|apply a_x|refine zO ?_|refine vZ ?_|(refine zGZ ?_ ?_ <;> (intro _hg; try (exfalso; omega)))|fail)) <;> (try clear zz)
    refine yg (H':=aj (aj H' B (cX L)) B (bb (cX L) (bm l (k + j) * 2) (aS (.agg [.int .i64 0,.int .i64 0]) (l.length - bm l (k + j))))) ?_ ?_
    ·((try simp only [bL,ZA,reduceEqDiff,↓reduceIte,reduceAdd,reduceLeDiff]); (try with_reducible rfl))
     simp only [e5]
     rw [if_neg (by omega),ag]
     dsimp only
     rw [if_pos ⟨hcL,trivial,rfl,rfl,by omega⟩]
     rfl
    ·(have zz:=@hl2; repeat' (first|refine zW ?_|apply a_n|apply a_r|refine zO ?_|refine vZ ?_|refine ah rfl ?_|refine r1Z ?_|fail)) <;> (try clear zz)
     refine ⟨by rw [hn],⟨_,al _ _ _ _,?_,?_⟩,rfl⟩
     ·have hz:(aS (AV.agg [.int .i64 0,.int .i64 0]) (l.length - bm l (k + j))).length=(l.length - bm l (k + j)) * 2:=by simp [aS,AV.cells]
      simp only [bb,List.length_append,List.length_take,List.length_drop,hz,hcL]
      omega
     ·rw [← hn,← a6,← lw]
      simp only [bb]
      rw [List.append_assoc,List.take_append_of_le_length (by rw [List.length_take,hcL]; omega),List.take_take,Nat.min_self]
  ·rw [decide_eq_false he] at hd
   (have zz:=aI @tk (aI @hH (aI @Int.toNat_natCast (aI @hcl (aI @q1 (aI @q2 (aI @lz (aI @acq @hd))))))); repeat' (first|refine zW ?_|apply a_n|refine zO ?_|refine vZ ?_|refine cFZ ?_|(refine zGZ ?_ ?_ <;> (intro _hg; try (exfalso; omega)))|fail)) <;> (try clear zz)
   exact ⟨k + 1,by omega,⟨rfl,rfl,by omega,by omega,by rw [fY he,k3],by rw [gn he,k4,bU hk]⟩,ag0⟩
 ·(have zz:=and_self; repeat' (first|refine zW ?_|apply a_n|apply a_x|refine zO ?_|refine vZ ?_|(refine zGZ ?_ ?_ <;> (intro _hg; try (exfalso; omega)))|refine ah rfl ?_|refine r1Z ?_|fail)) <;> (try clear zz)
  have e:l.length=k:=by omega
  refine ⟨by rw [e,k3],⟨_,hid,hcl,?_⟩,rfl⟩
  rw [e,k3,k4,← lw]
end Go.Proofs.YtbgdcebmgjafjaaGreat
namespace Go.Proofs.YtbgdcebmgjafjaaGreat
open Go Go.Abs
theorem yA (a b:Vtx):jw (.st [.int,.int]) (bh a) (bh b)=some (decide (a=b)):=by
 show bO [.int,.int] [.int .i64 a.color,.int .i64 a.label] [.int .i64 b.color,.int .i64 b.label]=_
 rw [sg,ip]
theorem lL (v:Vtx) (ks:List Vtx):bQ (.st [.int,.int]) (bh v) (ks.map bh)=some (if v ∈ ks then some (ks.idxOf v) else none):=jY _ bh yA v ks
theorem mq (v:Vtx):fu (.st [.int,.int]) (bh v)=true:=rfl
def gu (l:List Spx) (i:Nat) (v:Vtx):List Nat:=(List.range i).filter fun k=>decide (v ∈ l.getD k default)
def jn (l:List Spx) (i j:Nat) (v:Vtx):List Nat:=gu l i v ++ if v ∈ (l.getD i default).take j then [i] else []
theorem tC {l:List Spx} {i:Nat} {v:Vtx}:gu l (i + 1) v=jn l i (l.getD i default).length v:=by
 unfold gu jn
 rw [List.range_succ,List.filter_append,List.take_length]
 congr 1
 by_cases h:v ∈ l.getD i default
 ·rw [if_pos h]; simp only [List.filter,h,decide_true]
 ·rw [if_neg h]; simp only [List.filter,h,decide_false]
theorem uj {l:List Spx} {i:Nat} {v:Vtx}:jn l i 0 v=gu l i v:=by unfold jn; simp
theorem uH {l:List Spx} {i j:Nat} {v:Vtx} (hj:j < (l.getD i default).length) (ha:bZ bl (l.getD i default)):jn l i (j + 1) v=if v=(l.getD i default).getD j default then jn l i j v ++ [i] else jn l i j v:=by
 unfold jn
 generalize l.getD i default=s at *
 rw [bU hj]
 by_cases h:v=s.getD j default
 ·have hn:v ∉ s.take j:=fun hm=>by
    obtain ⟨k,hk,e⟩:=List.getElem_of_mem hm
    rw [List.length_take] at hk
    rw [List.getElem_take] at e
    have:=cr ha (i:=k) (j:=j) (by omega) hj
    rw [← h,← e] at this
    have e2:s.getD k default=s[k]:=by simp [List.getD,show k < s.length by omega]
    rw [e2] at this
    exact kC.ord.irr _ this
  rw [if_pos h,if_neg hn,if_pos (by rw [List.mem_append,h]; simp)]
  simp
 ·rw [if_neg h]
  congr 1
  have e:v ∈ s.take j ++ [s.getD j default] ↔ v ∈ s.take j:=by rw [List.mem_append,List.mem_singleton]; exact ⟨fun h'=>h'.resolve_right h,.inl⟩
  by_cases h2:v ∈ s.take j
  ·rw [if_pos (e.2 h2),if_pos h2]
  ·rw [if_neg (fun h=>h2 (e.1 h)),if_neg h2]
def ua (i:Nat):AV:=.int .i64 (i:Int)
structure IncOk (H:Hp) (b lo hi:Nat) (F:Vtx→List Nat) (ks:List Vtx) (vs:List AV):Prop where
 box:H b=some [.omap (ks.map bh) vs]
 len:vs.length=ks.length
 nodup:ks.Nodup
 dom:∀ v,v ∈ ks ↔ F v ≠ []
 row:∀ j,j < ks.length→Row H 1 (vs.getD j .undef) ((F (ks.getD j default)).map ua)
 bnd:∀ j B,j < ks.length→dy (vs.getD j .undef)=some B→lo ≤ B∧B < hi∧B ≠ b
 apart:∀ i j B,i < ks.length→j < ks.length→i ≠ j→dy (vs.getD i .undef)=some B→dy (vs.getD j .undef) ≠ some B
 lt:b < hi
theorem ow {l:List AV} {i j:Nat} {x:AV} (h:i < l.length):(l.set i x).getD j .undef=if i=j then x else l.getD j .undef:=by
 simp only [List.getD,List.getElem?_set]
 split
 ·rename_i e; subst e; simp [h]
 ·rfl
theorem pU {α:Type} {l m:List α} {j:Nat} {d:α} (h:j < l.length):(l ++ m).getD j d=l.getD j d:=by
 simp [List.getD,List.getElem?_append_left h]
theorem n8 {α:Type} {l:List α} {x d:α}:(l ++ [x]).getD l.length d=x:=by simp [List.getD]
theorem gg {l:List Vtx} {v:Vtx} (h:v ∈ l):l.idxOf v < l.length∧l.getD (l.idxOf v) default=v:=by
 have h1:=List.idxOf_lt_length_iff.2 h
 exact ⟨h1,by simp [List.getD,h1]⟩
theorem ur {l:List Vtx} (h:l.Nodup) {i j:Nat} (hi:i < l.length) (hj:j < l.length) (e:l.getD i default=l.getD j default):i=j:=by
 have hp:=List.pairwise_iff_getElem.1 (List.nodup_iff_pairwise_ne.1 h)
 rw [show l.getD i default=l[i] by simp [List.getD,hi],show l.getD j default=l[j] by simp [List.getD,hj]] at e
 rcases Nat.lt_trichotomy i j with c | c | c
 ·exact absurd e (hp i j hi hj c)
 ·exact c
 ·exact absurd e.symm (hp j i hj hi c)
theorem IncOk.same {H H':Hp} {b lo hi hi':Nat} {F:Vtx→List Nat} {ks:List Vtx} {vs:List AV} (h:IncOk H b lo hi F ks vs) (hb:H' b=H b) (hs:∀ x,lo ≤ x→x < hi→x ≠ b→H' x=H x) (hh:hi ≤ hi'):IncOk H' b lo hi' F ks vs :=
 ⟨hb.trans h.box,h.len,h.nodup,h.dom,fun j hj=>(h.row j hj).same fun B hB=>by have:=h.bnd j B hj hB; exact hs B this.1 this.2.1 this.2.2,fun j B hj hB=>by have:=h.bnd j B hj hB; exact ⟨this.1,by omega,this.2.2⟩,h.apart,by have:=h.lt; omega⟩
theorem IncOk.put {H H':Hp} {b lo hi hi' i:Nat} {F G:Vtx→List Nat} {ks:List Vtx} {vs:List AV} {w:Vtx} {sv:AV} (h:IncOk H b lo hi F ks vs) (hw:w ∈ ks) (hG:∀ v,G v=if v=w then F v ++ [i] else F v) (hrow:Row H' 1 sv ((F w ++ [i]).map ua)) (hB:∀ B,dy sv=some B→dy (vs.getD (ks.idxOf w) .undef)=some B ∨ hi ≤ B∧B < hi'∧B ≠ b) (hb:H' b=some [.omap (ks.map bh) (vs.set (ks.idxOf w) sv)])
    (hs:∀ x,lo ≤ x→x < hi→x ≠ b→dy (vs.getD (ks.idxOf w) .undef) ≠ some x→H' x=H x) (hh:hi ≤ hi') (hlo:lo ≤ hi):IncOk H' b lo hi' G ks (vs.set (ks.idxOf w) sv):=by
 obtain ⟨k1,k2⟩:=gg hw
 have hl:=h.len
 have hg:∀ j,(vs.set (ks.idxOf w) sv).getD j .undef=if ks.idxOf w=j then sv else vs.getD j .undef:=fun j=>ow (by omega)
 have hne:∀ j,j < ks.length→ks.idxOf w ≠ j→ks.getD j default ≠ w:=fun j hj hn e=>hn (ur h.nodup k1 hj (by rw [k2,e]))
 refine ⟨hb,by simp [hl],h.nodup,fun v=>?_,fun j hj=>?_,fun j B hj=>?_,fun p q B hp hq hpq=>?_,by have:=h.lt; omega⟩
 ·rw [hG,h.dom]
  by_cases e:v=w
  ·subst e
   rw [if_pos rfl]
   exact ⟨fun _=>by simp,fun _=>(h.dom v).1 hw⟩
  ·rw [if_neg e]
 ·rw [hg,hG]
  by_cases e:ks.idxOf w=j
  ·rw [if_pos e,if_pos (by rw [← e]; exact k2),← e,k2]; exact hrow
  ·rw [if_neg e,if_neg (hne j hj e)]
   exact (h.row j hj).same fun B hB'=>by
    have:=h.bnd j B hj hB'
    exact hs B this.1 this.2.1 this.2.2 fun h'=>h.apart (ks.idxOf w) j B k1 hj e h' hB'
 ·rw [hg]
  by_cases e:ks.idxOf w=j
  ·rw [if_pos e]
   intro hB'
   rcases hB B hB' with h' | h'
   ·have:=h.bnd _ B k1 h'; exact ⟨this.1,by omega,this.2.2⟩
   ·exact ⟨by omega,h'.2⟩
  ·rw [if_neg e]
   intro hB'
   have:=h.bnd j B hj hB'
   exact ⟨this.1,by omega,this.2.2⟩
 ·rw [hg,hg]
  by_cases e1:ks.idxOf w=p
  ·rw [if_pos e1,if_neg (by omega)]
   intro h1 h2
   rcases hB B h1 with h' | h'
   ·exact h.apart (ks.idxOf w) q B k1 hq (by omega) h' h2
   ·have:=h.bnd q B hq h2; omega
  ·rw [if_neg e1]
   by_cases e2:ks.idxOf w=q
   ·rw [if_pos e2]
    intro h1 h2
    rcases hB B h2 with h' | h'
    ·exact h.apart p (ks.idxOf w) B hp k1 (by omega) h1 h'
    ·have:=h.bnd p B hp h1; omega
   ·rw [if_neg e2]; exact h.apart p q B hp hq hpq
theorem IncOk.new {H H':Hp} {b lo hi hi' i:Nat} {F G:Vtx→List Nat} {ks:List Vtx} {vs:List AV} {w:Vtx} {sv:AV} (h:IncOk H b lo hi F ks vs) (hw:w ∉ ks) (hG:∀ v,G v=if v=w then F v ++ [i] else F v) (hrow:Row H' 1 sv ([i].map ua)) (hB:∀ B,dy sv=some B→hi ≤ B∧B < hi'∧B ≠ b) (hb:H' b=some [.omap ((ks ++ [w]).map bh) (vs ++ [sv])])
    (hs:∀ x,lo ≤ x→x < hi→x ≠ b→H' x=H x) (hh:hi ≤ hi') (hlo:lo ≤ hi):IncOk H' b lo hi' G (ks ++ [w]) (vs ++ [sv]):=by
 have hl:=h.len
 have hF:F w=[]:=by
  cases hf:F w with
  | nil=>rfl
  | cons a r=>exact absurd ((h.dom w).2 (by rw [hf]; simp)) hw
 have g1:∀ j,j < ks.length→(ks ++ [w]).getD j default=ks.getD j default∧(vs ++ [sv]).getD j .undef=vs.getD j .undef:=fun j hj=>⟨pU hj,pU (by omega)⟩
 have g2:(ks ++ [w]).getD ks.length default=w∧(vs ++ [sv]).getD ks.length .undef=sv:=⟨n8,by rw [← hl]; exact n8⟩
 refine ⟨hb,by simp [hl],?_,fun v=>?_,fun j hj=>?_,fun j B hj=>?_,fun p q B hp hq hpq=>?_,by have:=h.lt; omega⟩
 ·rw [List.nodup_append]
  exact ⟨h.nodup,by simp,fun a ha c hc e=>by rw [List.mem_singleton] at hc; exact hw (by rw [← hc,← e]; exact ha)⟩
 ·rw [hG,List.mem_append,List.mem_singleton]
  by_cases e:v=w
  ·subst e; rw [if_pos rfl]; simp
  ·rw [if_neg e,← h.dom]; simp [e]
 ·rw [List.length_append,List.length_singleton] at hj
  by_cases e:j=ks.length
  ·subst e
   rw [g2.1,g2.2,hG,if_pos rfl,hF]; exact hrow
  ·obtain ⟨e1,e2⟩:=g1 j (by omega)
   have hne:ks.getD j default ≠ w:=fun e'=>hw (e' ▸ bf (by omega))
   rw [e1,e2,hG,if_neg hne]
   exact (h.row j (by omega)).same fun B hB'=>by have:=h.bnd j B (by omega) hB'; exact hs B this.1 this.2.1 this.2.2
 ·rw [List.length_append,List.length_singleton] at hj
  by_cases e:j=ks.length
  ·subst e
   rw [g2.2]; intro hB'
   have:=hB B hB'; exact ⟨by omega,this.2⟩
  ·rw [(g1 j (by omega)).2]; intro hB'
   have:=h.bnd j B (by omega) hB'; exact ⟨this.1,by omega,this.2.2⟩
 ·rw [List.length_append,List.length_singleton] at hp hq
  by_cases e1:p=ks.length
  ·subst e1
   rw [g2.2,(g1 q (by omega)).2]
   intro h1 h2
   have:=hB B h1
   have:=h.bnd q B (by omega) h2
   omega
  ·rw [(g1 p (by omega)).2]
   by_cases e2:q=ks.length
   ·subst e2
    rw [g2.2]
    intro h1 h2
    have:=hB B h2
    have:=h.bnd p B (by omega) h1
    omega
   ·rw [(g1 q (by omega)).2]; exact h.apart p q B (by omega) (by omega) hpq
end Go.Proofs.YtbgdcebmgjafjaaGreat
namespace Go.Proofs.YtbgdcebmgjafjaaGreat
open Go Go.Abs
theorem fT {H:Hp} {d:Nat} {x:AV}:cU 1 (aj H d [x]) (.msl d 1 1 0 1)=some (1,[x]):=gV (n:=1) (len:=1) (off:=0) (cs:=[x]) ag rfl (by simp)
theorem pF {l:List Spx} {i:Nat} {v:Vtx}:(gu l i v).length ≤ i:=by
 unfold gu
 have:=List.length_filter_le (fun k=>decide (v ∈ l.getD k default)) (List.range i)
 rwa [List.length_range] at this
theorem wy {l:List Spx} {i j:Nat} {v:Vtx}:(jn l i j v).length ≤ i + 1:=by
 unfold jn
 have:=pF (l:=l) (i:=i) (v:=v)
 rw [List.length_append]
 split <;> simp <;> omega
attribute [local irreducible] aF ak be aY aL aO aB aP a7 bt Go.Abs.Fn aW Go.Abs.Pure aw aK Yl
set_option maxHeartbeats 2000000 in
theorem kX (l:List Spx) (hl:l.length ≤ 100000) (hs:∀ s ∈ l,bZ bl s∧s.length ≤ 1000000) (H:Hp) (nx:Nat):Abs.Fn Tryz.prog 69 [aA l] H nx fun r H' nx'=>∃ ks vs,r=.mp nx∧IncOk H' nx nx nx' (gu l l.length) ks vs∧(∀ x,x < nx→H' x=H x)∧nx < nx':=by
 refine Abs.Fn.of_c2 follows Bx (Nat.le_of_ble_eq_true rfl) ?_
 simp only [b69,cO,cG,cN,cM,cD,cF,cB,aq,aH]
 refine dS ?_
 (have zz:=and_self; repeat' (first|apply a_n|refine zO ?_|refine vZ ?_|fail)) <;> (try clear zz)
 refine dS ?_
 (have zz:=and_self; repeat' (first|apply a_n|refine zO ?_|fail)) <;> (try clear zz)
 refine vj ?_
 (have zz:=@av; repeat' (first|refine zW ?_|apply a_n|refine zO ?_|refine vY ?_|fail)) <;> (try clear zz)
 refine aN (X:=Nat × List Vtx × List AV) (fun x=>[(3,.mp nx),(9,aA l),(10,.int .i64 l.length),(11,.int .i64 x.1)]) (fun x H' nx'=>x.1 ≤ l.length∧IncOk H' nx nx nx' (gu l x.1) x.2.1 x.2.2∧(∀ y,y < nx→H' y=H y)∧nx < nx') (fun x=>l.length - x.1) (0,[],[]) ⟨Nat.zero_le _,⟨ag,rfl,List.nodup_nil,fun v=>by simp [gu],fun j h=>absurd h (by simp),fun j B h=>absurd h (by simp),fun i j B h=>absurd h (by simp),by omega⟩,fun y hy=>af (by omega),by omega⟩ ag0 ?_
 rintro ⟨i,ks,vs⟩ H1 nx1 ⟨h1,h2,h3,h4⟩
 dsimp only at h1 h2 ⊢
 by_cases hi:i < l.length
 rotate_left
 ·obtain rfl:i=l.length:=by omega
  (have zz:=and_self; repeat' (first|refine zW ?_|apply a_n|apply a_x|refine zO ?_|refine vY ?_|(refine zGY ?_ ?_ <;> (intro _hg; try (exfalso; omega)))|refine ah rfl ?_|refine r1Y ?_|fail)) <;> (try clear zz)
  exact ⟨ks,vs,rfl,h2,h3,h4⟩
 have ix:=ft hi
 obtain ⟨hsa,hsl⟩:=hs _ (bf hi)
 have hstep:=fun j v hj=>uH (l:=l) (i:=i) (j:=j) (v:=v) hj hsa
 have hend:=fun v=>tC (l:=l) (i:=i) (v:=v)
 have hlen:=fun j v=>wy (l:=l) (i:=i) (j:=j) (v:=v)
 have h20:IncOk H1 nx nx nx1 (jn l i 0) ks vs:=by rw [show jn l i 0=gu l i from funext fun v=>uj]; exact h2
 have hend':gu l (i + 1)=jn l i (l.getD i default).length:=funext hend
 clear h2
 generalize l.getD i default=s at *
 (have zz:=aI @ix @ap; repeat' (first|refine zW ?_|apply a_n|refine zO ?_|refine vY ?_|(refine zGY ?_ ?_ <;> (intro _hg; try (exfalso; omega)))|fail)) <;> (try clear zz)
 refine aN (X:=Nat × List Vtx × List AV) (fun x=>[(3,.mp nx),(9,aA l),(10,.int .i64 l.length),(11,.int .i64 i),(4,.int .i64 i),(5,ar s),(16,ar s),(17,.int .i64 s.length),(18,.int .i64 x.1)]) (fun x H' nx'=>x.1 ≤ s.length∧IncOk H' nx nx nx' (jn l i x.1) x.2.1 x.2.2∧(∀ y,y < nx→H' y=H y)∧nx < nx') (fun x=>s.length - x.1) (0,ks,vs) ⟨Nat.zero_le _,h20,h3,h4⟩ ag0 ?_
 clear h20 h3 h4
 rintro ⟨j,ks,vs⟩ H2 nx2 ⟨k1,k2,k3,k4⟩
 dsimp only at k1 k2 ⊢
 by_cases hj:j < s.length
 rotate_left
 ·obtain rfl:j=s.length:=by omega
  (have zz:=and_self; repeat' (first|refine zW ?_|apply a_n|apply a_x|refine zO ?_|refine vY ?_|(refine zGY ?_ ?_ <;> (intro _hg; try (exfalso; omega)))|fail)) <;> (try clear zz)
  exact ⟨(i + 1,ks,vs),by dsimp only; omega,⟨by dsimp only; omega,by dsimp only; rw [hend']; exact k2,k3,k4⟩,ag0⟩
 have iy:=ix2 hj
 have hG:=fun v=>hstep j v hj
 have hcl:=hlen j (s.getD j default)
 generalize s.getD j default=w at *
 (have zz:=@iy; repeat' (first|refine zW ?_|apply a_n|refine zO ?_|refine vY ?_|refine alY ?_|refine stY ?_|refine blY ?_|(refine zGY ?_ ?_ <;> (intro _hg; try (exfalso; omega)))|fail)) <;> (try clear zz)
 have g3:∀ x,x < nx2→aj (aj (aj H2 nx2 [.int .i64 0,.int .i64 0]) nx2 (bb [.int .i64 0,.int .i64 0] 0 [.int .i64 w.color,.int .i64 w.label])) (nx2 + 1) [.int .i64 i] x=H2 x:=fun x hx=>by rw [af (by omega),af (by omega),af (by omega)]
 have g4:aj (aj (aj H2 nx2 [.int .i64 0,.int .i64 0]) nx2 (bb [.int .i64 0,.int .i64 0] 0 [.int .i64 w.color,.int .i64 w.label])) (nx2 + 1) [.int .i64 i] (nx2 + 1)=some [.int .i64 i]:=ag
 generalize aj (aj (aj H2 nx2 [.int .i64 0,.int .i64 0]) nx2 (bb [.int .i64 0,.int .i64 0] 0 [.int .i64 w.color,.int .i64 w.label])) (nx2 + 1) [.int .i64 i]=H3 at *
 have hmf:=lL w ks
 have hkl:(ks.map bh).length=ks.length:=List.length_map ..
 by_cases hw:w ∈ ks
 ·rw [if_pos hw] at hmf
  obtain ⟨m1,m2⟩:=gg hw
  have hr:=k2.row (ks.idxOf w) m1
  rw [m2] at hr
  refine wo ev0 ((g3 nx (by omega)).trans k2.box) ev0 (mq w) hmf ?_
  have g5:∀ x,x < nx2→x ≠ nx→aj H3 nx [.omap (bB (bh w) (some (ks.idxOf w)) (ks.map bh)) (gF .esl (some (ks.idxOf w)) vs)] x=H2 x:=fun x hx hn=>by rw [af hn,g3 x hx]
  have g6:aj H3 nx [.omap (bB (bh w) (some (ks.idxOf w)) (ks.map bh)) (gF .esl (some (ks.idxOf w)) vs)] nx=some [.omap (ks.map bh) vs]:=ag
  have g7:aj H3 nx [.omap (bB (bh w) (some (ks.idxOf w)) (ks.map bh)) (gF .esl (some (ks.idxOf w)) vs)] (nx2 + 1)=some [.int .i64 i]:=by rw [af (by omega)]; exact g4
  generalize aj H3 nx [.omap (bB (bh w) (some (ks.idxOf w)) (ks.map bh)) (gF .esl (some (ks.idxOf w)) vs)]=H4 at *
  rw [show rq .esl (some (ks.idxOf w)) vs=vs.getD (ks.idxOf w) .undef from rfl,show p8 (some (ks.idxOf w)) (ks.map bh)=ks.idxOf w from rfl]
  (have zz:=and_self; repeat' (first|apply a_n|refine zO ?_|refine vY ?_|fail)) <;> (try clear zz)
  refine kF (k:=1) (new:=[.int .i64 i]) rfl ev0 (hr.same fun B hB=>?_) ev0 (gV (n:=1) (len:=1) (off:=0) g7 rfl (by omega)) rfl rfl Nat.one_pos (by rw [List.length_map]; omega) (by rw [List.length_map]; omega) ?_
  ·have:=k2.bnd _ B m1 hB
   exact g5 B this.2.1 this.2.2
  rintro s2 H5 nx5 hr5 i1 i2 i3 i4
  (have zz:=and_self; repeat' (first|apply a_n|refine zO ?_|refine vY ?_|fail)) <;> (try clear zz)
  refine u6 ev0 ((i3 nx (by omega) (fun h=>(k2.bnd _ nx m1 h).2.2 rfl)).trans g6) ev0 (by rw [hkl]; exact m1) ev0 ?_
  (have zz:=and_self; repeat' (first|apply a_n|refine zO ?_|refine vY ?_|fail)) <;> (try clear zz)
  refine ⟨(j + 1,ks,vs.set (ks.idxOf w) s2),by dsimp only; omega,⟨by dsimp only; omega,IncOk.put k2 hw hG ?_ (fun B hB=>?_) ag (fun x hx hx2 hxn hxr=>?_) (by omega) (by omega),fun y hy=>?_,by omega⟩,ag0⟩
  ·rw [List.map_append]
   exact hr5.same fun B hB=>af fun e=>by
    rcases i4 B hB with h | h
    ·exact (k2.bnd _ B m1 h).2.2 e
    ·omega
  ·rcases i4 B hB with h | h
   ·exact .inl h
   ·exact .inr (by omega)
  ·rw [af hxn,i3 x (by omega) hxr,g5 x hx2 hxn]
  ·rw [af (by omega),i3 y (by omega) (fun h=>by have:=k2.bnd _ y m1 h; omega),g5 y (by omega) (by omega)]; exact k3 y hy
 ·rw [if_neg hw] at hmf
  refine wo ev0 ((g3 nx (by omega)).trans k2.box) ev0 (mq w) hmf ?_
  have g5:∀ x,x < nx2→x ≠ nx→aj H3 nx [.omap (bB (bh w) none (ks.map bh)) (gF .esl none vs)] x=H2 x:=fun x hx hn=>by rw [af hn,g3 x hx]
  have g6:aj H3 nx [.omap (bB (bh w) none (ks.map bh)) (gF .esl none vs)] nx=some [.omap (ks.map bh ++ [bh w]) (vs ++ [.esl])]:=ag
  have g7:aj H3 nx [.omap (bB (bh w) none (ks.map bh)) (gF .esl none vs)] (nx2 + 1)=some [.int .i64 i]:=by rw [af (by omega)]; exact g4
  generalize aj H3 nx [.omap (bB (bh w) none (ks.map bh)) (gF .esl none vs)]=H4 at *
  rw [show rq .esl none vs=.esl from rfl,show p8 none (ks.map bh)=ks.length from hkl]
  (have zz:=and_self; repeat' (first|apply a_n|refine zO ?_|refine vY ?_|fail)) <;> (try clear zz)
  refine kF (k:=1) (new:=[.int .i64 i]) (cs:=[]) rfl ev0 Row.nil ev0 (gV (n:=1) (len:=1) (off:=0) g7 rfl (by omega)) rfl rfl Nat.one_pos (by simp) (by simp) ?_
  rintro s2 H5 nx5 hr5 i1 i2 i3 i4
  have i4':∀ B,dy s2=some B→B=nx2 + 1 + 1∧nx5=nx2 + 1 + 1 + 1:=fun B hB=>(i4 B hB).elim (fun h=>by cases h) id
  (have zz:=and_self; repeat' (first|apply a_n|refine zO ?_|refine vY ?_|fail)) <;> (try clear zz)
  refine u6 (i:=ks.length) ev0 ((i3 nx (by omega) (fun h=>by cases h)).trans g6) ev0 (by rw [List.length_append,hkl]; simp) ev0 ?_
  have hset:(vs ++ [AV.esl]).set ks.length s2=vs ++ [s2]:=by rw [← k2.len]; simp
  rw [hset]
  (have zz:=and_self; repeat' (first|apply a_n|refine zO ?_|refine vY ?_|fail)) <;> (try clear zz)
  refine ⟨(j + 1,ks ++ [w],vs ++ [s2]),by dsimp only; omega,⟨by dsimp only; omega,IncOk.new k2 hw hG ?_ (fun B hB=>?_) (by rw [List.map_append]; exact ag) (fun x hx hx2 hxn=>?_) (by omega) (by omega),fun y hy=>?_,by omega⟩,ag0⟩
  ·exact hr5.same fun B hB=>af (by have:=i4' B hB; omega)
  ·have:=i4' B hB; omega
  ·rw [af hxn,i3 x (by omega) (fun h=>by cases h),g5 x hx2 hxn]
  ·rw [af (by omega),i3 y (by omega) (fun h=>by cases h),g5 y (by omega) (by omega)]; exact k3 y hy
end Go.Proofs.YtbgdcebmgjafjaaGreat
namespace Go.Proofs.YtbgdcebmgjafjaaGreat
open Go Go.Abs
def bx (l:List Spx) (s:Spx):Bool:=l.any fun t=>decide (s.length < t.length) && cg s t
def oP (c:List Spx) (k:Nat):Int:=if b0 (c.getD k default) ≠ 0 then b0 (c.getD k default) else if 0 < k∧0 ≤ bu (c.getD (k - 1) default) (c.getD k default) then 14 else 0
def aU (c:List Spx):Int:=if 4096 < c.length then 5 else if cA (oP c) c.length ≠ 0 then cA (oP c) c.length else if c.any (bx c)=true then 7 else 0
theorem e8 {a b:Spx}:cg a b=true ↔ ∀ v ∈ a,v ∈ b:=by
 unfold cg; rw [List.all_eq_true]
 exact ⟨fun h v hv=>of_decide_eq_true (h v hv),fun h v hv=>decide_eq_true (h v hv)⟩
theorem eL {l:List Spx} {s:Spx}:bx l s=true ↔ ∃ t ∈ l,s.length < t.length∧∀ v ∈ s,v ∈ t:=by
 unfold bx; rw [List.any_eq_true]
 constructor
 ·rintro ⟨t,ht,h⟩
  rw [Bool.and_eq_true,decide_eq_true_iff,e8] at h
  exact ⟨t,ht,h⟩
 ·rintro ⟨t,ht,h⟩
  exact ⟨t,ht,by rw [Bool.and_eq_true,decide_eq_true_iff,e8]; exact h⟩
theorem wO {c:List Spx} (h:cA (oP c) c.length=0):(∀ s ∈ c,b0 s=0)∧bZ bu c:=by
 have hz:=eT h
 have h3:∀ k,k < c.length→b0 (c.getD k default)=0∧(0 < k→bu (c.getD (k - 1) default) (c.getD k default) < 0):=fun k hk=>by
  have:=hz k hk
  unfold oP at this
  split at this
  ·exact absurd this ‹_›
  rename_i g1
  split at this
  ·exact absurd this (by decide)
  rename_i g2
  exact ⟨Decidable.of_not_not g1,fun h0=>by omega⟩
 constructor
 ·intro s hs
  obtain ⟨i,hi,rfl⟩:=List.getElem_of_mem hs
  have:=(h3 i hi).1
  rwa [show c.getD i default=c[i] by simp [List.getD,hi]] at this
 ·have step:∀ j i,i < j→j < c.length→bu (c.getD i default) (c.getD j default) < 0:=by
    intro j
    induction j with
    | zero=>intro i h; omega
    | succ j ih =>
     intro i hi hj
     have hs:=(h3 (j + 1) hj).2 (by omega)
     rw [Nat.add_sub_cancel] at hs
     by_cases e:i=j
     ·subst e; exact hs
     ·exact nr.trans (ih i (by omega) (by omega)) hs
  unfold bZ
  rw [List.pairwise_iff_getElem]
  intro i j hi hj hij
  have:=step j i hij hj
  simpa [List.getD,hi,hj] using this
theorem bN {c:List Spx} (h:aU c=0):c.length ≤ 4096∧(∀ s ∈ c,b0 s=0)∧bZ bu c∧∀ s ∈ c,bx c s=false:=by
 unfold aU at h
 split at h
 ·exact absurd h (by decide)
 split at h
 ·exact absurd h ‹_›
 split at h
 ·exact absurd h (by decide)
 rename_i h1 h2 h3
 have:=wO (Decidable.of_not_not h2)
 refine ⟨by omega,this.1,this.2,fun s hs=>?_⟩
 cases hc:bx c s
 ·rfl
 ·exact absurd (List.any_eq_true.2 ⟨s,hs,hc⟩) h3
theorem xy {l:List Spx} {s:Spx} {p:Spx→Bool} (h0:0 < s.length) (hp:∀ t,p t=true→s.getD 0 default ∈ t):((gu l l.length (s.getD 0 default)).map fun (n:Nat)=>(n:Int)).any (fun i=>p (l.getD i.toNat default))=l.any p:=by
 rw [Bool.eq_iff_iff,List.any_eq_true,List.any_eq_true]
 constructor
 ·rintro ⟨x,hx,h⟩
  obtain ⟨n,hn,rfl⟩:=List.mem_map.1 hx
  unfold gu at hn
  obtain ⟨h1,_⟩:=List.mem_filter.1 hn
  rw [Int.toNat_natCast] at h
  exact ⟨_,bf (List.mem_range.1 h1),h⟩
 ·rintro ⟨t,ht,h⟩
  obtain ⟨i,hi,rfl⟩:=List.getElem_of_mem ht
  have e:l.getD i default=l[i]:=by simp [List.getD,hi]
  refine ⟨(i:Int),List.mem_map.2 ⟨i,List.mem_filter.2 ⟨List.mem_range.2 hi,decide_eq_true ?_⟩,rfl⟩,?_⟩
  ·rw [e]; exact hp _ h
  ·rw [Int.toNat_natCast,e]; exact h
attribute [local irreducible] aF ak be aY aL aO aB aP a7 bt Go.Abs.Fn aW Go.Abs.Pure aw aK Yl
theorem uq (l:List Int) (p:Int→Bool) (g:Nat) (caps:List AV) (hd:∀ x ∈ caps,Dat x) (hg:∀ x ∈ l,Pure Tryz.prog g (.int .i64 x :: caps) (.bool (p x))) (hl:Shn l):Pure Tryz.prog 127 [cH l,.func g caps] (.int .i64 (if l.any p then (l.findIdx p:Nat) else -1)):=by
 refine Pure.of_c2 follows x6 (Nat.le_of_ble_eq_true rfl) ?_
 simp only [zg,cO,cG,cN,cM,cD,cF,cB,aq,aH]
 have hl':l.length ≤ 17592186044416:=hl
 (have zz:=and_self; repeat' (first|refine zW ?_|apply a_n|refine zO ?_|refine vZ ?_|fail)) <;> (try clear zz)
 refine aN (X:=Nat) (fun k=>[(0,cH l),(1,.func g caps),(6,cH l),(7,.int .i64 l.length),(8,.int .i64 k)]) (fun k H nx=>k ≤ l.length∧∀ i,i < k→p (l.getD i default)=false) (fun k=>l.length - k) 0 ⟨Nat.zero_le _,fun i h=>absurd h (by omega)⟩ ag0 ?_
 rintro k H nx ⟨hk,hz⟩
 by_cases hk2:k < l.length
 rotate_left
 ·rw [fQ fun i hi=>hz i (by omega),if_neg (by decide)]
  (have zz:=and_self; repeat' (first|refine zW ?_|apply a_n|apply a_x|refine zO ?_|refine vY ?_|(refine zGY ?_ ?_ <;> (intro _hg; try (exfalso; omega)))|refine ah rfl ?_|refine r1Y ?_|fail)) <;> (try clear zz)
  exact b7 rfl
 have hc:=hg _ (az hk2)
 cases hp:p (l.getD k default)
 ·rw [hp] at hc
  (have zz:=and_self; repeat' (first|refine zW ?_|apply a_n|refine zO ?_|refine vY ?_|(refine zGY ?_ ?_ <;> (intro _hg; try (exfalso; omega)))|fail)) <;> (try clear zz)
  refine bR ev0 ev0 hc (ac (am (.int _ _) (ao hd))) ?_
  (have zz:=and_self; repeat' (first|apply a_n|refine zO ?_|refine vY ?_|refine cFY ?_|fail)) <;> (try clear zz)
  exact ⟨k + 1,by omega,⟨by omega,fun i hi=>by
   rcases Nat.lt_succ_iff_lt_or_eq.1 hi with h | rfl
   ·exact hz i h
   ·exact hp⟩,ag0⟩
 ·rw [hp] at hc
  obtain ⟨e1,e2⟩:=e7 hk2 hz hp
  rw [e1,e2,if_pos rfl]
  (have zz:=and_self; repeat' (first|refine zW ?_|apply a_n|refine zO ?_|refine vY ?_|(refine zGY ?_ ?_ <;> (intro _hg; try (exfalso; omega)))|fail)) <;> (try clear zz)
  refine bR ev0 ev0 hc (ac (am (.int _ _) (ao hd))) ?_
  (have zz:=and_self; repeat' (first|refine zW ?_|apply a_n|apply a_r|refine zO ?_|refine vY ?_|refine cTY ?_|refine ah rfl ?_|refine r1Y ?_|fail)) <;> (try clear zz)
  exact .int _ _
theorem pz (l:List Int) (p:Int→Bool) (g:Nat) (caps:List AV) (hd:∀ x ∈ caps,Dat x) (hg:∀ x ∈ l,Pure Tryz.prog g (.int .i64 x :: caps) (.bool (p x))) (hl:Shn l):Pure Tryz.prog 103 [cH l,.func g caps] (.bool (l.any p)):=by
 refine Pure.of_c2 follows x9 (Nat.le_of_ble_eq_true rfl) ?_
 simp only [yW,cO,cG,cN,cM,cD,cF,cB,aq,aH]
 have h:=uq l p g caps hd hg hl
 (have zz:=and_self; repeat' (first|refine zW ?_|apply a_n|refine zO ?_|refine vZ ?_|refine cZ ?_ (hp:=h) (hs:=by (first | refine ab ?_ rfl | apply ac); (repeat' (first | exact aa | apply ai | apply ae | exact fJ _ | exact Dat.func hd)); first | done | fail)|refine ah rfl ?_|refine r1Z ?_|fail)) <;> (try clear zz)
 cases hA:l.any p
 ·exact bo (by simp)
 ·exact bo (by simp)
def OkS (l:List Spx):Prop:=l.length ≤ 100000∧∀ s ∈ l,bZ bl s∧s.length ≤ 1000
theorem rS (l:List Spx) (s:Spx) (i:Nat) (hl:OkS l) (hs:bZ bl s∧s.length ≤ 1000) (hi:i < l.length):Pure Tryz.prog 104 [.int .i64 i,.iptr [aA l] 0,.iptr [ar s] 0] (.bool (decide (s.length < (l.getD i default).length) && cg s (l.getD i default))):=by
 refine Pure.of_c2 follows yb (Nat.le_of_ble_eq_true rfl) ?_
 simp only [zv,cO,cG,cN,cM,cD,cF,cB,aq,aH]
 have ix:=ft hi
 obtain ⟨t1,t2⟩:=hl.2 _ (bf hi)
 have hf:=zn s (l.getD i default) hs.1 t1 (by omega) (by omega)
 generalize l.getD i default=t at *
 by_cases h:s.length < t.length
 ·have z:decide ((s.length:Int) < t.length)=true:=decide_eq_true (by omega)
  rw [decide_eq_true h,Bool.true_and]
  (have zz:=aI @ap (aI @ix @z); repeat' (first|refine zW ?_|refine zM ?_|apply a_n|refine zO ?_|refine vZ ?_|refine cZ ?_ (hp:=hf) (hs:=by (first | refine ab ?_ rfl | apply ac); (repeat' (first | exact aa | apply ai | apply ae | exact ax _)); first | done | fail)|refine gTZ ?_|refine ah rfl ?_|refine r1Z ?_|fail)) <;> (try clear zz)
  exact .bool _
 ·have z:decide ((s.length:Int) < t.length)=false:=decide_eq_false (by omega)
  rw [decide_eq_false h,Bool.false_and]
  (have zz:=aI @ap (aI @ix @z); repeat' (first|refine zW ?_|refine zM ?_|apply a_n|refine zO ?_|refine vZ ?_|refine gFZ ?_|refine ah rfl ?_|refine r1Z ?_|fail)) <;> (try clear zz)
  exact .bool _
theorem n6 (l:List Spx) (s:Spx) (hl:OkS l) (hs:bZ bl s∧s.length ≤ 1000) (h0:0 < s.length):Pure Tryz.prog 70 [aA l,cH ((gu l l.length (s.getD 0 default)).map fun (n:Nat)=>(n:Int)),ar s] (.bool (bx l s)):=by
 refine Pure.of_c2 follows BP (Nat.le_of_ble_eq_true rfl) ?_
 simp only [b70,cO,cG,cN,cM,cD,cF,cB,aq,aH]
 have hll:=hl.1
 have h:=pz ((gu l l.length (s.getD 0 default)).map fun (n:Nat)=>(n:Int)) (fun i=>decide (s.length < (l.getD i.toNat default).length) && cg s (l.getD i.toNat default)) 104 [.iptr [aA l] 0,.iptr [ar s] 0] (DatL.cons (Dat.iptr (DatL.cons (a9 _) DatL.nil)) (DatL.cons (Dat.iptr (DatL.cons (ax _) DatL.nil)) DatL.nil)) (fun x hx=>by
  obtain ⟨n,hn,rfl⟩:=List.mem_map.1 hx
  have hn2:n < l.length:=List.mem_range.1 (List.mem_filter.1 hn).1
  rw [Int.toNat_natCast]
  exact rS l s n hl hs hn2) (by rw [Shn,List.length_map]; have:=pF (l:=l) (i:=l.length) (v:=s.getD 0 default); omega)
 rw [xy (p:=fun t=>decide (s.length < t.length) && cg s t) h0 (fun t ht=>by
  rw [Bool.and_eq_true,e8] at ht
  exact ht.2 _ (bf h0))] at h
 (have zz:=aI @aG (aI @ay (aI @aM @aD)); repeat' (first|refine zW ?_|apply a_n|refine zO ?_|refine vZ ?_|refine bxZ ?_|fail)) <;> (try clear zz)
 refine bR (have zz:=aI @aG (aI @ay (aI @aM @aD)); evZ) (have zz:=aI @aG (aI @ay (aI @aM @aD)); evZ) h (ab (am (fJ _ _) (am (ij (am (fE rfl rfl (am (a9 _ _) aa)) (am (fE rfl rfl (am (ax _ _) aa)) aa))) aa)) rfl) ?_
 (have zz:=and_self; repeat' (first|apply a_n|refine zO ?_|refine vZ ?_|refine ah rfl ?_|refine r1Z ?_|fail)) <;> (try clear zz)
 exact .bool _
end Go.Proofs.YtbgdcebmgjafjaaGreat
namespace Go.Proofs.YtbgdcebmgjafjaaGreat
open Go Go.Abs
theorem qt {H:Hp} {sv:AV} {F:List Nat} (h:Row H 1 sv (F.map ua)):Snap H sv (cH (F.map fun (n:Nat)=>(n:Int))):=by
 refine Row.snapI ?_
 rw [List.map_map]; exact h
theorem r9 {c:List Spx} {k:Nat}:oP c k=if b0 (c.getD k default) ≠ 0 then b0 (c.getD k default) else if 0 < k∧0 ≤ bu (c.getD (k - 1) default) (c.getD k default) then 14 else 0:=rfl
theorem zc {c:List Spx} (h1:c.length ≤ 4096) (h:∀ s ∈ c,b0 s=0):OkS c:=⟨by omega,fun s hs=>by
 obtain ⟨a1,a2,a3,a4⟩:=bJ (h s hs)
 exact ⟨a3,by omega⟩⟩
theorem pG {H:Hp} {b:Nat} {cs:List AV} (h:H b=some cs):Sub (only b cs) H:=fun x c hx=>by
 unfold only at hx
 split at hx
 ·rename_i e; rw [e,h]; exact hx
 ·cases hx
def on2 (b1:Nat) (c1:List AV) (b2:Nat) (c2:List AV):Hp:=fun x=>if x=b1 then some c1 else if x=b2 then some c2 else none
theorem Aq {b1 b2:Nat} {c1 c2:List AV}:on2 b1 c1 b2 c2 b1=some c1:=if_pos rfl
theorem AA {b1 b2:Nat} {c1 c2:List AV} (h:b2 ≠ b1):on2 b1 c1 b2 c2 b2=some c2:=by unfold on2; rw [if_neg h,if_pos rfl]
theorem sB {b1 b2:Nat} {c1 c2:List AV} {H:Hp} (h1:H b1=some c1) (h2:H b2=some c2):Sub (on2 b1 c1 b2 c2) H:=fun x cs h=>by
 unfold on2 at h
 split at h
 ·rename_i e; rw [e,h1]; exact h
 ·split at h
  ·rename_i e; rw [e,h2]; exact h
  ·cases h
theorem jN {P:Program} {T:Tm} {H:Hp} {nx:Nat} (b1 b2:Nat) {c1 c2:List AV} {K:CP} {m:Nat} {l:List Op2} {C:List (Nat × Nat)} (h1:H b1=some c1) (h2:H b2=some c2) (hne:b2 ≠ b1) (k:∀ S:Hp,S b1=some c1→S b2=some c2→(∀ H':Hp,H' b1=some c1→H' b2=some c2→Sub S H')→ba P S (C.map fun k=>(l.getD k.1 ⟨none,none,.dead⟩,k.2)) T H nx fun T H nx=>K .normal T H nx):aF P (.mixS m l C) T H nx K :=
 vJ (on2 b1 c1 b2 c2) rfl (sB h1 h2) (k _ Aq (AA hne) fun _ a b=>sB a b)
theorem ms {P:Program} {T:Tm} {H:Hp} {nx:Nat} (b:Nat) {c:List AV} {K:CP} {m:Nat} {l:List Op2} {C:List (Nat × Nat)} (h:H b=some c) (k:∀ S:Hp,S b=some c→(∀ H':Hp,H' b=some c→Sub S H')→ba P S (C.map fun k=>(l.getD k.1 ⟨none,none,.dead⟩,k.2)) T H nx fun T H nx=>K .normal T H nx):aF P (.mixS m l C) T H nx K :=
 vJ (only b c) rfl (pG h) (k _ jD fun _ h=>pG h)
attribute [local irreducible] aF ak be aY aL aO aB aP a7 bt Go.Abs.Fn aW Go.Abs.Pure aw aK Yl
set_option maxHeartbeats 2000000 in
theorem fN (c:List Spx) (hc:Shn c) (hs:∀ s ∈ c,Shn s):Pure Tryz.prog 29 [dP c] (.int .i64 (aU c)):=by
 refine Pure.of_c2 follows Ae (Nat.le_of_ble_eq_true rfl) ?_
 simp only [b29,cO,cG,cN,cM,cD,cF,cB,aq,aH]
 have hc':c.length ≤ 17592186044416:=hc
 by_cases h0:4096 < c.length
 ·rw [show aU c=5 by unfold aU; rw [if_pos h0]]
  (have zz:=aI @av (aI @aG @ay); repeat' (first|refine zW ?_|apply a_n|apply a_r|refine zO ?_|refine vZ ?_|refine bxZ ?_|(refine zGZ ?_ ?_ <;> (intro _hg; try (exfalso; omega)))|refine ah rfl ?_|refine r1Z ?_|fail)) <;> (try clear zz)
  all_goals exact b7 rfl
 rw [show aU c=if cA (oP c) c.length ≠ 0 then cA (oP c) c.length else if c.any (bx c)=true then 7 else 0 by unfold aU; rw [if_neg h0]]
 refine dS ?_
 (have zz:=aI @av (aI @aG @ay); repeat' (first|apply a_n|refine zO ?_|refine vZ ?_|refine bxZ ?_|fail)) <;> (try clear zz)
 refine dS (dS ?_)
 (have zz:=aI @av (aI @aG @ay); repeat' (first|apply a_n|refine zO ?_|refine vZ ?_|(refine zGZ ?_ ?_ <;> (intro _hg; try (exfalso; omega)))|fail)) <;> (try clear zz)
 by_cases hz:cA (oP c) c.length ≠ 0
 ·rw [if_pos hz]
  (have zz:=aI @av (aI @aG @ay); repeat' (first|refine zW ?_|apply a_n|refine zO ?_|refine vZ ?_|fail)) <;> (try clear zz)
  refine aN (X:=Nat) (fun k=>[(1,.ptr 0 1 0),(14,aA c),(15,.int .i64 c.length),(16,.int .i64 k)]) (fun k H nx=>k ≤ c.length∧H 0=some [aA c]∧∀ i,i < k→oP c i=0) (fun k=>c.length - k) 0 ⟨Nat.zero_le _,rfl,fun i h=>absurd h (by omega)⟩ (by (iterate 4 refine And.intro rfl ?_); trivial) ?_
  rintro k H nx ⟨h1,g0,h2⟩
  by_cases hk:k < c.length
  rotate_left
  ·exact absurd (da fun i hi=>h2 i (by omega)) hz
  have ix:=ft hk
  have hs1:=hs _ (bf hk)
  have hp:=jF (c.getD k default) hs1
  have hsp:=r9 (c:=c) (k:=k)
  by_cases he:b0 (c.getD k default) ≠ 0
  ·rw [if_pos he] at hsp
   rw [c8 hk h2 (by rw [hsp]; exact he),hsp]
   have z:decide (b0 (c.getD k default) ≠ 0)=true:=decide_eq_true he
   (have zz:=aI @av (aI @ix @z); repeat' (first|refine zW ?_|apply a_n|apply a_r|refine zO ?_|refine vY ?_|refine cY ?_ (hp:=hp) (hs:=by (first | refine ab ?_ rfl | apply ac); (repeat' (first | exact aa | apply ai | apply ae | exact ax _)); first | done | fail)|refine cTY ?_|(refine zGY ?_ ?_ <;> (intro _hg; try (exfalso; omega)))|refine ah rfl ?_|refine r1Y ?_|fail)) <;> (try clear zz)
   exact .int _ _
  rw [if_neg he] at hsp
  have he:=Decidable.of_not_not he
  rw [he] at hp
  have z:decide ((0:Int) ≠ 0)=false:=rfl
  by_cases hk0:0 < k
  rotate_left
  ·rw [if_neg (fun h=>hk0 h.1)] at hsp
   have zk:decide (0 < (k:Int))=false:=decide_eq_false (by omega)
   (have zz:=aI @av (aI @ix (aI @z @zk)); repeat' (first|refine zW ?_|apply a_n|refine zO ?_|refine vY ?_|refine cY ?_ (hp:=hp) (hs:=by (first | refine ab ?_ rfl | apply ac); (repeat' (first | exact aa | apply ai | apply ae | exact ax _)); first | done | fail)|refine gFY ?_|refine cFY ?_|(refine zGY ?_ ?_ <;> (intro _hg; try (exfalso; omega)))|fail)) <;> (try clear zz)
   exact ⟨k + 1,by omega,⟨by omega,g0,fun i hi=>by
    rcases Nat.lt_succ_iff_lt_or_eq.1 hi with h' | rfl
    ·exact h2 i h'
    ·exact hsp⟩,ag0⟩
  have zk:decide (0 < (k:Int))=true:=decide_eq_true (by omega)
  have iy:eM 1 (aA c) (.int .i64 ((k:Int) - 1))=some (.iptr [ar (c.getD (k - 1) default)] 0):=by
   have:=ft (l:=c) (k:=k - 1) (by omega)
   rwa [show ((k - 1:Nat):Int)=(k:Int) - 1 by omega] at this
  have hcm:=eS (c.getD (k - 1) default) (c.getD k default) (hs _ (bf (by omega))) hs1
  by_cases hv:0 ≤ bu (c.getD (k - 1) default) (c.getD k default)
  ·have z2:decide (0 ≤ bu (c.getD (k - 1) default) (c.getD k default))=true:=decide_eq_true hv
   rw [if_pos ⟨hk0,hv⟩] at hsp
   rw [c8 hk h2 (by rw [hsp]; decide),hsp]
   (have zz:=aI @av (aI @ix (aI @iy (aI @z (aI @zk (aI @z2 @g0))))); repeat' (first|refine zW ?_|apply a_n|apply a_r|refine zO ?_|refine vY ?_|refine cY ?_ (hp:=by first | exact hp | exact hcm) (hs:=by (first | refine ab ?_ rfl | apply ac); (repeat' (first | exact aa | apply ai | apply ae | exact ax _)); first | done | fail)|refine gTY ?_|refine cTY ?_|refine cFY ?_|(refine zGY ?_ ?_ <;> (intro _hg; try (exfalso; omega)))|refine ah rfl ?_|refine r1Y ?_|fail)) <;> (try clear zz)
   exact .int _ _
  ·have z2:decide (0 ≤ bu (c.getD (k - 1) default) (c.getD k default))=false:=decide_eq_false hv
   rw [if_neg (fun h=>hv h.2)] at hsp
   (have zz:=aI @av (aI @ix (aI @iy (aI @z (aI @zk (aI @z2 @g0))))); repeat' (first|refine zW ?_|apply a_n|refine zO ?_|refine vY ?_|refine cY ?_ (hp:=by first | exact hp | exact hcm) (hs:=by (first | refine ab ?_ rfl | apply ac); (repeat' (first | exact aa | apply ai | apply ae | exact ax _)); first | done | fail)|refine gTY ?_|refine cFY ?_|(refine zGY ?_ ?_ <;> (intro _hg; try (exfalso; omega)))|fail)) <;> (try clear zz)
   exact ⟨k + 1,by omega,⟨by omega,g0,fun i hi=>by
    rcases Nat.lt_succ_iff_lt_or_eq.1 hi with h' | rfl
    ·exact h2 i h'
    ·exact hsp⟩,ag0⟩
 have hz:=Decidable.of_not_not hz
 rw [if_neg (fun h=>h hz)]
 obtain ⟨a1,a2⟩:=wO hz
 have hall:=eT hz
 have hok:=zc (by omega) a1
 refine aR (fun T H nx=>T 1=.ptr 0 1 0∧H 0=some [aA c]∧1 ≤ nx) ?_ ?_
 ·(have zz:=aI @av (aI @aG @ay); repeat' (first|refine zW ?_|apply a_n|refine zO ?_|refine vZ ?_|fail)) <;> (try clear zz)
  refine aN (X:=Nat) (fun k=>[(1,.ptr 0 1 0),(14,aA c),(15,.int .i64 c.length),(16,.int .i64 k)]) (fun k H nx=>k ≤ c.length∧H 0=some [aA c]∧1 ≤ nx) (fun k=>c.length - k) 0 ⟨Nat.zero_le _,rfl,by omega⟩ (by (iterate 4 refine And.intro rfl ?_); trivial) ?_
  rintro k H nx ⟨h1,g0,hnx⟩
  by_cases hk:k < c.length
  rotate_left
  ·(have zz:=and_self; repeat' (first|refine zW ?_|apply a_n|apply a_x|refine zO ?_|refine vY ?_|(refine zGY ?_ ?_ <;> (intro _hg; try (exfalso; omega)))|fail)) <;> (try clear zz)
   exact ⟨rfl,g0,hnx⟩
  have ix:=ft hk
  have hs1:=hs _ (bf hk)
  have hp:=jF (c.getD k default) hs1
  rw [a1 _ (bf hk)] at hp
  have z:decide ((0:Int) ≠ 0)=false:=rfl
  by_cases hk0:0 < k
  rotate_left
  ·have zk:decide (0 < (k:Int))=false:=decide_eq_false (by omega)
   (have zz:=aI @av (aI @ix (aI @z @zk)); repeat' (first|refine zW ?_|apply a_n|refine zO ?_|refine vY ?_|refine cY ?_ (hp:=hp) (hs:=by (first | refine ab ?_ rfl | apply ac); (repeat' (first | exact aa | apply ai | apply ae | exact ax _)); first | done | fail)|refine gFY ?_|refine cFY ?_|(refine zGY ?_ ?_ <;> (intro _hg; try (exfalso; omega)))|fail)) <;> (try clear zz)
   exact ⟨k + 1,by omega,⟨by omega,g0,hnx⟩,ag0⟩
  have zk:decide (0 < (k:Int))=true:=decide_eq_true (by omega)
  have iy:eM 1 (aA c) (.int .i64 ((k:Int) - 1))=some (.iptr [ar (c.getD (k - 1) default)] 0):=by
   have:=ft (l:=c) (k:=k - 1) (by omega)
   rwa [show ((k - 1:Nat):Int)=(k:Int) - 1 by omega] at this
  have hcm:=eS (c.getD (k - 1) default) (c.getD k default) (hs _ (bf (by omega))) hs1
  have z2:decide (0 ≤ bu (c.getD (k - 1) default) (c.getD k default))=false:=decide_eq_false (by have:=cr a2 (i:=k - 1) (j:=k) (by omega) hk; omega)
  (have zz:=aI @av (aI @ix (aI @iy (aI @z (aI @zk (aI @z2 @g0))))); repeat' (first|refine zW ?_|apply a_n|refine zO ?_|refine vY ?_|refine cY ?_ (hp:=by first | exact hp | exact hcm) (hs:=by (first | refine ab ?_ rfl | apply ac); (repeat' (first | exact aa | apply ai | apply ae | exact ax _)); first | done | fail)|refine gTY ?_|refine cFY ?_|(refine zGY ?_ ?_ <;> (intro _hg; try (exfalso; omega)))|fail)) <;> (try clear zz)
  exact ⟨k + 1,by omega,⟨by omega,g0,hnx⟩,ag0⟩
 rintro T H nx ⟨t1,g0,hnx⟩
 (have zz:=aI @t1 @g0; repeat' (first|refine zW ?_|apply a_n|refine zO ?_|refine vY ?_|fail)) <;> (try clear zz)
 refine au ev0 (have zz:=@t1; evZ) (kX c hok.1 (fun s hs=>⟨(hok.2 s hs).1,by have:=(hok.2 s hs).2; omega⟩) _ _) ?_
 rintro _ H1 nx1 ⟨ks,vs,rfl,hinc,hsame,hlt⟩
 have g0':H1 0=some [aA c]:=(hsame 0 (by omega)).trans g0
 (have zz:=aI @t1 (aI @g0' @av); repeat' (first|refine zW ?_|apply a_n|refine zO ?_|refine vY ?_|fail)) <;> (try clear zz)
 refine aN (X:=Nat) (fun k=>[(1,.ptr 0 1 0),(6,.mp nx),(44,aA c),(45,.int .i64 c.length),(46,.int .i64 k)]) (fun k H' nx'=>k ≤ c.length∧H'=H1∧nx'=nx1∧∀ i,i < k→bx c (c.getD i default)=false) (fun k=>c.length - k) 0 ⟨Nat.zero_le _,rfl,rfl,fun i h=>absurd h (by omega)⟩ (have zz:=@t1; agZ) ?_
 rintro k H' nx' ⟨h1,rfl,rfl,h2⟩
 by_cases hk:k < c.length
 rotate_left
 ·rw [fQ fun i hi=>h2 i (by omega),if_neg (by decide)]
  (have zz:=and_self; repeat' (first|refine zW ?_|apply a_n|apply a_x|refine zO ?_|refine vY ?_|(refine zGY ?_ ?_ <;> (intro _hg; try (exfalso; omega)))|refine ah rfl ?_|refine r1Y ?_|fail)) <;> (try clear zz)
  exact .int _ _
 have ix:=ft hk
 obtain ⟨p1,p2,p3,p4⟩:=bJ (a1 _ (bf hk))
 have hcv:=n6 c (c.getD k default) hok (hok.2 _ (bf hk)) (by omega)
 have iy:=ix2 (l:=c.getD k default) (k:=0) (by omega)
 rw [show ((0:Nat):Int)=0 from rfl] at iy
 have hks:(c.getD k default).getD 0 default ∈ ks:=(hinc.dom _).2 fun e=>by
  have:k ∈ gu c c.length ((c.getD k default).getD 0 default):=List.mem_filter.2 ⟨List.mem_range.2 hk,decide_eq_true (bf (by omega))⟩
  rw [e] at this; cases this
 have hmf:=lL ((c.getD k default).getD 0 default) ks
 rw [if_pos hks] at hmf
 obtain ⟨m1,m2⟩:=gg hks
 have hr:=hinc.row _ m1
 rw [m2] at hr
 have hcb:bx c (c.getD k default)=true→c.any (bx c)=true:=fun h=>List.any_eq_true.2 ⟨_,bf hk,h⟩
 generalize hsk:c.getD k default=s at *
 (have zz:=@ix; repeat' (first|refine zW ?_|apply a_n|refine zO ?_|refine vY ?_|(refine zGY ?_ ?_ <;> (intro _hg; try (exfalso; omega)))|fail)) <;> (try clear zz)
 refine ms 0 g0' fun S hS0 hsub'=>?_
 have hsub:=hsub' H' g0'
 (have zz:=aI @hS0 @iy; repeat' (first|apply a_n|refine zO ?_|refine nvY ?_|fail)) <;> (try clear zz)
 refine fZ ?_
 refine jV ev0 hinc.box ev0 (mq _) hmf ?_
 refine mJ ⟨hsub,?_⟩
 rw [show mget .esl false (some (ks.idxOf (s.getD 0 default))) vs=vs.getD (ks.idxOf (s.getD 0 default)) .undef from rfl]
 refine i8 ?_
 cases hb:bx c s
 ·rw [hb] at hcv
  refine bR ev0 ev0 hcv (ab (am (a9 _ _) (am (qt hr) (am (ax _ _) aa))) rfl) ?_
  (have zz:=and_self; repeat' (first|apply a_n|refine zO ?_|refine vY ?_|refine cFY ?_|fail)) <;> (try clear zz)
  exact ⟨k + 1,by omega,⟨by omega,rfl,rfl,fun i hi=>by
   rcases Nat.lt_succ_iff_lt_or_eq.1 hi with h' | rfl
   ·exact h2 i h'
   ·rw [hsk]; exact hb⟩,ag0⟩
 ·rw [hb] at hcv
  rw [hcb hb,if_pos rfl]
  refine bR ev0 ev0 hcv (ab (am (a9 _ _) (am (qt hr) (am (ax _ _) aa))) rfl) ?_
  (have zz:=and_self; repeat' (first|refine zW ?_|apply a_n|apply a_r|refine zO ?_|refine vY ?_|refine cTY ?_|refine ah rfl ?_|refine r1Y ?_|fail)) <;> (try clear zz)
  exact .int _ _
end Go.Proofs.YtbgdcebmgjafjaaGreat
namespace Go.Proofs.YtbgdcebmgjafjaaGreat
open Go Go.Abs
open Nat (reduceEqDiff reduceAdd reduceLeDiff)
attribute [local irreducible] aF ak be aY aL aO aB aP a7 bt Go.Abs.Fn aW Go.Abs.Pure aw aK Yl
end Go.Proofs.YtbgdcebmgjafjaaGreat
namespace Go.Proofs.YtbgdcebmgjafjaaGreat
open Go Go.Abs
def cR (m:MapV) (l:Spx):Spx:=dl bl (l.map (iP m))
theorem wc {m:MapV} {v:Vtx} (h:m.to.length=m.fr.length) (hv:v ∈ m.fr):iP m v ∈ m.to:=by
 have:=(gg hv).1
 exact bf (by omega)
attribute [local irreducible] aF ak be aY aL aO aB aP a7 bt Go.Abs.Fn aW Go.Abs.Pure aw aK Yl
end Go.Proofs.YtbgdcebmgjafjaaGreat
namespace Go.Proofs.YtbgdcebmgjafjaaGreat
open Go Go.Abs
open Nat (reduceEqDiff reduceAdd reduceLeDiff)
theorem v5 {l:Spx} (ha:bZ bl l) {k:Nat} (hk:k < l.length):l.getD k default ∉ l.take k:=fun hm=>by
 obtain ⟨i,hi,e⟩:=List.getElem_of_mem hm
 rw [List.length_take] at hi
 rw [List.getElem_take] at e
 have:=cr ha (i:=i) (j:=k) (by omega) hk
 rw [show l.getD i default=l[i] by simp [List.getD,show i < l.length by omega],e] at this
 exact kC.ord.irr _ this
theorem u5 {m:MapV} {v:Vtx} (h:m.to.length=m.fr.length) (hv:v ∈ m.fr):(m.to.map bh).getD (m.fr.idxOf v) .undef=bh (iP m v):=by
 have:=(gg hv).1
 unfold iP
 simp [List.getD,show m.fr.idxOf v < m.to.length by omega]
theorem mD {H:Hp} {B n len:Nat} {C:List AV} {l:Spx} (hB:H B=some C) (hn:C.length=n) (hf:len * 2 ≤ n) (hl:l.length=len) (ht:C.take (len * 2)=cX l):Snap H (.msl B n 2 0 len) (ar l):=by
 refine .msl B n 2 0 len C (l.map bh) hB hn (by omega) (by simp [hl]) (fun y hy=>?_) (fun i j y a c hy hc ha=>?_)
 ·obtain ⟨v,_,rfl⟩:=List.mem_map.1 hy; rfl
 ·have hi:i < l.length:=by
    have:=(List.getElem?_eq_some_iff.1 hy).1
    simpa using this
  have hy':y=bh (l.getD i default):=by
   rw [List.getElem?_map,List.getElem?_eq_getElem hi] at hy
   simp at hy
   rw [← hy]; simp [List.getD,hi]
  subst hy'
  have hj:j < 2:=(List.getElem?_eq_some_iff.1 hc).1
  have h1:C[0 + i * 2 + j]?=(cX l)[i * 2 + j]?:=by
   rw [← ht,List.getElem?_take,if_pos (by omega)]; congr 1; omega
  have h2:(cX l)[i * 2 + j]?=(((cX l).drop (i * 2)).take 2)[j]?:=by
   rw [List.getElem?_take,if_pos hj,List.getElem?_drop]
  rw [h1,h2,rdX hi] at ha
  have:[AV.int .i64 (l.getD i default).color,AV.int .i64 (l.getD i default).label][j]?=some c:=hc
  rw [this] at ha
  cases ha
  match j,hj with
  | 0,_=>cases this; exact .int _ _
  | 1,_=>cases this; exact .int _ _
attribute [local irreducible] aF ak be aY aL aO aB aP a7 bt Go.Abs.Fn aW Go.Abs.Pure aw aK Yl
set_option maxHeartbeats 1000000 in
theorem rE (m:MapV) (hm:ShM m) (H:Hp) (nx:Nat):Abs.Fn Tryz.prog 41 [pu m] H nx fun r H' nx'=>(∀ x,x < nx→H' x=H x)∧nx ≤ nx'∧((dX m=0∧∃ b,r=.tup [.mp b,.int .i64 0]∧nx ≤ b∧b < nx'∧H' b=some [.omap (m.fr.map bh) (m.to.map bh)]) ∨ (dX m ≠ 0∧r=.tup [.undef,.int .i64 (dX m)])):=by
 refine Abs.Fn.of_c2 follows Bg (Nat.le_of_ble_eq_true rfl) ?_
 simp only [b41,cO,cG,cN,cM,cD,cF,cB,aq,aH]
 have hc:=qA m hm
 have hm1':m.fr.length ≤ 17592186044416:=hm.1
 by_cases he:dX m=0
 rotate_left
 ·have z:decide (dX m ≠ 0)=true:=decide_eq_true he
  (have zz:=aI @ap (aI @aM (aI @aD @z)); repeat' (first|refine zW ?_|apply a_n|apply a_r|refine zO ?_|refine vY ?_|refine cY ?_ (hp:=hc) (hs:=by (first | refine ab ?_ rfl | apply ac); (repeat' (first | exact aa | apply ai | apply ae | exact dz _)); first | done | fail)|refine bxY ?_|refine cTY ?_|refine ah rfl ?_|refine r2Y ?_|fail)) <;> (try clear zz)
  exact ⟨fun x hx=>af (by omega),by omega,.inr ⟨he,rfl⟩⟩
 rw [he] at hc
 obtain ⟨q1,q2,q3,q4,q5⟩:=kg he
 have z:decide ((0:Int) ≠ 0)=false:=rfl
 (have zz:=aI @ap (aI @aM (aI @aD @z)); repeat' (first|refine zW ?_|apply a_n|refine zO ?_|refine vY ?_|refine cY ?_ (hp:=hc) (hs:=by (first | refine ab ?_ rfl | apply ac); (repeat' (first | exact aa | apply ai | apply ae | exact dz _)); first | done | fail)|refine bxY ?_|refine cFY ?_|fail)) <;> (try clear zz)
 refine vj ?_
 (have zz:=@ap; repeat' (first|refine zW ?_|apply a_n|refine zO ?_|refine vY ?_|fail)) <;> (try clear zz)
 refine aN (X:=Nat) (fun k=>[(1,.ptr nx 2 0),(5,.mp (nx + 1)),(15,ar m.fr),(16,.int .i64 m.fr.length),(17,.int .i64 k)]) (fun k H' nx'=>k ≤ m.fr.length∧H' nx=some [ar m.fr,ar m.to]∧H' (nx + 1)=some [.omap ((m.fr.take k).map bh) ((m.to.take k).map bh)]∧(∀ x,x < nx→H' x=H x)∧nx + 2 ≤ nx') (fun k=>m.fr.length - k) 0 ⟨Nat.zero_le _,by rw [af (by omega),ag],ag,fun x hx=>by rw [af (by omega),af (by omega)],by omega⟩ (by simp (disch:=omega) only [agr,ZG,reduceEqDiff,↓reduceIte,List.length_cons,List.length_nil,Nat.zero_add,reduceAdd]) ?_
 rintro k H1 nx1 ⟨h1,g0,g1,h2,hnx⟩
 by_cases hk:k < m.fr.length
 rotate_left
 ·obtain rfl:k=m.fr.length:=by omega
  rw [List.take_length,List.take_of_length_le (by omega)] at g1
  (have zz:=and_self; repeat' (first|refine zW ?_|apply a_n|apply a_x|refine zO ?_|refine vY ?_|(refine zGY ?_ ?_ <;> (intro _hg; try (exfalso; omega)))|refine ah rfl ?_|refine r2Y ?_|fail)) <;> (try clear zz)
  exact ⟨h2,by omega,.inl ⟨he,nx + 1,rfl,by omega,by omega,g1⟩⟩
 have ix:=ix2 hk
 have it:=ix2 (l:=m.to) (k:=k) (by omega)
 have hnt:=v5 q3 hk
 have hmf:=lL (m.fr.getD k default) (m.fr.take k)
 rw [if_neg hnt] at hmf
 have e1:(m.fr.take (k + 1)).map bh=(m.fr.take k).map bh ++ [bh (m.fr.getD k default)]:=by rw [bU hk,List.map_append]; rfl
 have e2:(m.to.take (k + 1)).map bh=(m.to.take k).map bh ++ [bh (m.to.getD k default)]:=by rw [bU (by omega),List.map_append]; rfl
 generalize m.fr.getD k default=v at *
 generalize m.to.getD k default=w at *
 (have zz:=@ix; repeat' (first|refine zW ?_|apply a_n|refine zO ?_|refine vY ?_|refine alY ?_|refine stY ?_|(refine zGY ?_ ?_ <;> (intro _hg; try (exfalso; omega)))|fail)) <;> (try clear zz)
 refine jN (c2:=[.int .i64 v.color,.int .i64 v.label]) nx nx1 (by rw [af (by omega),af (by omega)]; exact g0) (by rw [ag]; rfl) (by omega) fun S hS0 hS1 _=>?_
 (have zz:=aI @hS0 (aI @hS1 @it); repeat' (first|apply a_n|refine zO ?_|refine nvY ?_|apply i8|fail)) <;> (try clear zz)
 refine uP ev0 (by rw [af (by omega),af (by omega)]; exact g1) ev0 ev0 (mq v) hmf ?_
 (have zz:=and_self; repeat' (first|apply a_n|refine zO ?_|refine vY ?_|fail)) <;> (try clear zz)
 refine ⟨k + 1,by omega,⟨by omega,by (repeat rw [af (by omega)]); exact g0,?_,fun x hx=>by (repeat rw [af (by omega)]); exact h2 x hx,by omega⟩,ag0⟩
 rw [ag,e1,e2]; rfl
theorem Ca:Cmp2 Tryz.prog bh bl (fun _=>True) 74 [] where
 len _:=rfl
 agg _:=rfl
 ones _:=rfl
 dat x:=bA x
 dcaps x hx:=by cases hx
 run x y _ _:=nA x y
 ord:=kC.ord
theorem zH (m:MapV) (l:Spx) (hlen:m.to.length=m.fr.length) (hl:l.length ≤ 100000) (hl0:l ≠ []) (b:Nat) (H:Hp) (nx:Nat) (hb:H b=some [.omap (m.fr.map bh) (m.to.map bh)]) (hbn:b < nx):Abs.Fn Tryz.prog 57 [.mp b,ar l] H nx fun r H' nx'=>nx ≤ nx'∧((ce m l=false∧r=.tup [.esl,.bool false]∧∀ x,x < nx→H' x=H x) ∨ (ce m l=true∧∃ sv Hf H2,r=.tup [sv,.bool true]∧sv.one=true∧Fz Hf H' H2∧Snap Hf sv (ar (cR m l))∧∀ x,x < nx→H2 x=H x)):=by
 refine Abs.Fn.of_c2 follows Bk (Nat.le_of_ble_eq_true rfl) ?_
 simp only [b57,cO,cG,cN,cM,cD,cF,cB,aq,aH]
 (have zz:=@ap; repeat' (first|refine zW ?_|apply a_n|refine zO ?_|refine vY ?_|fail)) <;> (try clear zz)
 refine aN (X:=AV × Nat) (fun x=>[(0,.mp b),(6,x.1),(11,ar l),(12,.int .i64 l.length),(13,.int .i64 x.2)]) (fun x H' nx'=>x.2 ≤ l.length∧(∀ y,y < nx→H' y=H y)∧nx ≤ nx'∧Row H' 2 x.1 (cX ((l.take x.2).map (iP m)))∧(∀ B,dy x.1=some B→nx ≤ B∧B < nx')∧∀ i,i < x.2→decide (l.getD i default ∈ m.fr)=true) (fun x=>l.length - x.2) (.esl,0) ⟨Nat.zero_le _,fun _ _=>rfl,Nat.le_refl _,Row.nil,fun B h=>(by cases h),fun i h=>absurd h (by omega)⟩ ag0 ?_
 rintro ⟨sv,k⟩ H1 nx1 ⟨h1,h2,h3,hrow,hbd,hz⟩
 dsimp only at h1 hrow hbd hz ⊢
 by_cases hk:k < l.length
 rotate_left
 ·rw [List.take_of_length_le (by omega)] at hrow
  have ht:ce m l=true:=jl fun i hi=>hz i (by omega)
  have hpos:0 < l.length:=List.length_pos_iff.2 hl0
  generalize hM:l.map (iP m)=M at *
  have hMl:M.length=l.length:=by rw [← hM,List.length_map]
  have himg:cR m l=dl bl M:=by unfold cR; rw [hM]
  obtain ⟨B,rfl,hB⟩:∃ B,sv=.msl B (M.length * 2) 2 0 M.length∧H1 B=some (cX M):=by
   generalize hcs:cX M=cs at hrow
   have hcl:=d8 M
   cases hrow with
   | nil=>rw [hcs] at hcl; simp at hcl; omega
   | box B len cs g1 g2 =>
    obtain rfl:len=M.length:=by rw [← hcs,hcl] at g2; omega
    exact ⟨B,rfl,g1⟩
  have hBb:=hbd B rfl
  (have zz:=and_self; repeat' (first|refine zW ?_|apply a_n|apply a_x|refine zO ?_|refine vY ?_|(refine zGY ?_ ?_ <;> (intro _hg; try (exfalso; omega)))|fail)) <;> (try clear zz)
  refine au ev0 ev0 (sr Ca (L:=M) (b:=B) (nx:=nx1) (n:=M.length) hB (by omega) rfl (by omega) (fun _ _=>trivial) (by omega)) ?_
  rintro _ H3 nx3 ⟨L,ps,hperm,hsort⟩
  have hLl:L.length=M.length:=hperm.length_eq
  have hL0:L ≠ []:=fun e=>by rw [e] at hLl; simp at hLl; omega
  have hB3:H3 B=some (cX L):=ps.at_
  rw [← hLl]
  (have zz:=and_self; repeat' (first|refine zW ?_|apply a_n|refine zO ?_|refine vY ?_|fail)) <;> (try clear zz)
  refine au ev0 ev0 (lX L (show _ ≤ _ by omega) hL0 H3 B nx3 hB3 (by have:=ps.le; omega)) ?_
  rintro _ H4 nx4 ⟨rfl,⟨C,rfl,c1,c2⟩,rfl⟩
  have hd:cz L L.length=dl bl M:=kA kC hperm (by rw [hLl]; exact hsort)
  rw [hd] at c2
  have hle:=mN L L.length
  have hdl:=ko L L.length
  rw [hd] at hdl
  (have zz:=and_self; repeat' (first|apply a_n|refine zO ?_|refine vY ?_|refine ah rfl ?_|refine r2Y ?_|fail)) <;> (try clear zz)
  refine ⟨by have:=ps.le; omega,.inr ⟨ht,.msl B (L.length * 2) 2 0 (bm L L.length),only B C,bG (aj H3 B C) B,rfl,rfl,Fz.one ag,?_,fun x hx=>?_⟩⟩
  ·rw [himg]
   exact mD jD c1 (by omega) hdl c2
  ·rw [fl (by omega),af (by omega),ps.fr x (by omega) (by omega)]; exact h2 x hx
 have ix:=ix2 hk
 have hb1:H1 b=some [.omap (m.fr.map bh) (m.to.map bh)]:=(h2 b hbn).trans hb
 have hmf:=lL (l.getD k default) m.fr
 have hcl:(cX ((l.take k).map (iP m))).length=k * 2:=by rw [d8,List.length_map,List.length_take]; omega
 have e1:(l.take (k + 1)).map (iP m)=(l.take k).map (iP m) ++ [iP m (l.getD k default)]:=by rw [bU hk,List.map_append]; rfl
 by_cases hv:l.getD k default ∈ m.fr
 rotate_left
 ·have ht:ce m l=false:=ib hk (decide_eq_false hv)
  rw [if_neg hv] at hmf
  generalize l.getD k default=v at *
  (have zz:=@ix; repeat' (first|refine zW ?_|apply a_n|refine zO ?_|refine vY ?_|refine alY ?_|refine stY ?_|(refine zGY ?_ ?_ <;> (intro _hg; try (exfalso; omega)))|fail)) <;> (try clear zz)
  refine jV ev0 (by rw [af (by omega),af (by omega)]; exact hb1) ev0 (mq v) hmf ?_
  rw [show mget (.agg [.int .i64 0,.int .i64 0]) true none (m.to.map bh)=.tup [.agg [.int .i64 0,.int .i64 0],.bool false] from rfl]
  (have zz:=and_self; repeat' (first|refine zW ?_|apply a_n|apply a_r|refine zO ?_|refine vY ?_|refine alY ?_|refine stY ?_|refine cTY ?_|refine ah rfl ?_|refine r2Y ?_|fail)) <;> (try clear zz)
  exact ⟨by omega,.inl ⟨ht,rfl,fun x hx=>by (repeat rw [af (by omega)]); exact h2 x hx⟩⟩
 rw [if_pos hv] at hmf
 have hmg:=u5 hlen hv
 have hzz:∀ i,i < k + 1→decide (l.getD i default ∈ m.fr)=true:=fun i hi=>by
  rcases Nat.lt_succ_iff_lt_or_eq.1 hi with h' | rfl
  ·exact hz i h'
  ·exact decide_eq_true hv
 generalize l.getD k default=v at *
 generalize iP m v=w at *
 (have zz:=@ix; repeat' (first|refine zW ?_|apply a_n|refine zO ?_|refine vY ?_|refine alY ?_|refine stY ?_|(refine zGY ?_ ?_ <;> (intro _hg; try (exfalso; omega)))|fail)) <;> (try clear zz)
 refine jV ev0 (by rw [af (by omega),af (by omega)]; exact hb1) ev0 (mq v) hmf ?_
 rw [show mget (.agg [.int .i64 0,.int .i64 0]) true (some (m.fr.idxOf v)) (m.to.map bh)=.tup [(m.to.map bh).getD (m.fr.idxOf v) .undef,.bool true] from rfl,hmg]
 (have zz:=and_self; repeat' (first|refine zW ?_|apply a_n|refine zO ?_|refine vY ?_|refine alY ?_|refine stY ?_|refine blY ?_|refine cFY ?_|fail)) <;> (try clear zz)
 refine kF rfl ev0 (hrow.same fun B hB=>?_) ev0 oa rfl rfl (by omega) (by omega) (by omega) ?_
 ·have:=hbd B hB; (repeat rw [af (by omega)])
 rintro s2 H2 nx2 hr2 i1 i2 i3 i4
 (have zz:=and_self; repeat' (first|apply a_n|refine zO ?_|refine vY ?_|fail)) <;> (try clear zz)
 refine ⟨(s2,k + 1),by dsimp only; omega,⟨by dsimp only; omega,fun y hy=>?_,by omega,?_,fun B hB=>?_,hzz⟩,ag0⟩
 ·rw [i3 y (by omega) (fun h=>by have:=hbd y h; omega)]
  (repeat rw [af (by omega)]); exact h2 y hy
 ·dsimp only
  rw [e1,hJ]; exact hr2
 ·rcases i4 B hB with h | h
  ·have:=hbd B h; omega
  ·omega
end Go.Proofs.YtbgdcebmgjafjaaGreat
namespace Go.Proofs.YtbgdcebmgjafjaaGreat
open Go Go.Abs
def dF (m:MapV) (a b:List Spx):Bool × Int:=if dX m ≠ 0 then (false,dX m) else if aU a ≠ 0 then (false,aU a) else if aU b ≠ 0 then (false,aU b) else if a.all (ce m)=false then (false,6) else ((a.map (cR m)).all fun s=>b.any fun t=>cg s t,0)
theorem sY {α:Type} {l:List α} {p:α→Bool}:(!l.any fun x=>!p x)=l.all p:=by
 rw [List.any_eq_not_all_not]; simp
attribute [local irreducible] aF ak be aY aL aO aB aP a7 bt Go.Abs.Fn aW Go.Abs.Pure aw aK Yl
set_option maxHeartbeats 1000000 in
theorem qY (m:MapV) (c:List Spx) (hlen:m.to.length=m.fr.length) (hc:c.length ≤ 5000) (hs:∀ s ∈ c,s.length ≤ 1000∧s ≠ []) (b:Nat) (H:Hp) (nx:Nat) (hb:H b=some [.omap (m.fr.map bh) (m.to.map bh)]) (hbn:b < nx):Abs.Fn Tryz.prog 42 [.mp b,dP c] H nx fun r H' nx'=>nx ≤ nx'∧(∀ x,x < nx→H' x=H x)∧((c.all (ce m)=false∧r=.tup [.esl,.bool false]) ∨ (c.all (ce m)=true∧∃ sv,r=.tup [sv,.bool true]∧Row H' 1 sv ((c.map (cR m)).map ar)∧∀ B,dy sv=some B→nx ≤ B∧B < nx')):=by
 refine Abs.Fn.of_c2 follows Bz (Nat.le_of_ble_eq_true rfl) ?_
 simp only [b42,cO,cG,cN,cM,cD,cF,cB,aq,aH]
 (have zz:=aI @av (aI @aG @ay); repeat' (first|refine zW ?_|apply a_n|refine zO ?_|refine vY ?_|refine bxY ?_|fail)) <;> (try clear zz)
 refine aN (X:=AV × Nat) (fun x=>[(0,.mp b),(6,x.1),(12,aA c),(13,.int .i64 c.length),(14,.int .i64 x.2)]) (fun x H' nx'=>x.2 ≤ c.length∧(∀ y,y < nx→H' y=H y)∧nx ≤ nx'∧Row H' 1 x.1 (((c.take x.2).map (cR m)).map ar)∧(∀ B,dy x.1=some B→nx ≤ B∧B < nx')∧∀ i,i < x.2→ce m (c.getD i default)=true) (fun x=>c.length - x.2) (.esl,0) ⟨Nat.zero_le _,fun y hy=>af (by omega),by omega,Row.nil,fun B h=>(by cases h),fun i h=>absurd h (by omega)⟩ ag0 ?_
 rintro ⟨svo,k⟩ H1 nx1 ⟨h1,h2,h3,hrow,hbd,hz⟩
 dsimp only at h1 hrow hbd hz ⊢
 by_cases hk:k < c.length
 rotate_left
 ·rw [List.take_of_length_le (by omega)] at hrow
  (have zz:=and_self; repeat' (first|refine zW ?_|apply a_n|apply a_x|refine zO ?_|refine vY ?_|(refine zGY ?_ ?_ <;> (intro _hg; try (exfalso; omega)))|refine ah rfl ?_|refine r2Y ?_|fail)) <;> (try clear zz)
  exact ⟨h3,h2,.inr ⟨jl fun i hi=>hz i (by omega),svo,rfl,hrow,hbd⟩⟩
 have ix:=ft hk
 obtain ⟨s1,s2⟩:=hs _ (bf hk)
 have hcl:(((c.take k).map (cR m)).map ar).length=k:=by rw [List.length_map,List.length_map,List.length_take]; omega
 have e1:(c.take (k + 1)).map (cR m)=(c.take k).map (cR m) ++ [cR m (c.getD k default)]:=by rw [bU hk,List.map_append]; rfl
 have hall:ce m (c.getD k default)=false→c.all (ce m)=false:=fun h=>ib hk h
 have hzz:ce m (c.getD k default)=true→∀ i,i < k + 1→ce m (c.getD i default)=true:=fun h i hi=>by
  rcases Nat.lt_succ_iff_lt_or_eq.1 hi with h' | rfl
  ·exact hz i h'
  ·exact h
 have ho:=zH m (c.getD k default) hlen (by omega) s2 b H1 nx1 ((h2 b hbn).trans hb) (by omega)
 obtain ⟨o1,o2⟩:=hrow.one
 generalize c.getD k default=s at *
 (have zz:=@ix; repeat' (first|refine zW ?_|apply a_n|refine zO ?_|refine vY ?_|(refine zGY ?_ ?_ <;> (intro _hg; try (exfalso; omega)))|fail)) <;> (try clear zz)
 refine au ev0 ev0 ho ?_
 rintro _ H2 nx2 ⟨hle,h⟩
 rcases h with ⟨ht,rfl,hsm⟩ | ⟨ht,sv2,Hf,H3,rfl,hone,hfz,hsn,hsm⟩
 ·(have zz:=and_self; repeat' (first|refine zW ?_|apply a_n|apply a_r|refine zO ?_|refine vY ?_|refine cTY ?_|refine ah rfl ?_|refine r2Y ?_|fail)) <;> (try clear zz)
  exact ⟨by omega,fun x hx=>(hsm x (by omega)).trans (h2 x hx),.inl ⟨hall ht,rfl⟩⟩
 (have zz:=and_self; repeat' (first|apply a_n|refine zO ?_|refine vY ?_|fail)) <;> (try clear zz)
 refine dS (dS ?_)
 refine jH Hf H3 [(0,.mp b),(6,svo),(9,ar (cR m s)),(10,.bool true),(12,aA c),(13,.int .i64 c.length),(14,.int .i64 k)] hfz ⟨.inl rfl,.inl rfl,.inr hsn,.inl rfl,.inl rfl,.inl rfl,.inl rfl,trivial⟩ ?_
 (have zz:=aI @aM @aD; repeat' (first|apply a_n|refine zO ?_|refine vY ?_|refine blY ?_|refine cFY ?_|fail)) <;> (try clear zz)
 refine kF rfl ev0 (hrow.same fun B hB=>?_) ev0 fT rfl rfl Nat.one_pos (by omega) (by omega) ?_
 ·have:=hbd B hB; rw [af (by omega)]; exact hsm B (by omega)
 rintro s3 H4 nx4 hr4 i1 i2 i3 i4
 (have zz:=and_self; repeat' (first|apply a_n|refine zO ?_|refine vY ?_|fail)) <;> (try clear zz)
 refine ⟨(s3,k + 1),by dsimp only; omega,⟨by dsimp only; omega,fun y hy=>?_,by omega,?_,fun B hB=>?_,hzz ht⟩,ag0⟩
 ·rw [i3 y (by omega) (fun h=>by have:=hbd y h; omega),af (by omega),hsm y (by omega)]; exact h2 y hy
 ·dsimp only
  rw [e1,List.map_append]; exact hr4
 ·rcases i4 B hB with h | h
  ·have:=hbd B h; omega
  ·omega
theorem zx (v:Vtx) (t:Spx) (ht:Shn t):Pure Tryz.prog 45 [bh v,.iptr [ar t] 0] (.bool (!decide (v ∈ t))):=by
 refine Pure.of_c2 follows zK (Nat.le_of_ble_eq_true rfl) ?_
 simp only [b45,cO,cG,cN,cM,cD,cF,cB,aq,aH]
 have h:=ra t v ht
 (have zz:=and_self; repeat' (first|refine zW ?_|apply a_n|refine zO ?_|refine vZ ?_|refine cZ ?_ (hp:=h) (hs:=by (first | refine ab ?_ rfl | apply ac); (repeat' (first | exact aa | apply ai | apply ae | exact ax _ | exact bA _)); first | done | fail)|refine bxZ ?_|refine ah rfl ?_|refine r1Z ?_|fail)) <;> (try clear zz)
 exact .bool _
theorem BU (s t:Spx) (hs:Shn s) (ht:Shn t):Pure Tryz.prog 43 [ar s,ar t] (.bool (cg s t)):=by
 refine Pure.of_c2 follows Ac (Nat.le_of_ble_eq_true rfl) ?_
 simp only [b43,cO,cG,cN,cM,cD,cF,cB,aq,aH]
 have h:=pp s (fun v=>!decide (v ∈ t)) 45 [.iptr [ar t] 0] (DatL.cons (Dat.iptr (DatL.cons (ax _) DatL.nil)) DatL.nil) (fun v _=>zx v t ht) hs
 (have zz:=aI @aM @aD; repeat' (first|refine zW ?_|apply a_n|refine zO ?_|refine vZ ?_|refine bxZ ?_|fail)) <;> (try clear zz)
 refine bR ev0 ev0 h (ab (am (ax _ _) (am (ij (am (fE rfl rfl (am (ax _ _) aa)) aa)) aa)) rfl) ?_
 (have zz:=and_self; repeat' (first|apply a_n|refine zO ?_|refine vZ ?_|refine ah rfl ?_|refine r1Z ?_|fail)) <;> (try clear zz)
 exact bo sY
theorem y6 (s t:Spx) (hs:Shn s) (ht:Shn t):Pure Tryz.prog 49 [ar t,.iptr [.func 43 []] 0,.iptr [ar s] 0] (.bool (cg s t)):=by
 refine Pure.of_c2 follows Bm (Nat.le_of_ble_eq_true rfl) ?_
 simp only [b49,cO,cG,cN,cM,cD,cF,cB,aq,aH]
 have h:=BU s t hs ht
 (have zz:=and_self; repeat' (first|refine zW ?_|apply a_n|refine zO ?_|refine vZ ?_|refine cZ ?_ (hp:=h) (hs:=by (first | refine ab ?_ rfl | apply ac); (repeat' (first | exact aa | apply ai | apply ae | exact ax _)); first | done | fail)|refine ah rfl ?_|refine r1Z ?_|fail)) <;> (try clear zz)
 exact .bool _
theorem z9 (b:List Spx) (s:Spx) (hb:Shn b) (hbs:∀ t ∈ b,Shn t) (hs:Shn s):Pure Tryz.prog 48 [ar s,.iptr [aA b] 0,.iptr [.func 43 []] 0] (.bool (!b.any fun t=>cg s t)):=by
 refine Pure.of_c2 follows BW (Nat.le_of_ble_eq_true rfl) ?_
 simp only [b48,cO,cG,cN,cM,cD,cF,cB,aq,aH]
 have h:=jB b (fun t=>cg s t) 49 [.iptr [.func 43 []] 0,.iptr [ar s] 0] (DatL.cons (Dat.iptr (DatL.cons (Dat.func DatL.nil) DatL.nil)) (DatL.cons (Dat.iptr (DatL.cons (ax _) DatL.nil)) DatL.nil)) (fun t ht=>y6 s t hs (hbs t ht)) hb
 (have zz:=aI @aM @aD; repeat' (first|refine zW ?_|apply a_n|refine zO ?_|refine vZ ?_|refine bxZ ?_|fail)) <;> (try clear zz)
 refine bR ev0 ev0 h (ab (am (a9 _ _) (am (ij (am (Dat.iptr (DatL.cons (Dat.func DatL.nil) DatL.nil) _) (am (fE rfl rfl (am (ax _ _) aa)) aa))) aa)) rfl) ?_
 (have zz:=and_self; repeat' (first|apply a_n|refine zO ?_|refine vZ ?_|refine ah rfl ?_|refine r1Z ?_|fail)) <;> (try clear zz)
 exact .bool _
set_option maxHeartbeats 2000000 in
theorem oT (m:MapV) (a b:List Spx) (hm:ShM m) (ha:Shn a) (has:∀ s ∈ a,Shn s) (hb:Shn b) (hbs:∀ s ∈ b,Shn s):Pure Tryz.prog 12 [pu m,dP a,dP b] (.tup [.bool (dF m a b).1,.int .i64 (dF m a b).2]):=by
 refine Pure.of_c2 follows Bo (Nat.le_of_ble_eq_true rfl) ?_
 simp only [b12,cO,cG,cN,cM,cD,cF,cB,aq,aH]
 have hca:=fN a ha has
 have hcb:=fN b hb hbs
 unfold dF
 (have zz:=aI @aM (aI @aD (aI @aG @ay)); repeat' (first|refine zW ?_|apply a_n|refine zO ?_|refine vZ ?_|refine bxZ ?_|fail)) <;> (try clear zz)
 refine au ev0 ev0 (rE m hm _ _) ?_
 rintro _ H1 nx1 ⟨hsm,hle,h⟩
 rcases h with ⟨he,B,rfl,hB1,hB2,hB3⟩ | ⟨he,rfl⟩
 rotate_left
 ·rw [if_pos he]
  have z:decide (dX m ≠ 0)=true:=decide_eq_true he
  (have zz:=@z; repeat' (first|refine zW ?_|apply a_n|apply a_r|refine zO ?_|refine vY ?_|refine cTY ?_|refine ah rfl ?_|refine r2Y ?_|fail)) <;> (try clear zz)
  exact gP rfl rfl
 rw [if_neg (fun h=>h he)]
 obtain ⟨q1,q2,q3,q4,q5⟩:=kg he
 have g1:H1 1=some [aA a]:=hsm 1 (by omega)
 have g2:H1 2=some [aA b]:=hsm 2 (by omega)
 have z0:decide ((0:Int) ≠ 0)=false:=rfl
 (have zz:=aI @g1 (aI @g2 @z0); repeat' (first|apply a_n|refine zO ?_|refine vY ?_|fail)) <;> (try clear zz)
 refine dS (dS ?_)
 (have zz:=aI @g1 (aI @g2 @z0); repeat' (first|apply a_n|refine zO ?_|refine vY ?_|refine cFY ?_|fail)) <;> (try clear zz)
 by_cases hea:aU a=0
 rotate_left
 ·rw [if_pos hea]
  have z:decide (aU a ≠ 0)=true:=decide_eq_true hea
  (have zz:=aI @g1 (aI @g2 (aI @aG @ay)); repeat' (first|refine zW ?_|apply a_n|refine zO ?_|refine vY ?_|refine blY ?_|fail)) <;> (try clear zz)
  refine aN (X:=Nat) (fun k=>[(4,.ptr 1 1 0),(26,.msl nx1 2 1 0 2),(27,.int .i64 2),(28,.int .i64 k)]) (fun k H nx=>k=0∧H nx1=some [aA a,aA b]) (fun _=>0) 0 ⟨rfl,ag⟩ (by (iterate 4 refine And.intro rfl ?_); trivial) ?_
  rintro k H nx ⟨rfl,g⟩
  (have zz:=aI @g (aI @z (aI @Nat.zero_mul (aI @aG @ay))); repeat' (first|refine zW ?_|apply a_n|apply a_r|refine zO ?_|refine vY ?_|refine cY ?_ (hp:=hca) (hs:=by (first | refine ab ?_ rfl | apply ac); (repeat' (first | exact aa | apply ai | apply ae | exact bn _)); first | done | fail)|refine alY ?_|refine stY ?_|refine cTY ?_|(refine zGY ?_ ?_ <;> (intro _hg; try (exfalso; omega)))|refine ah rfl ?_|refine r2Y ?_|fail)) <;> (try clear zz)
  exact gP rfl rfl
 rw [if_neg (fun h=>h hea)]
 rw [hea] at hca
 by_cases heb:aU b=0
 rotate_left
 ·rw [if_pos heb]
  have z:decide (aU b ≠ 0)=true:=decide_eq_true heb
  (have zz:=aI @g1 (aI @g2 (aI @aG @ay)); repeat' (first|refine zW ?_|apply a_n|refine zO ?_|refine vY ?_|refine blY ?_|fail)) <;> (try clear zz)
  refine aN (X:=Nat) (fun k=>[(26,.msl nx1 2 1 0 2),(27,.int .i64 2),(28,.int .i64 k)]) (fun k H nx=>k ≤ 1∧H nx1=some [aA a,aA b]∧nx1 < nx) (fun k=>2 - k) 0 ⟨by omega,ag,by omega⟩ (by (iterate 3 refine And.intro rfl ?_); trivial) ?_
  rintro k H nx ⟨hk,g,hnx⟩
  rcases (by omega:k=0 ∨ k=1) with rfl | rfl
  ·(have zz:=aI @g (aI @z0 (aI @Nat.zero_mul (aI @aG @ay))); repeat' (first|refine zW ?_|apply a_n|refine zO ?_|refine vY ?_|refine cY ?_ (hp:=hca) (hs:=by (first | refine ab ?_ rfl | apply ac); (repeat' (first | exact aa | apply ai | apply ae | exact bn _)); first | done | fail)|refine alY ?_|refine stY ?_|refine cFY ?_|(refine zGY ?_ ?_ <;> (intro _hg; try (exfalso; omega)))|fail)) <;> (try clear zz)
   exact ⟨1,by omega,⟨by omega,by (repeat rw [af (by omega)]); exact g,by omega⟩,by (iterate 3 refine And.intro rfl ?_); trivial⟩
  ·(have zz:=aI @g (aI @z (aI @Nat.one_mul (aI @aG @ay))); repeat' (first|refine zW ?_|apply a_n|apply a_r|refine zO ?_|refine vY ?_|refine cY ?_ (hp:=hcb) (hs:=by (first | refine ab ?_ rfl | apply ac); (repeat' (first | exact aa | apply ai | apply ae | exact bn _)); first | done | fail)|refine alY ?_|refine stY ?_|refine cTY ?_|(refine zGY ?_ ?_ <;> (intro _hg; try (exfalso; omega)))|refine ah rfl ?_|refine r2Y ?_|fail)) <;> (try clear zz)
   exact gP rfl rfl
 rw [if_neg (fun h=>h heb)]
 rw [heb] at hcb
 obtain ⟨a1,a2,a3,a4⟩:=bN hea
 refine aR (fun T H nx=>T 4=.ptr 1 1 0∧T 5=.ptr 2 1 0∧T 8=.mp B∧H 1=some [aA a]∧H 2=some [aA b]∧H B=some [.omap (m.fr.map bh) (m.to.map bh)]∧B < nx∧3 ≤ nx) ?_ ?_
 ·(have zz:=aI @g1 (aI @g2 (aI @aG @ay)); repeat' (first|refine zW ?_|apply a_n|refine zO ?_|refine vY ?_|refine blY ?_|fail)) <;> (try clear zz)
  refine aN (X:=Nat) (fun k=>[(4,.ptr 1 1 0),(5,.ptr 2 1 0),(8,.mp B),(26,.msl nx1 2 1 0 2),(27,.int .i64 2),(28,.int .i64 k)]) (fun k H nx=>k ≤ 2∧H nx1=some [aA a,aA b]∧nx1 < nx∧H 1=some [aA a]∧H 2=some [aA b]∧H B=some [.omap (m.fr.map bh) (m.to.map bh)]) (fun k=>2 - k) 0 ⟨by omega,ag,by omega,by rw [af (by omega)]; exact g1,by rw [af (by omega)]; exact g2,by rw [af (by omega)]; exact hB3⟩ (by (iterate 6 refine And.intro rfl ?_); trivial) ?_
  rintro k H nx ⟨hk,g,hnx,g1,g2,g3⟩
  rcases (by omega:k=0 ∨ k=1 ∨ k=2) with rfl | rfl | rfl
  ·(have zz:=aI @g (aI @z0 (aI @Nat.zero_mul (aI @aG @ay))); repeat' (first|refine zW ?_|apply a_n|refine zO ?_|refine vY ?_|refine cY ?_ (hp:=hca) (hs:=by (first | refine ab ?_ rfl | apply ac); (repeat' (first | exact aa | apply ai | apply ae | exact bn _)); first | done | fail)|refine alY ?_|refine stY ?_|refine cFY ?_|(refine zGY ?_ ?_ <;> (intro _hg; try (exfalso; omega)))|fail)) <;> (try clear zz)
   exact ⟨1,by omega,⟨by omega,by (repeat rw [af (by omega)]); exact g,by omega,by (repeat rw [af (by omega)]); exact g1,by (repeat rw [af (by omega)]); exact g2,by (repeat rw [af (by omega)]); exact g3⟩,by (iterate 6 refine And.intro rfl ?_); trivial⟩
  ·(have zz:=aI @g (aI @z0 (aI @Nat.one_mul (aI @aG @ay))); repeat' (first|refine zW ?_|apply a_n|refine zO ?_|refine vY ?_|refine cY ?_ (hp:=hcb) (hs:=by (first | refine ab ?_ rfl | apply ac); (repeat' (first | exact aa | apply ai | apply ae | exact bn _)); first | done | fail)|refine alY ?_|refine stY ?_|refine cFY ?_|(refine zGY ?_ ?_ <;> (intro _hg; try (exfalso; omega)))|fail)) <;> (try clear zz)
   exact ⟨2,by omega,⟨by omega,by (repeat rw [af (by omega)]); exact g,by omega,by (repeat rw [af (by omega)]); exact g1,by (repeat rw [af (by omega)]); exact g2,by (repeat rw [af (by omega)]); exact g3⟩,by (iterate 6 refine And.intro rfl ?_); trivial⟩
  ·(have zz:=and_self; repeat' (first|refine zW ?_|apply a_n|apply a_x|refine zO ?_|refine vY ?_|(refine zGY ?_ ?_ <;> (intro _hg; try (exfalso; omega)))|fail)) <;> (try clear zz)
   exact ⟨rfl,rfl,rfl,g1,g2,g3,by omega,by omega⟩
 clear g1 g2 hB3 hsm
 rintro T H nx ⟨t4,t5,t8,g1,g2,g3,hBn,hnx⟩
 (have zz:=aI @t4 (aI @t5 (aI @t8 @g1)); repeat' (first|refine zW ?_|apply a_n|refine zO ?_|refine vY ?_|fail)) <;> (try clear zz)
 refine au ev0 (have zz:=@t8; evZ) (qY m a q2 (by omega) (fun s hs=>by obtain ⟨p1,p2,p3,p4⟩:=bJ (a2 s hs); exact ⟨by omega,fun e=>by rw [e] at p1; simp at p1⟩) B H nx g3 hBn) ?_
 rintro _ H3 nx3 ⟨hle3,hsm3,h⟩
 rcases h with ⟨ht,rfl⟩ | ⟨ht,sv,rfl,hrow,hbd⟩
 ·rw [if_pos ht]
  (have zz:=and_self; repeat' (first|refine zW ?_|apply a_n|apply a_r|refine zO ?_|refine vY ?_|refine cTY ?_|refine ah rfl ?_|refine r2Y ?_|fail)) <;> (try clear zz)
  exact gP rfl rfl
 rw [if_neg (by rw [ht]; decide)]
 have g2':H3 2=some [aA b]:=(hsm3 2 (by omega)).trans g2
 have hcs:=jB (a.map (cR m)) (fun s=>!b.any fun t=>cg s t) 48 [.iptr [aA b] 0,.iptr [.func 43 []] 0] (DatL.cons (Dat.iptr (DatL.cons (a9 _) DatL.nil)) (DatL.cons (Dat.iptr (DatL.cons (Dat.func DatL.nil) DatL.nil)) DatL.nil)) (fun s hs=>by
  obtain ⟨s0,hs0,rfl⟩:=List.mem_map.1 hs
  refine z9 b _ hb hbs ?_
  obtain ⟨p1,p2,p3,p4⟩:=bJ (a2 s0 hs0)
  have:=fG (K:=bl) (l:=s0.map (iP m))
  rw [List.length_map] at this
  show (cR m s0).length ≤ _
  unfold cR; omega) (by show _ ≤ _; rw [List.length_map]; omega)
 (have zz:=@t5; repeat' (first|refine zW ?_|apply a_n|refine zO ?_|refine vY ?_|refine alY ?_|refine stY ?_|refine cFY ?_|fail)) <;> (try clear zz)
 refine bR ev0 (have zz:=@t5; evZ) hcs (ab (am (g9 (hrow.same fun B hB=>by have:=hbd B hB; (repeat rw [af (by omega)]))) (am (ij (am (fE (by (repeat rw [af (by omega)]); exact g2') rfl (am (a9 _ _) aa)) (am (fE (by rw [ag]; rfl) rfl (am (Dat.func DatL.nil _) aa)) aa))) aa)) rfl) ?_
 (have zz:=and_self; repeat' (first|apply a_n|refine zO ?_|refine vY ?_|refine ah rfl ?_|refine r2Y ?_|fail)) <;> (try clear zz)
 exact gP sY rfl
end Go.Proofs.YtbgdcebmgjafjaaGreat
namespace Go.Proofs.YtbgdcebmgjafjaaGreat
open Go Go.Abs
theorem rF {c:List Spx}:ia c=true ↔ c.length ≤ 30∧∀ s ∈ c,s.length ≤ 10:=by
 unfold ia
 rw [Bool.and_eq_true,decide_eq_true_iff,List.all_eq_true]
 simp only [decide_eq_true_iff]
attribute [local irreducible] aF ak be aY aL aO aB aP a7 bt Go.Abs.Fn aW Go.Abs.Pure aw aK Yl
end Go.Proofs.YtbgdcebmgjafjaaGreat
namespace Go.Proofs.YtbgdcebmgjafjaaGreat
open Go Go.Abs
def bK:Spx→Nat→List Spx
 | _,0=>[[]]
 | [],_ + 1=>[]
 | x :: l,k + 1=>(bK l k).map (x :: ·) ++ bK l (k + 1)
theorem pj {l:Spx}:bK l 0=[[]]:=by cases l <;> rfl
theorem qD {k:Nat}:bK [] (k + 1)=[]:=rfl
theorem kj {x:Vtx} {l:Spx} {k:Nat}:bK (x :: l) (k + 1)=(bK l k).map (x :: ·) ++ bK l (k + 1):=rfl
theorem dY:∀ {l:Spx} {k:Nat} {s:Spx},s ∈ bK l k ↔ s.Sublist l∧s.length=k
 | l,0,s=>by
  rw [pj,List.mem_singleton]
  exact ⟨fun h=>by subst h; exact ⟨List.nil_sublist _,rfl⟩,fun h=>List.length_eq_zero_iff.1 h.2⟩
 | [],k + 1,s=>by
  rw [qD]
  refine ⟨fun h=>(by cases h),fun ⟨h1,h2⟩=>?_⟩
  rw [List.sublist_nil] at h1
  subst h1; simp at h2
 | x :: l,k + 1,s=>by
  rw [kj,List.mem_append,List.mem_map,dY]
  constructor
  ·rintro (⟨t,ht,rfl⟩ | ⟨h1,h2⟩)
   ·have:=dY.1 ht
    exact ⟨this.1.cons_cons x,by simp [this.2]⟩
   ·exact ⟨h1.cons x,h2⟩
  ·rintro ⟨h1,h2⟩
   cases h1 with
   | cons _ h=>exact .inr ⟨h,h2⟩
   | cons_cons _ h=>exact .inl ⟨_,dY.2 ⟨h,by simpa using h2⟩,rfl⟩
theorem rU {l:Spx} {k:Nat} (h:l.length < k):bK l k=[]:=by
 cases e:bK l k with
 | nil=>rfl
 | cons a r =>
  have:=dY.1 (show a ∈ bK l k by rw [e]; exact List.mem_cons_self)
  have:=this.1.length_le
  omega
def chK:Nat→Nat→Nat
 | _,0=>1
 | 0,_ + 1=>0
 | n + 1,k + 1=>chK n k + chK n (k + 1)
theorem Ao {n:Nat}:chK n 0=1:=by cases n <;> rfl
theorem nC:∀ {l:Spx} {k:Nat},(bK l k).length=chK l.length k
 | l,0=>by rw [pj,Ao]; rfl
 | [],k + 1=>rfl
 | x :: l,k + 1=>by
  rw [kj,List.length_append,List.length_map,nC,nC]; rfl
theorem yM {n k:Nat} (hn:n ≤ 8):chK n k ≤ 70:=by
 by_cases hk:k ≤ 8
 ·have:∀ n,n < 9→∀ k,k < 9→chK n k ≤ 70:=by decide
  exact this n (by omega) k (by omega)
 ·have:∀ n k,n < k→chK n k=0:=by
    intro n
    induction n with
    | zero=>intro k h; match k,h with | k + 1,_=>rfl
    | succ n ih=>intro k h; match k,h with | k + 1,h=>show chK n k + chK n (k + 1)=0; rw [ih k (by omega),ih (k + 1) (by omega)]
  rw [this n k (by omega)]; omega
theorem sE {l:Spx} {k:Nat} (h:l.length ≤ 8):(bK l k).length ≤ 70:=by rw [nC]; exact yM h
theorem vn {l s:Spx} {k:Nat} (hl:bZ bl l) (hs:s ∈ bK l k):bZ bl s:=hl.sublist (dY.1 hs).1
theorem tA {l:Spx} {i k:Nat} (hi:i < l.length):bK (l.drop i) (k + 1)=(bK (l.drop (i + 1)) k).map (l.getD i default :: ·) ++ bK (l.drop (i + 1)) (k + 1):=by
 rw [List.drop_eq_getElem_cons hi,kj]
 simp [List.getD,hi]
theorem tJ {v w:Vtx} {l m:Spx}:bu (v :: l) (w :: m)=if bl v w ≠ 0 then bl v w else bu l m:=rfl
end Go.Proofs.YtbgdcebmgjafjaaGreat
namespace Go.Proofs.YtbgdcebmgjafjaaGreat
open Go Go.Abs
open Nat (reduceEqDiff reduceAdd reduceLeDiff)
attribute [local irreducible] aF ak be aY aL aO aB aP a7 bt Go.Abs.Fn aW Go.Abs.Pure aw aK Yl
theorem u0 (s:AV) (l:Spx) (hl:l.length ≤ 1000000) (h0:l ≠ []) (H:Hp) (nx:Nat) (hn:d5 s=some l.length) (hs:∀ H',(∀ x,x < nx→H' x=H x)→cU 2 H' s=some (l.length,cX l)):Abs.Fn Tryz.prog 31 [s] H nx fun r H' nx'=>r=.msl nx (l.length * 2) 2 0 l.length∧H'=aj H nx (cX l)∧nx'=nx + 1:=by
 have hpos:=List.length_pos_iff.2 h0
 refine Abs.Fn.of_c2 follows zr (Nat.le_of_ble_eq_true rfl) ?_
 simp only [b31,cO,cG,cN,cM,cD,cF,cB,aq,aH]
 (have zz:=and_self; repeat' (first|refine zW ?_|apply a_n|refine zO ?_|refine vY ?_|fail)) <;> (try clear zz)
 refine rx (k:=l.length) (by ((try simp only [bL,ZA,reduceEqDiff,↓reduceIte,reduceAdd,reduceLeDiff]); (try with_reducible rfl)); exact hn) (fun h=>?_) (fun h=>by omega) (fun h=>by omega)
 (have zz:=and_self; repeat' (first|refine zW ?_|apply a_n|refine zO ?_|refine vY ?_|refine b0Y ?_|refine cFY ?_|fail)) <;> (try clear zz)
 refine j4 rfl ev0 ev0 (hs _ fun x _=>rfl) (ja _) (by omega) (by omega) ?_
 (have zz:=and_self; repeat' (first|apply a_n|refine zO ?_|refine vY ?_|refine ah rfl ?_|refine r1Y ?_|fail)) <;> (try clear zz)
 exact ⟨rfl,rfl,rfl⟩
theorem zA {y lo kb sb k N:Nat} {s:Spx} (hs:s.length ≤ 1000) (hk:k ≤ 1000) (I:List Spx→Hp→Nat→Prop)
    (hp:∀ S H nx,I S H nx→H kb=some [.int .i64 k]∧H sb=some [ar s]∧lo + 3 ≤ nx∧kb < lo∧sb < lo)
    (stab:∀ S H H' nx nx',I S H nx→nx ≤ nx'→(∀ i,i < nx→¬ (lo ≤ i∧i < lo + 3)→H' i=H i)→I S H' nx')
    (rnd:∀ S f H nx,I S H nx→f.length=k→f ≠ []→S.length < N→Yl Tryz.prog y [.msl nx (k * 2) 2 0 k] (aj H nx (cX f)) (nx + 1) fun r H' nx'=>r=.bool true∧I (S ++ [f]) H' nx'∧nx ≤ nx'∧∀ i,lo ≤ i→i < lo + 3→H' i=H i) :
    ∀ (j:Nat) (ch:Spx) (at_:Nat) (S:List Spx) (H:Hp) (nx:Nat),0 < k→ch.length + j=k→S.length + (bK (s.drop at_) j).length ≤ N→at_ ≤ s.length→I S H nx→H lo=some [.yld y]→H (lo + 1)=some [.func 114 [.ptr kb 1 0,.ptr lo 1 0,.ptr sb 1 0,.ptr (lo + 1) 1 0]]→(∃ C,H (lo + 2)=some C∧C.length=k * 2∧C.take (ch.length * 2)=cX ch) →
     Abs.Fn Tryz.prog 114 [.int .i64 at_,.msl (lo + 2) (k * 2) 2 0 ch.length,.ptr kb 1 0,.ptr lo 1 0,.ptr sb 1 0,.ptr (lo + 1) 1 0] H nx fun r H' nx'=>r=.bool true∧I (S ++ (bK (s.drop at_) j).map (ch ++ ·)) H' nx'∧nx ≤ nx'∧H' lo=H lo∧H' (lo + 1)=H (lo + 1)∧∃ C,H' (lo + 2)=some C∧C.length=k * 2∧C.take (ch.length * 2)=cX ch:=by
 intro j
 induction j with
 | zero =>
  intro ch at_ S H nx hk0 hj hN hat hI h1 h2 ⟨C,h3,hc1,hc2⟩
  obtain ⟨g1,g2,g3,g4,g5⟩:=hp _ _ _ hI
  have hlen:ch.length=k:=by omega
  have hne:ch ≠ []:=fun e=>by rw [e] at hlen; simp at hlen; omega
  obtain rfl:C=cX ch:=by rw [← hc2,List.take_of_length_le (by omega)]
  refine Abs.Fn.of_c2 follows wz (Nat.le_of_ble_eq_true rfl) ?_
  simp only [xx,cO,cG,cN,cM,cD,cF,cB,aq,aH]
  have hcl:=u0 (.msl (lo + 2) (k * 2) 2 0 k) ch (by omega) hne H nx (by rw [hlen]; rfl) (fun H' hH'=>by rw [hlen]; exact (gV (n:=k * 2) (off:=0) (len:=k) ((hH' (lo + 2) (by omega)).trans h3) hc1 (by omega)).trans (by rw [List.drop_zero,List.take_of_length_le (by omega)]))
  rw [hlen] at hcl
  rw [hlen]
  have z:decide ((k:Int)=k)=true:=decide_eq_true rfl
  (have zz:=aI @g1 (aI @g2 (aI @h1 (aI @h2 @z))); repeat' (first|refine zW ?_|apply a_n|refine zO ?_|refine vY ?_|(refine zGY ?_ ?_ <;> (intro _hg; try (exfalso; omega)))|fail)) <;> (try clear zz)
  refine ms lo h1 fun S0 hS hsub=>?_
  (have zz:=@hS; repeat' (first|apply a_n|refine zO ?_|refine nvY ?_|fail)) <;> (try clear zz)
  refine fZ ?_
  refine au ev0 ev0 hcl ?_
  rintro _ H2 nx2 ⟨rfl,rfl,rfl⟩
  refine mJ ⟨hsub _ (by rw [af (by omega)]; exact h1),?_⟩
  refine i8 ?_
  refine xC ev0 ev0 (Yl.mono (rnd S ch H nx hI hlen hne (by rw [pj] at hN; exact hN)) ?_)
  rintro r H3 nx3 ⟨rfl,e1,e2,e3⟩
  (have zz:=and_self; repeat' (first|apply a_n|apply a_r|refine zO ?_|refine nvY ?_|refine ah rfl ?_|refine r1Y ?_|fail)) <;> (try clear zz)
  refine ⟨rfl,?_,e2,e3 _ (by omega) (by omega),e3 _ (by omega) (by omega),cX ch,(e3 _ (by omega) (by omega)).trans h3,hc1,by rw [← hlen]; exact hc2⟩
  rw [pj,List.map_cons,List.map_nil,List.append_nil]
  exact e1
 | succ j ih =>
  intro ch at_ S H nx hk0 hj hN hat hI h1 h2 ⟨C,h3,hc1,hc2⟩
  obtain ⟨g1,g2,g3,g4,g5⟩:=hp _ _ _ hI
  refine Abs.Fn.of_c2 follows wz (Nat.le_of_ble_eq_true rfl) ?_
  simp only [xx,cO,cG,cN,cM,cD,cF,cB,aq,aH]
  have z:decide ((ch.length:Int)=k)=false:=decide_eq_false (by omega)
  (have zz:=aI @g1 (aI @g2 (aI @h1 (aI @h2 @z))); repeat' (first|refine zW ?_|apply a_n|refine zO ?_|refine vY ?_|refine cFY ?_|fail)) <;> (try clear zz)
  refine aN (X:=Nat × List Spx) (fun x=>[(1,.msl (lo + 2) (k * 2) 2 0 ch.length),(4,.ptr sb 1 0),(5,.ptr (lo + 1) 1 0),(9,.int .i64 x.1)]) (fun x H' nx'=>x.1 ≤ s.length∧I x.2 H' nx'∧nx ≤ nx'∧H' lo=H lo∧H' (lo + 1)=H (lo + 1)∧(∃ C,H' (lo + 2)=some C∧C.length=k * 2∧C.take (ch.length * 2)=cX ch)∧x.2 ++ (bK (s.drop x.1) (j + 1)).map (ch ++ ·)=S ++ (bK (s.drop at_) (j + 1)).map (ch ++ ·)) (fun x=>s.length - x.1) (at_,S) ⟨hat,hI,Nat.le_refl _,rfl,rfl,⟨C,h3,hc1,hc2⟩,rfl⟩ ag0 ?_
  rintro ⟨i,S1⟩ H1 nx1 ⟨i1,hI1,i2,i3,i4,⟨C1,k3,d1,d2⟩,htot⟩
  dsimp only at i1 hI1 htot ⊢
  obtain ⟨q1,q2,q3,q4,q5⟩:=hp _ _ _ hI1
  have w1:=i3.trans h1
  have w2:=i4.trans h2
  by_cases hi:i < s.length
  rotate_left
  ·(have zz:=aI @q1 (aI @q2 @ap); repeat' (first|refine zW ?_|apply a_n|apply a_x|refine zO ?_|refine vY ?_|(refine zGY ?_ ?_ <;> (intro _hg; try (exfalso; omega)))|refine ah rfl ?_|refine r1Y ?_|fail)) <;> (try clear zz)
   rw [show s.drop i=[] from List.drop_eq_nil_of_le (by omega),qD,List.map_nil,List.append_nil] at htot
   exact ⟨rfl,by rw [← htot]; exact hI1,i2,i3,i4,C1,k3,d1,d2⟩
  have ix:=ix2 hi
  rw [tA hi,List.map_append,List.map_map,← List.append_assoc] at htot
  have hmm:(bK (s.drop (i + 1)) j).map ((fun x=>ch ++ x) ∘ fun x=>s.getD i default :: x)=(bK (s.drop (i + 1)) j).map ((ch ++ [s.getD i default]) ++ ·):=List.map_congr_left fun x _=>by simp
  rw [hmm] at htot
  generalize s.getD i default=v at *
  (have zz:=aI @q1 (aI @q2 @ap); repeat' (first|refine zW ?_|apply a_n|refine zO ?_|refine vY ?_|(refine zGY ?_ ?_ <;> (intro _hg; try (exfalso; omega)))|fail)) <;> (try clear zz)
  refine jN sb (lo + 1) q2 w2 (by omega) fun S0 hS1 hS2 hsub=>?_
  (have zz:=aI @hS1 (aI @hS2 @ix); repeat' (first|apply a_n|refine zO ?_|refine nvY ?_|fail)) <;> (try clear zz)
  refine fZ ?_
  (have zz:=and_self; repeat' (first|apply a_n|refine zO ?_|refine blY ?_|fail)) <;> (try clear zz)
  refine ⟨hsub _ (by rw [af (by omega)]; exact q2) (by rw [af (by omega)]; exact w2),?_⟩
  refine fZ ?_
  refine v8 (b:=lo + 2) (m:=k * 2) (off:=0) (len:=ch.length) (n:=1) rfl ev0 (by rw [af (by omega)]; exact k3) ev0 oa rfl d1 (fun _=>by omega) (by omega) (by omega) ?_
  refine mJ ⟨hsub _ (by rw [af (by omega),af (by omega)]; exact q2) (by rw [af (by omega),af (by omega)]; exact w2),?_⟩
  refine i8 ?_
  have hl1:(ch ++ [v]).length=ch.length + 1:=by simp
  have hcc:=d8 ch
  have hput:(bb C1 (0 + ch.length * 2) [.int .i64 v.color,.int .i64 v.label]).length=k * 2∧(bb C1 (0 + ch.length * 2) [.int .i64 v.color,.int .i64 v.label]).take ((ch.length + 1) * 2)=cX (ch ++ [v]):=by
   rw [Nat.zero_add]
   simp only [bb]
   refine ⟨by simp [d1]; omega,?_⟩
   rw [d2,hJ,yF,List.take_append_of_le_length (by simp [hcc]; omega),List.take_of_length_le (by simp [hcc]; omega)]
  have hN1:S1.length + (bK (s.drop (i + 1)) j).length ≤ N:=by
   have:=congrArg List.length htot
   simp only [List.length_append,List.length_map] at this
   omega
  have hih:=ih (ch ++ [v]) (i + 1) S1 (aj (aj H1 nx1 [.int .i64 v.color,.int .i64 v.label]) (lo + 2) (bb C1 (0 + ch.length * 2) [.int .i64 v.color,.int .i64 v.label])) (nx1 + 1) hk0 (by omega) hN1 (by omega) (stab _ _ _ _ _ hI1 (by omega) (fun x hx hn=>by rw [af (by omega),af (by omega)])) (by rw [af (by omega),af (by omega)]; exact w1) (by rw [af (by omega),af (by omega)]; exact w2) ⟨_,ag,hput.1,by rw [hl1]; exact hput.2⟩
  rw [hl1,show ((i + 1:Nat):Int)=(i:Int) + 1 by omega] at hih
  refine au ev0 ev0 hih ?_
  rintro r H4 nx4 ⟨rfl,f1,f2,f3,f4,C4,f5,f6,f7⟩
  (have zz:=and_self; repeat' (first|apply a_n|refine zO ?_|refine vY ?_|refine nvY ?_|refine cFY ?_|fail)) <;> (try clear zz)
  refine ⟨(i + 1,S1 ++ (bK (s.drop (i + 1)) j).map ((ch ++ [v]) ++ ·)),by dsimp only; omega,⟨by dsimp only; omega,f1,by omega,f3.trans ?_,f4.trans ?_,⟨C4,f5,f6,?_⟩,htot⟩,ag0⟩
  ·rw [af (by omega),af (by omega)]; exact i3
  ·rw [af (by omega),af (by omega)]; exact i4
  ·have:=congrArg (List.take (ch.length * 2)) f7
   rw [List.take_take,Nat.min_eq_left (by omega),hJ,List.take_append_of_le_length (by omega)] at this
   rw [this]
   exact List.take_of_length_le (by omega)
end Go.Proofs.YtbgdcebmgjafjaaGreat
namespace Go.Proofs.YtbgdcebmgjafjaaGreat
open Go Go.Abs
open Nat (reduceEqDiff reduceAdd reduceLeDiff)
attribute [local irreducible] aF ak be aY aL aO aB aP a7 bt Go.Abs.Fn aW Go.Abs.Pure aw aK Yl
theorem vD {y kb sb k:Nat} {s:Spx} {H:Hp} {nx:Nat} (hs:s.length ≤ 1000) (hk0:0 < k) (hk:k ≤ 1000) (I:List Spx→Hp→Nat→Prop)
    (hp:∀ S H nx',I S H nx'→H kb=some [.int .i64 k]∧H sb=some [ar s]∧nx + 3 ≤ nx'∧kb < nx∧sb < nx)
    (stab:∀ S H H' nx1 nx',I S H nx1→nx1 ≤ nx'→(∀ i,i < nx1→¬ (nx ≤ i∧i < nx + 3)→H' i=H i)→I S H' nx')
    (rnd:∀ S f H nx1,I S H nx1→f.length=k→f ≠ []→S.length < (bK s k).length→Yl Tryz.prog y [.msl nx1 (k * 2) 2 0 k] (aj H nx1 (cX f)) (nx1 + 1) fun r H' nx'=>r=.bool true∧I (S ++ [f]) H' nx'∧nx1 ≤ nx'∧∀ i,nx ≤ i→i < nx + 3→H' i=H i)
    (gk:H kb=some [.int .i64 k]) (lk:kb < nx) (h0:∀ H',(∀ i,i < nx→H' i=H i)→I [] H' (nx + 3)) :
    Abs.Fn Tryz.prog 113 [.yld y,.ptr kb 1 0,.ptr sb 1 0] H nx fun _ H' nx'=>I (bK s k) H' nx':=by
 refine Abs.Fn.of_c2 follows yw (Nat.le_of_ble_eq_true rfl) ?_
 simp only [yN,cO,cG,cN,cM,cD,cF,cB,aq,aH]
 (have zz:=@gk; repeat' (first|refine zW ?_|apply a_n|refine zO ?_|refine vY ?_|refine alY ?_|refine bxY ?_|refine stY ?_|fail)) <;> (try clear zz)
 generalize hH:aj (aj (aj H nx [.yld y]) (nx + 1) [.nilf]) (nx + 1) (bb [.nilf] 0 [.func 114 [.ptr kb 1 0,.ptr nx 1 0,.ptr sb 1 0,.ptr (nx + 1) 1 0]])=H1
 have hfn:H1 (nx + 1)=some [.func 114 [.ptr kb 1 0,.ptr nx 1 0,.ptr sb 1 0,.ptr (nx + 1) 1 0]]:=by rw [← hH,ag]; rfl
 have hfk:H1 kb=some [.int .i64 k]:=by rw [← hH,af (by omega),af (by omega),af (by omega)]; exact gk
 have hfy:H1 nx=some [.yld y]:=by rw [← hH,af (by omega),af (by omega),ag]
 have hfo:∀ i,i < nx→H1 i=H i:=fun i hi=>by rw [← hH,af (by omega),af (by omega),af (by omega)]
 clear hH
 refine jN kb (nx + 1) hfk hfn (by omega) fun S0 hS1 hS2 hsub=>?_
 (have zz:=aI @hS1 @hS2; repeat' (first|apply a_n|refine zO ?_|refine nvY ?_|fail)) <;> (try clear zz)
 refine fZ ?_
 refine xY (k1:=.i64) (k2:=.i64) (n:=0) (m:=k) rfl ev0 ev0 (Int.le_refl _) (by omega) (by omega) (by omega) ?_
 refine mJ ⟨hsub _ (by rw [af (by omega)]; exact hfk) (by rw [af (by omega)]; exact hfn),?_⟩
 refine i8 ?_
 have hz:(aS (AV.agg [AV.int .i64 0,AV.int .i64 0]) k).length=k * 2:=by simp [aS,AV.cells]
 have hih:=zA (y:=y) (N:=(bK s k).length) (lo:=nx) (kb:=kb) (sb:=sb) (k:=k) (s:=s) hs hk I hp stab rnd k [] 0 [] (aj H1 (nx + 2) (aS (AV.agg [AV.int .i64 0,AV.int .i64 0]) k)) (nx + 3) hk0 (by simp) (by simp) (Nat.zero_le _) (h0 _ (fun i hi=>by rw [af (by omega)]; exact hfo i hi)) (by rw [af (by omega)]; exact hfy) (by rw [af (by omega)]; exact hfn) ⟨_,ag,hz,rfl⟩
 refine au ev0 (by ((try simp only [bL,ZA,reduceEqDiff,↓reduceIte,reduceAdd,reduceLeDiff]); (try with_reducible rfl)); rfl) hih ?_
 rintro r H4 nx4 ⟨rfl,f1,-⟩
 (have zz:=and_self; repeat' (first|apply a_n|refine zO ?_|apply x7|refine ah rfl ?_|fail)) <;> (try clear zz)
 rw [List.drop_zero,List.nil_append,show (fun x:Spx=>([]:Spx) ++ x)=id from rfl,List.map_id] at f1
 exact f1
theorem qN {kb sb k:Nat} {s:Spx} {H:Hp} {nx:Nat} (hs:s.length ≤ 8) (hk0:0 < k) (hk:k ≤ 1000) (gk:H kb=some [.int .i64 k]) (gs:H sb=some [ar s]) (lk:kb < nx) (ls:sb < nx) :
    Abs.Fn Tryz.prog 112 [.esl,.func 113 [.ptr kb 1 0,.ptr sb 1 0]] H nx fun r H' nx'=>Row H' 1 r ((bK s k).map ar)∧nx ≤ nx'∧∀ b',dy r=some b'→nx ≤ b'∧b' < nx':=by
 refine Abs.Fn.of_c2 follows yf (Nat.le_of_ble_eq_true rfl) ?_
 simp only [yY,cO,cG,cN,cM,cD,cF,cB,aq,aH]
 (have zz:=and_self; repeat' (first|refine zW ?_|apply a_n|refine zO ?_|refine vY ?_|refine bxY ?_|fail)) <;> (try clear zz)
 refine ul (nx + 1) (nx + 2) rfl rfl ev0 (fun c0 cj hy=>?_)
 refine Abs.Fn.mono (vD (nx:=nx + 2) (kb:=kb) (sb:=sb) (k:=k) (s:=s) (by omega) hk0 hk (fun S H' nx'=>nx + 5 ≤ nx'∧H' kb=some [.int .i64 k]∧H' sb=some [ar s]∧H' (nx + 1)=some [c0]∧∃ sv,H' nx=some [sv]∧Row H' 1 sv (S.map ar)∧∀ b',dy sv=some b'→nx + 5 ≤ b'∧b' < nx') ?_ ?_ ?_ ?_ ?_ ?_) ?_
 ·rintro S H' nx' ⟨h1,h2,h3,h4,h5⟩
  exact ⟨h2,h3,by omega,by omega,by omega⟩
 ·rintro S H1 H2 a c ⟨h1,h2,h3,h4,sv,h5,h6,h7⟩ hac hs'
  refine ⟨by omega,(hs' _ (by omega) (by omega)).trans h2,(hs' _ (by omega) (by omega)).trans h3,(hs' _ (by omega) (by omega)).trans h4,sv,(hs' _ (by omega) (by omega)).trans h5,h6.same (fun b' hb'=>hs' _ (h7 b' hb').2 (by have:=h7 b' hb'; omega)),fun b' hb'=>⟨(h7 b' hb').1,by have:=h7 b' hb'; omega⟩⟩
 ·rintro S f H' nx' ⟨h1,h2,h3,h4,sv,h5,h6,h7⟩ hfl hf0 hSN
  have h4':aj H' nx' (cX f) (nx + 1)=some [c0]:=by rw [af (by omega)]; exact h4
  refine hy _ _ _ _ h4' rfl ?_
  clear hy
  (have zz:=and_self; repeat' (first|apply a_n|refine zO ?_|refine vZ ?_|fail)) <;> (try clear zz)
  refine ⟨h4',?_⟩
  have hS70:=Nat.lt_of_lt_of_le hSN (sE (k:=k) hs)
  have hd:bG (aj H' nx' (cX f)) (nx + 1) nx'=some (cX f):=by rw [fl (by omega),ag]
  have hdo:∀ x,x < nx'→x ≠ nx + 1→bG (aj H' nx' (cX f)) (nx + 1) x=H' x:=fun x a b=>by rw [fl b,af (by omega)]
  generalize bG (aj H' nx' (cX f)) (nx + 1)=H1 at *
  refine dq ?_
  refine jH (only nx' (cX f)) (bG H1 nx') [(2,.ptr nx 1 0),(5,ar f)] (Fz.one hd) ⟨.inl rfl,.inr (sk (s:=.msl nx' (k * 2) 2 0 k) (by rw [← hfl]; exact Row.box nx' f.length (cX f) jD (d8 f))),trivial⟩ ?_
  have he:∀ x,x < nx'→x ≠ nx + 1→bG H1 nx' x=H' x:=fun x a b=>by rw [fl (by omega)]; exact hdo x a b
  have g5:bG H1 nx' nx=some [sv]:=(he nx (by omega) (by omega)).trans h5
  clear hd hdo
  generalize bG H1 nx'=H2 at *
  (have zz:=aI @g5 (aI @aM @aD); repeat' (first|apply a_n|refine zO ?_|refine vY ?_|refine blY ?_|fail)) <;> (try clear zz)
  refine kF rfl ev0 (h6.same fun b' hb'=>?_) ev0 fT rfl rfl Nat.one_pos (by rw [List.length_map]; omega) (by rw [List.length_map]; omega) ?_
  ·have:=h7 b' hb'
   rw [af (by omega)]; exact he _ (by omega) (by omega)
  rintro sv' H3 nx3 r1 r2 r3 r4 r5
  have zs:∀ x,x < nx + 5→dy sv ≠ some x:=fun x hx e=>by have:=h7 x e; omega
  have z:∀ x,x < nx'→x ≠ nx + 1→dy sv ≠ some x→H3 x=H' x:=fun x a1 a2 a3=>(r4 x (by omega) a3).trans (by rw [af (by omega)]; exact he x a1 a2)
  have g6:H3 nx=some [sv]:=(z nx (by omega) (by omega) (zs _ (by omega))).trans h5
  obtain ⟨q1,q2⟩:=r1.one
  (have zz:=aI @g6 (aI @q1 @q2); repeat' (first|apply a_n|refine zO ?_|refine stY ?_|fail)) <;> (try clear zz)
  have w:∀ x,x ≠ nx→x ≠ nx + 1→aj (aj H3 nx (bb [sv] 0 [sv'])) (nx + 1) [c0] x=H3 x:=fun x a1 a2=>by rw [af a2,af a1]
  have u7:∀ b',dy sv'=some b'→nx + 5 ≤ b'∧b' < nx3:=fun b' hb'=>by
   rcases r5 b' hb' with e | ⟨e1,e2⟩
   ·have:=h7 b' e; omega
   ·omega
  refine ⟨rfl,⟨by omega,?_,?_,ag,sv',?_,?_,u7⟩,by omega,fun x x1 x2=>?_⟩
  ·rw [w _ (by omega) (by omega),z _ (by omega) (by omega) (zs _ (by omega)),h2]
  ·rw [w _ (by omega) (by omega),z _ (by omega) (by omega) (zs _ (by omega)),h3]
  ·rw [af (by omega),ag]; rfl
  ·rw [List.map_append]
   exact r1.same (fun b' hb'=>w b' (by have:=u7 b' hb'; omega) (by have:=u7 b' hb'; omega))
  ·rw [w _ (by omega) (by omega),z _ (by omega) (by omega) (zs _ (by omega))]
 ·rw [af (by omega),af (by omega)]; exact gk
 ·omega
 ·intro H' hH'
  refine ⟨by omega,?_,?_,?_,.esl,?_,.nil,fun b' hb'=>(by cases hb')⟩
  ·rw [hH' _ (by omega),af (by omega),af (by omega),gk]
  ·rw [hH' _ (by omega),af (by omega),af (by omega),gs]
  ·rw [hH' _ (by omega),ag]
  ·rw [hH' _ (by omega),af (by omega),ag]
 ·rintro r H' nx' ⟨h1,h2,h3,h4,sv,h5,h6,h7⟩
  refine .inl ⟨h4,?_⟩
  (have zz:=@h5; repeat' (first|refine zW ?_|apply a_n|refine zO ?_|refine vY ?_|refine ah rfl ?_|refine r1Y ?_|fail)) <;> (try clear zz)
  exact ⟨h6.same (fun b' hb'=>fl (by have:=h7 b' hb'; omega)),by omega,fun b' hb'=>by have:=h7 b' hb'; omega⟩
end Go.Proofs.YtbgdcebmgjafjaaGreat
namespace Go.Proofs.YtbgdcebmgjafjaaGreat
open Go Go.Abs
def rh (l:List Spx):List Spx:=(dl bu l).filter fun s=>!bx (dl bu l) s
theorem wD {l:List Spx} {s:Spx}:s ∈ rh l ↔ s ∈ l∧bx l s=false:=by
 unfold rh
 rw [List.mem_filter,c9]
 refine and_congr_right fun _=>?_
 cases h:bx l s
 ·refine ⟨fun _=>rfl,fun _=>?_⟩
  cases h2:bx (dl bu l) s
  ·rfl
  ·obtain ⟨t,t1,t2⟩:=eL.1 h2
   rw [eL.2 ⟨t,c9.1 t1,t2⟩] at h; cases h
 ·refine ⟨fun h2=>?_,fun h2=>by cases h2⟩
  obtain ⟨t,t1,t2⟩:=eL.1 h
  rw [eL.2 ⟨t,c9.2 t1,t2⟩] at h2; cases h2
theorem vb {l:List Spx}:bZ bu (rh l):=(eg nr l).sublist List.filter_sublist
theorem uA {c:List Spx} (h:aU c=0):rh c=c:=by
 obtain ⟨h1,h2,h3,h4⟩:=bN h
 refine io nr vb h3 fun s=>?_
 rw [wD]
 exact ⟨fun h=>h.1,fun h=>⟨h,h4 s h⟩⟩
theorem wE {m:MapV} {l:Spx} {w:Vtx}:w ∈ cR m l ↔ ∃ v ∈ l,iP m v=w:=by
 unfold cR; rw [c9,List.mem_map]
theorem vG {m:MapV} {l:Spx}:bZ bl (cR m l):=eg kC _
theorem sH {m:MapV} {l:Spx}:(cR m l).length ≤ l.length:=by
 unfold cR
 have:=fG (K:=bl) (l:=l.map (iP m))
 rwa [List.length_map] at this
theorem xF {m:MapV} {l:Spx} (h:l ≠ []):cR m l ≠ []:=fun e=>h (by unfold cR at e; rwa [mv,List.map_eq_nil_iff] at e)
theorem gf {m:MapV} {l:Spx}:ce m l=true ↔ ∀ v ∈ l,v ∈ m.fr:=by
 unfold ce; simp [List.all_eq_true]
theorem tV {m:MapV} {l:Spx} (hm:dX m=0) (hl:b0 l=0) (ht:ce m l=true):b0 (cR m l)=0:=by
 obtain ⟨q1,q2,q3,q4,q5⟩:=kg hm
 obtain ⟨p1,p2,p3,p4⟩:=bJ hl
 have hne:l ≠ []:=fun e=>by rw [e] at p1; simp at p1
 refine vB ⟨List.length_pos_iff.2 (xF hne),Nat.le_trans sH p2⟩ vG fun w hw=>?_
 obtain ⟨v,v1,rfl⟩:=wE.1 hw
 exact q5 _ (wc q2 (gf.1 ht v v1))
def lF (m:MapV) (c:List Spx):List Spx × Int:=if dX m ≠ 0 then ([],dX m) else if aU c ≠ 0 then ([],aU c) else if c.all (ce m)=false then ([],6) else (rh (c.map (cR m)),0)
end Go.Proofs.YtbgdcebmgjafjaaGreat
namespace Go.Proofs.YtbgdcebmgjafjaaGreat
open Go Go.Abs
theorem wB {H:Hp} {s:AV} {l:Spx} {e f:Int} (h:Snap H s (ar l)) (he:e=f):Snap H (.tup [s,.int .i64 e]) (.tup [ar l,.int .i64 f]):=by
 subst he; exact eu (am h (am (.int _ _) aa))
theorem nt {H:Hp} {s:AV} {l:List Spx} {e f:Int} (h:Snap H s (aA l)) (he:e=f):Snap H (.tup [.agg [s],.int .i64 e]) (.tup [dP l,.int .i64 f]):=by
 subst he; exact eu (am (nD (am h aa)) (am (.int _ _) aa))
attribute [local irreducible] aF ak be aY aL aO aB aP a7 bt Go.Abs.Fn aW Go.Abs.Pure aw aK Yl
end Go.Proofs.YtbgdcebmgjafjaaGreat
namespace Go.Proofs.YtbgdcebmgjafjaaGreat
open Go Go.Abs
def lU (s:Spx) (k:Int):List Spx × Int:=if b0 s ≠ 0 then ([],b0 s) else if k < 1 ∨ (s.length:Int) < k then ([],2) else (bK s k.toNat,0)
theorem iQ {H:Hp} {s:AV} {l:List Spx} {e f:Int} (h:Snap H s (aA l)) (he:e=f):Snap H (.tup [s,.int .i64 e]) (.tup [aA l,.int .i64 f]):=by
 subst he; exact eu (am h (am (.int _ _) aa))
attribute [local irreducible] aF ak be aY aL aO aB aP a7 bt Go.Abs.Fn aW Go.Abs.Pure aw aK Yl
theorem vP (s:Spx) (k:Nat) (H:Hp) (nx:Nat):Abs.Fn Tryz.prog 76 [ar s,.int .i64 k] H nx fun r H' nx'=>r=.func 113 [.ptr (nx + 1) 1 0,.ptr nx 1 0]∧H'=aj (aj H nx [ar s]) (nx + 1) [.int .i64 k]∧nx'=nx + 2:=by
 refine Abs.Fn.of_c2 follows A0 (Nat.le_of_ble_eq_true rfl) ?_
 simp only [b76,cO,cG,cN,cM,cD,cF,cB,aq,aH]
 (have zz:=aI @aM @aD; repeat' (first|refine zW ?_|apply a_n|refine zO ?_|refine vY ?_|refine bxY ?_|refine ah rfl ?_|refine r1Y ?_|fail)) <;> (try clear zz)
 exact ⟨rfl,rfl,rfl⟩
theorem uE {kb sb k:Nat} {s:Spx} {H:Hp} {nx:Nat} (hs:s.length ≤ 8) (hk0:0 < k) (hk:k ≤ 1000) (gk:H kb=some [.int .i64 k]) (gs:H sb=some [ar s]) (lk:kb < nx) (ls:sb < nx) :
    Abs.Fn Tryz.prog 75 [.func 113 [.ptr kb 1 0,.ptr sb 1 0]] H nx fun r H' nx'=>Row H' 1 r ((bK s k).map ar)∧nx ≤ nx':=by
 refine Abs.Fn.of_c2 follows zU (Nat.le_of_ble_eq_true rfl) ?_
 simp only [b75,cO,cG,cN,cM,cD,cF,cB,aq,aH]
 (have zz:=and_self; repeat' (first|refine zW ?_|apply a_n|refine zO ?_|refine vY ?_|fail)) <;> (try clear zz)
 refine au ev0 ev0 (qN hs hk0 hk gk gs lk ls) ?_
 rintro r H1 nx1 ⟨r1,r2,r3⟩
 obtain ⟨q1,q2⟩:=r1.one
 (have zz:=aI @q1 @q2; repeat' (first|apply a_n|refine zO ?_|refine vY ?_|refine ah rfl ?_|refine r1Y ?_|fail)) <;> (try clear zz)
 exact ⟨r1,r2⟩
theorem va (s:Spx) (k:Int) (hs:Shn s):Pure Tryz.prog 35 [ar s,.int .i64 k] (.tup [aA (lU s k).1,.int .i64 (lU s k).2]):=by
 refine Pure.of_c2 follows Ar (Nat.le_of_ble_eq_true rfl) ?_
 simp only [b35,cO,cG,cN,cM,cD,cF,cB,aq,aH]
 have hc:=jF s hs
 unfold lU
 by_cases he:b0 s=0
 rotate_left
 ·rw [if_pos he]
  have z:decide (b0 s ≠ 0)=true:=decide_eq_true he
  (have zz:=@z; repeat' (first|refine zW ?_|apply a_n|apply a_r|refine zO ?_|refine vY ?_|refine cY ?_ (hp:=hc) (hs:=by (first | refine ab ?_ rfl | apply ac); (repeat' (first | exact aa | apply ai | apply ae | exact ax _)); first | done | fail)|refine cTY ?_|refine ah rfl ?_|refine r2Y ?_|fail)) <;> (try clear zz)
  exact iQ (.eslsl _) rfl
 rw [if_neg (fun h=>h he)]
 rw [he] at hc
 obtain ⟨p1,p2,p3,p4⟩:=bJ he
 have z0:decide ((0:Int) ≠ 0)=false:=rfl
 by_cases hk:k < 1 ∨ (s.length:Int) < k
 ·rw [if_pos hk]
  (have zz:=aI @z0 @ap; repeat' (first|refine zW ?_|apply a_n|apply a_r|refine zO ?_|refine vY ?_|refine cY ?_ (hp:=hc) (hs:=by (first | refine ab ?_ rfl | apply ac); (repeat' (first | exact aa | apply ai | apply ae | exact ax _)); first | done | fail)|refine gTY ?_|refine gFY ?_|refine cTY ?_|refine cFY ?_|(refine zGY ?_ ?_ <;> (intro _hg; try (exfalso; omega)))|refine ah rfl ?_|refine r2Y ?_|fail)) <;> (try clear zz)
  all_goals first | exact iQ (.eslsl _) rfl | (exfalso; omega)
 rw [if_neg hk]
 obtain ⟨n,rfl⟩:∃ n:Nat,k=n:=⟨k.toNat,by omega⟩
 rw [Int.toNat_natCast]
 (have zz:=aI @z0 @ap; repeat' (first|refine zW ?_|apply a_n|refine zO ?_|refine vY ?_|refine cY ?_ (hp:=hc) (hs:=by (first | refine ab ?_ rfl | apply ac); (repeat' (first | exact aa | apply ai | apply ae | exact ax _)); first | done | fail)|refine gTY ?_|refine cFY ?_|(refine zGY ?_ ?_ <;> (intro _hg; try (exfalso; omega)))|fail)) <;> (try clear zz)
 refine au ev0 ev0 (vP s n _ _) ?_
 rintro _ H1 nx1 ⟨rfl,rfl,rfl⟩
 refine au ev0 ev0 (uE (kb:=0 + 1) (sb:=0) (k:=n) (s:=s) p2 (by omega) (by omega) ag (by rw [af (by omega),ag]) (by omega) (by omega)) ?_
 rintro r H2 nx2 ⟨r1,r2⟩
 obtain ⟨q1,q2⟩:=r1.one
 (have zz:=aI @q1 @q2; repeat' (first|apply a_n|refine zO ?_|refine vY ?_|refine ah rfl ?_|refine r2Y ?_|fail)) <;> (try clear zz)
 exact iQ (g9 r1) rfl
end Go.Proofs.YtbgdcebmgjafjaaGreat
namespace Go.Proofs.YtbgdcebmgjafjaaGreat
open Go Go.Abs
attribute [local irreducible] aF ak be aY aL aO aB aP a7 bt Go.Abs.Fn aW Go.Abs.Pure aw aK Yl
end Go.Proofs.YtbgdcebmgjafjaaGreat
namespace Go.Proofs.YtbgdcebmgjafjaaGreat
open Go Go.Abs
attribute [local irreducible] aF ak be aY aL aO aB aP a7 bt Go.Abs.Fn aW Go.Abs.Pure aw aK Yl
end Go.Proofs.YtbgdcebmgjafjaaGreat
namespace Go.Proofs.YtbgdcebmgjafjaaGreat
open Go Go.Abs
open Nat (reduceEqDiff reduceAdd reduceLeDiff)
theorem ui {L:List Spx} {h:Nat} {x:Spx} (hh:h < L.length):(L.set h x).take (h + 1)=L.take h ++ [x]:=by
 rw [bU (by simpa using hh),List.take_set_of_le (Nat.le_refl h)]
 simp [List.getD,hh]
theorem lK {B n len k:Nat} (h:k < len) (hn:n ≠ 0):iO 1 (.msl B n 1 0 len) (some (.int .i64 k)) none none=some (.msl B n 1 k (len - k)):=by
 simp only [iO,bd,Int.natCast_nonneg,if_true,Int.toNat_natCast]
 rw [if_pos ⟨trivial,by omega,Nat.le_refl _,hn⟩,if_pos (.inr h),Nat.zero_add,Nat.mul_one]
theorem rR {B n len k:Nat} (h:k ≤ len) (hn:n ≠ 0):iO 1 (.msl B n 1 0 len) none (some (.int .i64 k)) none=some (.msl B n 1 0 k):=by
 simp only [iO,bd,Int.natCast_nonneg,if_true,Int.toNat_natCast]
 rw [if_pos ⟨trivial,by omega,h,hn⟩,if_pos (.inl trivial),Nat.zero_mul,Nat.sub_zero]
attribute [local irreducible] aF ak be aY aL aO aB aP a7 bt Go.Abs.Fn aW Go.Abs.Pure aw aK Yl
theorem ql (l:List Spx) (hl:Shn l) (hls:∀ s ∈ l,Shn s) (h0:l ≠ []) (H:Hp) (B nx:Nat) (hH:H B=some (l.map ar)) (hB:B < nx) :
    Abs.Fn Tryz.prog 126 [.msl B l.length 1 0 l.length,.func 40 []] H nx fun r H' nx'=>r=.msl B l.length 1 0 (bm l l.length)∧(∃ C,H'=aj H B C∧C.length=l.length∧C.take (bm l l.length)=(cz l l.length).map ar)∧nx'=nx:=by
 refine Abs.Fn.of_c2 follows xX (Nat.le_of_ble_eq_true rfl) ?_
 simp only [yK,cO,cG,cN,cM,cD,cF,cB,aq,aH]
 have hl':l.length ≤ 17592186044416:=hl
 have hpos:=List.length_pos_iff.2 h0
 have hid:H=aj H B (l.map ar):=dr hH
 (have zz:=and_self; repeat' (first|refine zW ?_|apply a_n|apply a_r|refine zO ?_|refine vZ ?_|(refine zGZ ?_ ?_ <;> (intro _hg; try (exfalso; omega)))|refine ah rfl ?_|refine r1Z ?_|fail)) <;> (try clear zz)
 ·have e1:l.length=1:=by omega
  have e2:cz l l.length=l:=by
   match l,e1 with
   | [a],_=>rfl
  refine ⟨?_,⟨_,hid,by simp,?_⟩,rfl⟩
  ·rw [show bm l l.length=l.length by rw [e1]; rfl]
  ·rw [e2,show bm l l.length=l.length by rw [e1]; rfl,List.take_of_length_le (by simp)]
 refine aN (X:=Nat) (fun k=>[(0,.msl B l.length 1 0 l.length),(1,.func 40 []),(5,.int .i64 k)]) (fun k H' nx'=>H'=H∧nx'=nx∧1 ≤ k∧k ≤ l.length∧bm l k=k∧cz l k=l.take k) (fun k=>l.length - k) 1 ⟨rfl,rfl,Nat.le_refl _,hpos,rfl,by match l,h0 with | a :: r,_=>rfl⟩ ag0 ?_
 rintro k H' nx' ⟨rfl,rfl,k1,k2,k3,k4⟩
 by_cases hk:k < l.length
 ·have tk:(k:Int) - 1=(k - 1:Nat):=by omega
  have heq:=qy (l.getD k default) (l.getD (k - 1) default) (hls _ (bf hk)) (hls _ (bf (by omega)))
  by_cases he:l.getD k default=l.getD (k - 1) default
  ·have hs:=lK (B:=B) (n:=l.length) hk (Nat.ne_of_gt hpos)
   rw [decide_eq_true he] at heq
   (have zz:=aI @tk (aI @hH (aI @Int.toNat_natCast (aI @hs (aI @aM @aD)))); repeat' (first|refine zW ?_|refine zM ?_|apply a_n|refine zO ?_|refine vZ ?_|refine cZ ?_ (hp:=heq) (hs:=by (first | refine ab ?_ rfl | apply ac); (repeat' (first | exact aa | apply ai | apply ae | exact ax _)); first | done | fail)|refine cTZ ?_|(refine zGZ ?_ ?_ <;> (intro _hg; try (exfalso; omega)))|fail)) <;> (try clear zz)
   refine aN (X:=Nat × List Spx) (fun x=>[(0,.msl B l.length 1 0 l.length),(1,.func 40 []),(5,.int .i64 (bm l (k + x.1):Nat)),(6,.msl B l.length 1 k (l.length - k)),(7,.int .i64 x.1)]) (fun x H2 nx2=>x.2.length=l.length∧1 ≤ x.1∧k + x.1 ≤ l.length∧bm l (k + x.1) + 1 ≤ k + x.1∧H2=aj H' B (x.2.map ar)∧nx2=nx'∧(∀ p,k + x.1 ≤ p + 1→x.2.getD p default=l.getD p default)∧x.2.take (bm l (k + x.1))=cz l (k + x.1)) (fun x=>l.length - x.1) (1,l)
    ⟨rfl,Nat.le_refl _,hk,by dsimp only; rw [c7 (by omega) he]; omega,hid,rfl,fun _ _=>rfl,by dsimp only; rw [c7 (by omega) he,gd (by omega) he,k3,k4]⟩ (by simp (disch:=omega) only [agr,ZG,reduceEqDiff,↓reduceIte,c7 (show k ≠ 0 by omega) he,k3]) ?_
   rintro ⟨j,L⟩ H2 nx2 ⟨a1,a2,a3,a4,rfl,rfl,a5,a6⟩
   dsimp only at a1 a2 a3 a4 a5 a6 ⊢
   by_cases hj:k + j < l.length
   ·have tj:(j:Int) - 1=(j - 1:Nat):=by omega
    have r1:=a5 (k + j) (by omega)
    have r2:=a5 (k + (j - 1)) (by omega)
    have heq2:=qy (l.getD (k + j) default) (l.getD (k + (j - 1)) default) (hls _ (bf hj)) (hls _ (bf (by omega)))
    by_cases hd:l.getD (k + j) default=l.getD (k + (j - 1)) default
    ·have hq:bm l (k + (j + 1))=bm l (k + j):=c7 (l:=l) (k:=k + j) (by omega) (by rw [hd,show k + j - 1=k + (j - 1) by omega])
     rw [decide_eq_true hd] at heq2
     (have zz:=aI @tj (aI @Int.toNat_natCast (aI @r1 (aI @r2 (aI @aM @aD)))); repeat' (first|refine zW ?_|refine zM ?_|apply a_n|refine zO ?_|refine vZ ?_|refine cZ ?_ (hp:=heq2) (hs:=by (first | refine ab ?_ rfl | apply ac); (repeat' (first | exact aa | apply ai | apply ae | exact ax _)); first | done | fail)|refine cFZ ?_|(refine zGZ ?_ ?_ <;> (intro _hg; try (exfalso; omega)))|fail)) <;> (try clear zz)
     refine ⟨(j + 1,L),by dsimp only; omega,⟨a1,by dsimp only; omega,by dsimp only; omega,?_,rfl,rfl,fun p hp=>a5 p (by dsimp only at hp; omega),by dsimp only; rw [hq,show k + (j + 1)=k + j + 1 from rfl,gd (by omega) (by rw [hd,show k + j - 1=k + (j - 1) by omega])]; exact a6⟩,(have zz:=@hq; agZ)⟩
     dsimp only
     rw [hq]
     omega
    ·have hq:bm l (k + (j + 1))=bm l (k + j) + 1:=fY (l:=l) (k:=k + j) (by rw [show k + j - 1=k + (j - 1) by omega]; exact hd)
     have hlm:=fw (f:=ar) (l:=L) (k:=bm l (k + j)) (x:=l.getD (k + j) default) (by omega)
     rw [decide_eq_false hd] at heq2
     (have zz:=aI @tj (aI @Int.toNat_natCast (aI @r1 (aI @r2 (aI @aM @aD)))); repeat' (first|refine zW ?_|refine zM ?_|apply a_n|refine zO ?_|refine vZ ?_|refine cZ ?_ (hp:=heq2) (hs:=by (first | refine ab ?_ rfl | apply ac); (repeat' (first | exact aa | apply ai | apply ae | exact ax _)); first | done | fail)|refine stZ ?_|refine cTZ ?_|(refine zGZ ?_ ?_ <;> (intro _hg; try (exfalso; omega)))|fail)) <;> (try clear zz)
     refine ⟨(j + 1,L.set (bm l (k + j)) (l.getD (k + j) default)),by dsimp only; omega,⟨by simp [a1],by dsimp only; omega,by dsimp only; omega,?_,?_,rfl,fun p hp=>?_,by dsimp only; rw [hq,ui (by omega),a6,show k + (j + 1)=k + j + 1 from rfl,gn (by rw [show k + j - 1=k + (j - 1) by omega]; exact hd)]⟩,(have zz:=@hq; agZ)⟩
     ·dsimp only
      rw [hq]
      omega
     ·dsimp only
      rw [al,hlm]
     ·dsimp only at hp ⊢
      rw [List.getD_eq_getElem?_getD,List.getElem?_set_ne (by omega),← List.getD_eq_getElem?_getD]
      exact a5 p (by omega)
   ·have hn:k + j=l.length:=by omega
    have hl1:=lK (B:=B) (n:=l.length) (show bm l (k + j) < l.length by omega) (Nat.ne_of_gt hpos)
    have hl2:=rR (B:=B) (n:=l.length) (show bm l (k + j) ≤ l.length by omega) (Nat.ne_of_gt hpos)
    (have zz:=aI @hl1 @hl2; repeat' (first|refine zW ?_|apply a_n|apply a_x|refine zO ?_|refine vZ ?_|(refine zGZ ?_ ?_ <;> (intro _hg; try (exfalso; omega)))|fail)) <;> (try clear zz)
    refine yg (H':=aj (aj H' B (L.map ar)) B (bb (L.map ar) (bm l (k + j)) (aS .esl (l.length - bm l (k + j))))) ?_ ?_
    ·((try simp only [bL,ZA,reduceEqDiff,↓reduceIte,reduceAdd,reduceLeDiff]); (try with_reducible rfl))
     simp only [e5]
     rw [if_neg (by omega),ag]
     dsimp only
     rw [if_pos ⟨by simp [a1],trivial,rfl,rfl,by omega⟩]
     rfl
    ·(have zz:=@hl2; repeat' (first|refine zW ?_|apply a_n|apply a_r|refine zO ?_|refine vZ ?_|refine ah rfl ?_|refine r1Z ?_|fail)) <;> (try clear zz)
     refine ⟨by rw [hn],⟨_,al _ _ _ _,?_,?_⟩,rfl⟩
     ·have hz:(aS AV.esl (l.length - bm l (k + j))).length=l.length - bm l (k + j):=by simp [aS,show AV.esl.cells.length=1 from rfl]
      simp [bb,hz]
      omega
     ·rw [← hn,← a6,List.map_take]
      simp only [bb]
      rw [List.append_assoc,List.take_append_of_le_length (by simp; omega),List.take_of_length_le (by simp; omega)]
  ·rw [decide_eq_false he] at heq
   (have zz:=aI @tk (aI @hH (aI @Int.toNat_natCast (aI @aM @aD))); repeat' (first|refine zW ?_|refine zM ?_|apply a_n|refine zO ?_|refine vZ ?_|refine cZ ?_ (hp:=heq) (hs:=by (first | refine ab ?_ rfl | apply ac); (repeat' (first | exact aa | apply ai | apply ae | exact ax _)); first | done | fail)|refine cFZ ?_|(refine zGZ ?_ ?_ <;> (intro _hg; try (exfalso; omega)))|fail)) <;> (try clear zz)
   exact ⟨k + 1,by omega,⟨rfl,rfl,by omega,by omega,by rw [fY he,k3],by rw [gn he,k4,bU hk]⟩,ag0⟩
 ·(have zz:=and_self; repeat' (first|refine zW ?_|apply a_n|apply a_x|refine zO ?_|refine vZ ?_|(refine zGZ ?_ ?_ <;> (intro _hg; try (exfalso; omega)))|refine ah rfl ?_|refine r1Z ?_|fail)) <;> (try clear zz)
  have e:l.length=k:=by omega
  refine ⟨by rw [e,k3],⟨_,hid,by simp,?_⟩,rfl⟩
  rw [e,k3,k4,← List.map_take]
end Go.Proofs.YtbgdcebmgjafjaaGreat
namespace Go.Proofs.YtbgdcebmgjafjaaGreat
open Go Go.Abs
open Nat (reduceEqDiff reduceAdd reduceLeDiff)
theorem tB {H:Hp} {sz:Nat} {s:AV} {elems:List AV} (h:Row H sz s (elems.flatMap AV.cells)) (hc:∀ y ∈ elems,y.cells.length=sz) (hz:0 < sz) (hd:∀ y ∈ elems,∀ c ∈ y.cells,SnapF H c c):SnapF H s (.sl sz elems):=by
 obtain ⟨f1,f2⟩:=b5 elems hc
 generalize he:elems.flatMap AV.cells=cs at h
 cases h with
 | nil =>
  have:elems.length * sz=0:=by rw [← f1,he]; rfl
  have:elems=[]:=List.length_eq_zero_iff.1 (by
   rcases Nat.mul_eq_zero.1 this with h | h
   ·exact h
   ·omega)
  subst this; exact .eslsl sz
 | box b len cs hb hl =>
  have hlen:elems.length=len:=Nat.eq_of_mul_eq_mul_right hz (by rw [← f1,he,hl])
  refine .msl b (len * sz) sz 0 len cs elems hb hl (by omega) hlen hc (fun i j y a c hy hc' ha=>?_)
  have hj:j < sz:=by rw [← hc y (List.mem_of_getElem? hy)]; exact (List.getElem?_eq_some_iff.1 hc').1
  have key:∀ (l:List AV) (i j:Nat) (y c:AV),(∀ z ∈ l,z.cells.length=sz)→l[i]?=some y→y.cells[j]?=some c→j < sz→(l.flatMap AV.cells)[i * sz + j]?=some c:=by
   intro l
   induction l with
   | nil=>intro i j y c _ h; simp at h
   | cons x l ih =>
    intro i j y c hl hy hc hj
    rw [List.flatMap_cons]
    cases i with
    | zero =>
     simp at hy; subst hy
     rw [Nat.zero_mul,Nat.zero_add,List.getElem?_append_left (by rw [hl x (by simp)]; exact hj)]; exact hc
    | succ i =>
     rw [List.getElem?_append_right (by rw [hl x (by simp),Nat.add_mul]; omega),hl x (by simp)]
     have:=ih i j y c (fun z hz=>hl z (by simp [hz])) (by simpa using hy) hc hj
     rw [← this]; congr 1; rw [Nat.add_mul]; omega
  have:=key elems i j y c hc hy hc' hj
  rw [he,← Nat.zero_add (i * sz)] at this
  rw [this] at ha; cases ha
  exact hd y (List.mem_of_getElem? hy) a (List.mem_of_getElem? hc')
theorem su {H:Hp} {s:AV} {l:Spx} (h:Row H 2 s (cX l)):SnapF H s (ar l):=by
 refine tB (elems:=l.map bh) (by rw [sf]; exact h) (fun y hy=>?_) (by omega) (fun y hy c hx=>?_)
 ·obtain ⟨n,_,rfl⟩:=List.mem_map.1 hy; rfl
 ·obtain ⟨n,_,rfl⟩:=List.mem_map.1 hy
  simp only [bh,AV.cells,List.mem_cons,List.not_mem_nil,or_false] at hx
  rcases hx with rfl | rfl <;> exact .int _ _
attribute [local irreducible] aF ak be aY aL aO aB aP a7 bt Go.Abs.Fn aW Go.Abs.Pure aw aK Yl
theorem oe (l:Spx) (hl:l.length ≤ 1000000):fk Tryz.prog 31 [ar l] (ar l):=by
 refine fk.of_c2 follows zr (Nat.le_of_ble_eq_true rfl) ?_
 simp only [b31,cO,cG,cN,cM,cD,cF,cB,aq,aH]
 (have zz:=and_self; repeat' (first|refine zW ?_|apply a_n|refine zO ?_|refine vY ?_|fail)) <;> (try clear zz)
 have hn:d5 (ar l)=some l.length:=by unfold ar gv; simp [d5]
 refine rx (k:=l.length) (by ((try simp only [bL,ZA,reduceEqDiff,↓reduceIte,reduceAdd,reduceLeDiff]); (try with_reducible rfl)); exact hn) (fun h=>?_) (fun h=>?_) (fun h=>?_)
 ·(have zz:=and_self; repeat' (first|refine zW ?_|apply a_n|refine zO ?_|refine vY ?_|refine b0Y ?_|refine cFY ?_|fail)) <;> (try clear zz)
  refine j4 rfl ev0 ev0 sJ (ja _) (by omega) (by omega) ?_
  (have zz:=and_self; repeat' (first|apply a_n|refine zO ?_|refine vY ?_|refine ah rfl ?_|refine r1Y ?_|fail)) <;> (try clear zz)
  exact su (Row.box _ l.length (cX l) ag (d8 l))
 ·(have zz:=and_self; repeat' (first|refine zW ?_|apply a_n|apply a_r|refine zO ?_|refine vY ?_|refine cTY ?_|refine ah rfl ?_|refine r1Y ?_|fail)) <;> (try clear zz)
  obtain rfl:=List.length_eq_zero_iff.1 h
  exact .eslsl 2
 ·(have zz:=and_self; repeat' (first|refine zW ?_|apply a_n|refine zO ?_|refine vY ?_|refine b0Y ?_|refine cFY ?_|fail)) <;> (try clear zz)
  refine j4 rfl ev0 ev0 sJ (ja _) (by omega) (by omega) ?_
  (have zz:=and_self; repeat' (first|apply a_n|refine zO ?_|refine vY ?_|refine ah rfl ?_|refine r1Y ?_|fail)) <;> (try clear zz)
  exact su (Row.box _ l.length (cX l) ag (d8 l))
theorem tZ (s:AV) (l:List Spx) (hl:l.length ≤ 1000000) (H:Hp) (nx:Nat) (hn:d5 s=some l.length) (hs:∀ H',(∀ x,x < nx→H' x=H x)→cU 1 H' s=some (l.length,l.map ar)):Abs.Fn Tryz.prog 125 [s] H nx fun r H' nx'=>nx' ≤ nx + 1∧nx ≤ nx'∧(∀ x,x < nx→H' x=H x)∧if l=[] then ca r=some (.int .i64 0)∧∀ H'',Snap H'' r (aA []) else r=.msl nx l.length 1 0 l.length∧H'=aj H nx (l.map ar)∧nx'=nx + 1:=by
 refine Abs.Fn.of_c2 follows Ad (Nat.le_of_ble_eq_true rfl) ?_
 simp only [AP,cO,cG,cN,cM,cD,cF,cB,aq,aH]
 have hones:AV.ones (l.map ar)=true:=by
  unfold AV.ones
  rw [List.all_eq_true]
  intro x hx
  obtain ⟨y,_,rfl⟩:=List.mem_map.1 hx
  rfl
 (have zz:=and_self; repeat' (first|refine zW ?_|apply a_n|refine zO ?_|refine vY ?_|fail)) <;> (try clear zz)
 refine rx (k:=l.length) (by ((try simp only [bL,ZA,reduceEqDiff,↓reduceIte,reduceAdd,reduceLeDiff]); (try with_reducible rfl)); exact hn) (fun h=>?_) (fun h=>?_) (fun h=>?_)
 ·(have zz:=and_self; repeat' (first|refine zW ?_|apply a_n|refine zO ?_|refine vY ?_|refine b0Y ?_|refine cFY ?_|fail)) <;> (try clear zz)
  refine j4 rfl ev0 ev0 (hs _ fun x _=>rfl) hones (by omega) (by omega) ?_
  (have zz:=and_self; repeat' (first|apply a_n|refine zO ?_|refine vY ?_|refine ah rfl ?_|refine r1Y ?_|fail)) <;> (try clear zz)
  refine ⟨Nat.le_refl _,by omega,fun x hx=>af (by omega),?_⟩
  rw [if_neg (by rintro rfl; exact absurd h (by simp))]
  exact ⟨rfl,rfl,rfl⟩
 ·(have zz:=and_self; repeat' (first|refine zW ?_|apply a_n|apply a_r|refine zO ?_|refine vY ?_|refine cTY ?_|refine ah rfl ?_|refine r1Y ?_|fail)) <;> (try clear zz)
  refine ⟨by omega,Nat.le_refl _,fun x hx=>rfl,?_⟩
  rw [if_pos (List.length_eq_zero_iff.1 h)]
  exact ⟨rfl,fun _=>.eslsl 1⟩
 ·(have zz:=and_self; repeat' (first|refine zW ?_|apply a_n|refine zO ?_|refine vY ?_|refine b0Y ?_|refine cFY ?_|fail)) <;> (try clear zz)
  refine j4 rfl ev0 ev0 (hs _ fun x _=>rfl) hones (by omega) (by omega) ?_
  (have zz:=and_self; repeat' (first|apply a_n|refine zO ?_|refine vY ?_|refine ah rfl ?_|refine r1Y ?_|fail)) <;> (try clear zz)
  refine ⟨Nat.le_refl _,by omega,fun x hx=>af (by omega),?_⟩
  obtain rfl:=List.length_eq_zero_iff.1 h
  rw [if_pos rfl]
  exact ⟨rfl,fun _=>.mslnil _ _ _ _ _⟩
section
variable {g:Nat} {caps:List AV} {s:AV}
theorem zt (hs:ca s=some (.int .i64 0)) {H:Hp} {nx:Nat}:Abs.Fn Tryz.prog 142 [s,.int .i64 0,.int .i64 0,.func g caps] H nx fun r H' nx'=>nx'=nx∧H'=H:=by
 refine Abs.Fn.of_c2 follows uU (Nat.le_of_ble_eq_true rfl) ?_
 simp only [xc,cO,cG,cN,cM,cD,cF,cB,aq,aH]
 (have zz:=and_self; repeat' (first|refine zW ?_|apply a_n|refine zO ?_|refine vZ ?_|fail)) <;> (try clear zz)
 refine aN (X:=Unit) (fun x=>[(0,s),(1,.int .i64 0),(2,.int .i64 0),(3,.func g caps),(8,.int .i64 1)]) (fun x H' nx'=>H'=H∧nx'=nx) (fun x=>0) () ⟨rfl,rfl⟩ (by simp (disch:=omega) only [agr,ZG,reduceEqDiff,↓reduceIte,Int.zero_add,true_and]) ?_
 rintro _ _ _ ⟨rfl,rfl⟩
 (have zz:=and_self; repeat' (first|refine zW ?_|apply a_n|apply a_x|refine zO ?_|refine vZ ?_|(refine zGZ ?_ ?_ <;> (intro _hg; try (exfalso; omega)))|refine ah rfl ?_|fail)) <;> (try clear zz)
 exact ⟨rfl,rfl⟩
theorem y5 (hs:ca s=some (.int .i64 0)) {H:Hp} {nx:Nat}:Abs.Fn Tryz.prog 129 [s,.int .i64 0,.int .i64 0,.int .i64 0,.func g caps] H nx fun r H' nx'=>nx'=nx∧H'=H:=by
 refine Abs.Fn.of_c2 follows uS (Nat.le_of_ble_eq_true rfl) ?_
 simp only [xq,cO,cG,cN,cM,cD,cF,cB,aq,aH]
 (have zz:=and_self; repeat' (first|refine zW ?_|apply a_n|refine zO ?_|refine vZ ?_|fail)) <;> (try clear zz)
 refine aN (X:=Unit) (fun x=>[(0,s),(1,.int .i64 0),(2,.int .i64 0),(3,.int .i64 0),(4,.func g caps)]) (fun x H' nx'=>H'=H∧nx'=nx) (fun x=>0) () ⟨rfl,rfl⟩ ag0 ?_
 rintro _ _ _ ⟨rfl,rfl⟩
 (have zz:=and_self; repeat' (first|refine zW ?_|apply a_n|refine zO ?_|refine vZ ?_|(refine zGZ ?_ ?_ <;> (intro _hg; try (exfalso; omega)))|fail)) <;> (try clear zz)
 refine au ev0 ev0 (zt hs) ?_
 rintro _ _ _ ⟨rfl,rfl⟩
 (have zz:=and_self; repeat' (first|apply a_n|apply a_r|refine zO ?_|refine ah rfl ?_|fail)) <;> (try clear zz)
 exact ⟨rfl,rfl⟩
theorem mM (hs:ca s=some (.int .i64 0)) {H:Hp} {nx:Nat}:Abs.Fn Tryz.prog 109 [s,.func g caps] H nx fun r H' nx'=>nx'=nx∧H'=H:=by
 refine Abs.Fn.of_c2 follows vo (Nat.le_of_ble_eq_true rfl) ?_
 simp only [xw,cO,cG,cN,cM,cD,cF,cB,aq,aH]
 have w8:IntKind.wrap .u64 0=0:=by decide
 (have zz:=aI @w8 @hs; repeat' (first|refine zW ?_|apply a_n|refine zO ?_|refine vZ ?_|fail)) <;> (try clear zz)
 refine au ev0 (have zz:=@w8; evZ) x5 ?_
 rintro _ _ _ ⟨rfl,rfl,rfl⟩
 (have zz:=and_self; repeat' (first|apply a_n|refine zO ?_|refine vZ ?_|fail)) <;> (try clear zz)
 refine au ev0 ev0 (y5 hs) ?_
 rintro _ _ _ ⟨rfl,rfl⟩
 (have zz:=and_self; repeat' (first|apply a_n|refine zO ?_|refine ah rfl ?_|fail)) <;> (try clear zz)
 exact ⟨rfl,rfl⟩
theorem rN (hs:ca s=some (.int .i64 0)) {H:Hp} {nx:Nat}:Abs.Fn Tryz.prog 126 [s,.func g caps] H nx fun r H' nx'=>r=s∧nx'=nx∧H'=H:=by
 refine Abs.Fn.of_c2 follows xX (Nat.le_of_ble_eq_true rfl) ?_
 simp only [yK,cO,cG,cN,cM,cD,cF,cB,aq,aH]
 (have zz:=@hs; repeat' (first|refine zW ?_|apply a_n|apply a_r|refine zO ?_|refine vZ ?_|(refine zGZ ?_ ?_ <;> (intro _hg; try (exfalso; omega)))|refine ah rfl ?_|refine r1Z ?_|fail)) <;> (try clear zz)
 exact ⟨rfl,rfl,rfl⟩
end
end Go.Proofs.YtbgdcebmgjafjaaGreat
namespace Go.Proofs.YtbgdcebmgjafjaaGreat
open Go Go.Abs
theorem tL {D:List Spx} {k:Nat} {v:Vtx} (hk:k < D.length) (hv:v ∈ D.getD k default):gu D D.length v ≠ []:=fun e=>by
 have:k ∈ gu D D.length v:=List.mem_filter.2 ⟨List.mem_range.2 hk,decide_eq_true hv⟩
 rw [e] at this; cases this
theorem pd {l:List Spx} {p:Spx→Bool} {k:Nat} (hk:k < l.length):(l.take (k + 1)).filter p=(l.take k).filter p ++ if p (l.getD k default)=true then [l.getD k default] else []:=by
 rw [bU hk,List.filter_append]
 cases h:p (l.getD k default)
 ·rw [List.filter_cons_of_neg (by rw [h]; decide),List.filter_nil,if_neg (by decide)]
 ·rw [List.filter_cons_of_pos h,List.filter_nil,if_pos rfl]
attribute [local irreducible] aF ak be aY aL aO aB aP a7 bt Go.Abs.Fn aW Go.Abs.Pure aw aK Yl
theorem zF:Cmp Tryz.prog ar bu (fun s=>Shn s) 59 [] where
 cells _:=rfl
 one _:=rfl
 dat x:=ax x
 dcaps x hx:=by cases hx
 run x y hx hy:=eS x y hx hy
 ord:=nr.ord
theorem qc (l:List Spx) (hl:l.length ≤ 100000) (hs:∀ s ∈ l,bZ bl s∧s.length ≤ 1000∧s ≠ []):Pure Tryz.prog 100 [aA l] (dP (rh l)):=by
 refine Pure.of_c2 follows AM (Nat.le_of_ble_eq_true rfl) ?_
 simp only [AN,cO,cG,cN,cM,cD,cF,cB,aq,aH]
 have hn:d5 (aA l)=some l.length:=by unfold aA gv; simp [d5]
 (have zz:=@av; repeat' (first|refine zW ?_|apply a_n|refine zO ?_|refine vY ?_|refine alY ?_|fail)) <;> (try clear zz)
 refine au ev0 ev0 (tZ _ l (by omega) _ _ hn (fun H' _=>yC)) ?_
 rintro r H1 nx1 ⟨c1,c2,c3,c4⟩
 have hD:∀ s ∈ dl bu l,bZ bl s∧s.length ≤ 1000∧s ≠ []:=fun s h=>hs s (c9.1 h)
 have hDl:(dl bu l).length ≤ 100000:=Nat.le_trans fG hl
 have g0:H1 0=some [.esl]:=(c3 0 (by omega)).trans ag
 have hsort:Abs.Fn Tryz.prog 109 [r,.func 59 []] H1 nx1 fun _ H' nx'=>nx1 ≤ nx'∧H' 0=some [.esl]∧((l=[]∧ca r=some (.int .i64 0)∧∀ H'',Snap H'' r (aA [])) ∨ (l ≠ []∧r=.msl 1 l.length 1 0 l.length∧2 ≤ nx'∧∃ L':List Spx,H' 1=some (L'.map ar)∧L'.Perm l∧aJ bu 0 l.length L')):=by
  by_cases h0:l=[]
  ·rw [if_pos h0] at c4
   refine Abs.Fn.mono (mM c4.1) ?_
   rintro _ _ _ ⟨rfl,rfl⟩
   exact ⟨Nat.le_refl _,g0,.inl ⟨h0,c4⟩⟩
  ·rw [if_neg h0] at c4
   obtain ⟨rfl,rfl,rfl⟩:=c4
   have hpos:=List.length_pos_iff.2 h0
   refine Abs.Fn.mono (sM zF (L:=l) (b:=0 + 1) (n:=l.length) ag (by omega) rfl hpos (fun s h=>show s.length ≤ _ by have:=(hs s h).2.1; omega) (by omega)) ?_
   rintro _ H' nx' ⟨L',ps,p1,p2⟩
   exact ⟨ps.le,by rw [ps.fr 0 (by omega) (by omega)]; exact g0,.inr ⟨h0,rfl,ps.le,L',ps.at_,p1,p2⟩⟩
 have hnx1:1 ≤ nx1:=c2
 clear c4
 (have zz:=and_self; repeat' (first|refine zW ?_|apply a_n|refine zO ?_|refine vY ?_|fail)) <;> (try clear zz)
 refine au ev0 ev0 hsort ?_
 rintro _ H2 nx2 ⟨d1,g2,d3⟩
 have hcmp:Abs.Fn Tryz.prog 126 [r,.func 40 []] H2 nx2 fun r' H' nx'=>nx2 ≤ nx'∧∃ Hf H3,Fz Hf H' H3∧Snap Hf r' (aA (dl bu l))∧H3 0=some [.esl]:=by
  rcases d3 with ⟨h0,e1,e2⟩ | ⟨h0,rfl,e0,L',e1,e2,e3⟩
  ·refine Abs.Fn.mono (rN e1) ?_
   rintro _ _ _ ⟨rfl,rfl,rfl⟩
   refine ⟨Nat.le_refl _,bk,_,Fz.none,?_,g2⟩
   rw [h0]; exact e2 _
  ·have hlen:=e2.length_eq
   have hL0:L' ≠ []:=fun e=>by rw [e] at hlen; simp at hlen; exact h0 (List.length_eq_zero_iff.1 hlen.symm)
   rw [← hlen]
   refine Abs.Fn.mono (ql L' (show _ ≤ _ by omega) (fun s h=>show s.length ≤ _ by have:=(hs s (e2.mem_iff.1 h)).2.1; omega) hL0 H2 1 nx2 e1 (by omega)) ?_
   rintro _ _ _ ⟨rfl,⟨C,rfl,f1,f2⟩,rfl⟩
   have hd:cz L' L'.length=dl bu l:=kA nr e2 (by rw [hlen]; exact e3)
   rw [hd] at f2
   have hle:=mN L' L'.length
   have hdl:=ko L' L'.length
   rw [hd] at hdl
   refine ⟨Nat.le_refl _,only 1 C,bG (aj H2 1 C) 1,Fz.one ag,?_,by rw [fl (by omega),af (by omega)]; exact g2⟩
   refine mz (l:=(dl bu l).map ar) jD f1 (by omega) (by rw [List.length_map]; exact hdl) (fun y hy=>?_) (fun i a c ha hc=>?_)
   ·obtain ⟨z,_,rfl⟩:=List.mem_map.1 hy; rfl
   ·rw [← f2,List.getElem?_take] at hc
    split at hc
    ·rw [Nat.zero_add,hc] at ha; cases ha
     have hm:a ∈ (dl bu l).map ar:=by
      rw [← f2]
      exact List.mem_of_getElem? (i:=i) (by rw [List.getElem?_take,if_pos (by assumption)]; exact hc)
     obtain ⟨z,_,rfl⟩:=List.mem_map.1 hm
     exact ax _ _
    ·cases hc
 clear d3 hsort
 (have zz:=and_self; repeat' (first|refine zW ?_|apply a_n|refine zO ?_|refine vY ?_|fail)) <;> (try clear zz)
 refine au ev0 ev0 hcmp ?_
 rintro r2 H3 nx3 ⟨f1,Hf,H4,hfz,hsn,g4⟩
 have hmx:rh l=(dl bu l).filter fun s=>!bx (dl bu l) s:=rfl
 rw [hmx]
 have hasc:=eg nr l
 generalize dl bu l=D at *
 (have zz:=and_self; repeat' (first|apply a_n|refine zO ?_|refine vY ?_|fail)) <;> (try clear zz)
 refine dS ?_
 refine jH Hf H4 [(0,aA D),(2,.ptr 0 1 0)] hfz ⟨.inr hsn,.inl rfl,trivial⟩ ?_
 clear hfz hsn
 (have zz:=and_self; repeat' (first|apply a_n|refine zO ?_|refine vY ?_|fail)) <;> (try clear zz)
 refine au ev0 ev0 (kX D hDl (fun s h=>⟨(hD s h).1,by have:=(hD s h).2.1; omega⟩) _ _) ?_
 rintro _ H5 nx5 ⟨ks,vs,rfl,hinc,hsame,hlt⟩
 have g5:H5 0=some [.esl]:=(hsame 0 (by omega)).trans g4
 have hOk:OkS D:=⟨hDl,fun s h=>⟨(hD s h).1,(hD s h).2.1⟩⟩
 (have zz:=@av; repeat' (first|refine zW ?_|apply a_n|refine zO ?_|refine vY ?_|refine alY ?_|fail)) <;> (try clear zz)
 refine aN (X:=Nat × AV) (fun x=>[(0,aA D),(2,.ptr 0 1 0),(3,.mp nx3),(4,.ptr nx5 1 0),(15,aA D),(16,.int .i64 D.length),(17,.int .i64 x.1)]) (fun x H' nx'=>x.1 ≤ D.length∧nx5 < nx'∧(∀ y,y < nx5→H' y=H5 y)∧H' nx5=some [x.2]∧Row H' 1 x.2 (((D.take x.1).filter fun s=>!bx D s).map ar)∧∀ B,dy x.2=some B→nx5 < B∧B < nx') (fun x=>D.length - x.1) (0,.esl) ⟨Nat.zero_le _,by omega,fun y hy=>af (by omega),ag,Row.nil,fun B h=>(by cases h)⟩ (by (iterate 7 refine And.intro rfl ?_); trivial) ?_
 rintro ⟨k,sv⟩ H' nx' ⟨h1,hnx',hsm,gb,hrow,hbd⟩
 dsimp only at h1 gb hrow hbd ⊢
 by_cases hk:k < D.length
 rotate_left
 ·rw [List.take_of_length_le (by omega)] at hrow
  obtain ⟨o1,o2⟩:=hrow.one
  have g6:H' 0=some [.esl]:=(hsm 0 (by omega)).trans g5
  (have zz:=aI @gb (aI @g6 (aI @o1 @o2)); repeat' (first|refine zW ?_|apply a_n|apply a_x|refine zO ?_|refine vY ?_|refine stY ?_|(refine zGY ?_ ?_ <;> (intro _hg; try (exfalso; omega)))|refine ah rfl ?_|refine r1Y ?_|fail)) <;> (try clear zz)
  exact nD (am (g9 (hrow.same fun B hB=>af (by have:=hbd B hB; omega))) aa)
 have ix:=ft hk
 have hDk:=hD _ (bf hk)
 have hpos:0 < (D.getD k default).length:=List.length_pos_iff.2 hDk.2.2
 have hcv:=n6 D (D.getD k default) hOk (hOk.2 _ (bf hk)) hpos
 have iy:=ix2 (l:=D.getD k default) (k:=0) hpos
 rw [show ((0:Nat):Int)=0 from rfl] at iy
 have hks:(D.getD k default).getD 0 default ∈ ks:=(hinc.dom _).2 (tL hk (bf hpos))
 have hmf:=lL ((D.getD k default).getD 0 default) ks
 rw [if_pos hks] at hmf
 obtain ⟨m1,m2⟩:=gg hks
 have hr:=hinc.row _ m1
 rw [m2] at hr
 have hr':=hr.same (H':=H') (fun B hB=>hsm B (hinc.bnd _ B m1 hB).2.1)
 have hbox:=(hsm nx3 hinc.lt).trans hinc.box
 have hft:=pd (p:=fun s=>!bx D s) hk
 have hfl:(((D.take k).filter fun s=>!bx D s).map ar).length ≤ 100000:=by
  rw [List.length_map]
  have:=List.length_filter_le (fun s=>!bx D s) (D.take k)
  rw [List.length_take] at this; omega
 generalize hsk:D.getD k default=s at *
 (have zz:=aI @ix @iy; repeat' (first|refine zW ?_|apply a_n|refine zO ?_|refine vY ?_|(refine zGY ?_ ?_ <;> (intro _hg; try (exfalso; omega)))|fail)) <;> (try clear zz)
 refine jV ev0 hbox ev0 (mq _) hmf ?_
 rw [show mget .esl false (some (ks.idxOf (s.getD 0 default))) vs=vs.getD (ks.idxOf (s.getD 0 default)) .undef from rfl]
 (have zz:=and_self; repeat' (first|apply a_n|refine zO ?_|refine vY ?_|fail)) <;> (try clear zz)
 cases hb:bx D s
 ·rw [hb] at hcv hft
  rw [if_pos (by decide)] at hft
  refine bR ev0 ev0 hcv (ab (am (a9 _ _) (am (qt hr') (am (ax _ _) aa))) rfl) ?_
  (have zz:=and_self; repeat' (first|apply a_n|refine zO ?_|refine vY ?_|refine cTY ?_|fail)) <;> (try clear zz)
  refine ms nx5 gb fun S0 hS hsub=>?_
  (have zz:=@hS; repeat' (first|apply a_n|refine zO ?_|refine nvY ?_|fail)) <;> (try clear zz)
  refine fZ ?_
  refine tv ev0 ev0 (oe s (by omega)) (am (ax _ _) aa) ?_
  refine mJ ⟨hsub _ gb,?_⟩
  refine fZ ?_
  (have zz:=aI @aM @aD; repeat' (first|apply a_n|refine zO ?_|refine blY ?_|fail)) <;> (try clear zz)
  refine ⟨hsub _ (by rw [af (by omega)]; exact gb),?_⟩
  refine i8 ?_
  refine kF rfl ev0 (hrow.same fun B hB=>?_) ev0 fT rfl rfl Nat.one_pos (by omega) (by omega) ?_
  ·have:=hbd B hB; rw [af (by omega)]
  rintro s2 H2 nx2 hr2 i1 i2 i3 i4
  have gb2:H2 nx5=some [sv]:=(i3 nx5 (by omega) (fun h=>by have:=hbd _ h; omega)).trans (by rw [af (by omega)]; exact gb)
  obtain ⟨o1,o2⟩:=hr2.one
  (have zz:=aI @gb2 (aI @o1 @o2); repeat' (first|apply a_n|refine zO ?_|refine vY ?_|refine nvY ?_|apply i8|refine stY ?_|fail)) <;> (try clear zz)
  refine ⟨(k + 1,s2),by dsimp only; omega,⟨by dsimp only; omega,by omega,fun y hy=>?_,by rw [ag]; rfl,?_,fun B hB=>?_⟩,ag0⟩
  ·rw [af (by omega),i3 y (by omega) (fun h=>by have:=hbd _ h; omega),af (by omega)]; exact hsm y hy
  ·dsimp only
   rw [hft,List.map_append]
   refine hr2.same fun B hB=>af ?_
   rcases i4 B hB with h | h
   ·have:=hbd B h; omega
   ·omega
  ·rcases i4 B hB with h | h
   ·have:=hbd B h; omega
   ·omega
 ·rw [hb] at hcv hft
  rw [if_neg (by decide),List.append_nil] at hft
  refine bR ev0 ev0 hcv (ab (am (a9 _ _) (am (qt hr') (am (ax _ _) aa))) rfl) ?_
  (have zz:=and_self; repeat' (first|apply a_n|refine zO ?_|refine vY ?_|refine cFY ?_|fail)) <;> (try clear zz)
  exact ⟨(k + 1,sv),by dsimp only; omega,⟨by dsimp only; omega,hnx',hsm,gb,by dsimp only; rw [hft]; exact hrow,hbd⟩,ag0⟩
end Go.Proofs.YtbgdcebmgjafjaaGreat
namespace Go.Proofs.YtbgdcebmgjafjaaGreat
open Go Go.Abs
theorem ze {H:Hp} {s:AV} {l:List Spx} (h:Row H 1 s (l.map ar)):∃ Hf H',Fz Hf H H'∧Snap Hf s (aA l)∧∀ x,dy s ≠ some x→H' x=H x:=by
 generalize hcs:l.map ar=cs at h
 cases h with
 | nil=>exact ⟨bk,H,Fz.none,g9 (by rw [hcs]; exact Row.nil),fun _ _=>rfl⟩
 | box b len cs g1 g2=>exact ⟨only b cs,bG H b,Fz.one g1,g9 (by rw [hcs]; exact Row.box b len cs jD g2),fun x hx=>fl (fun e=>hx (by rw [e]; rfl))⟩
attribute [local irreducible] aF ak be aY aL aO aB aP a7 bt Go.Abs.Fn aW Go.Abs.Pure aw aK Yl
theorem Av (l:List Spx) (hl:l.length ≤ 4096) (hs:∀ s ∈ l,b0 s=0):Pure Tryz.prog 66 [aA l] (.tup [dP (rh l),.int .i64 0]):=by
 refine Pure.of_c2 follows Cf (Nat.le_of_ble_eq_true rfl) ?_
 simp only [b66,cO,cG,cN,cM,cD,cF,cB,aq,aH]
 have hc:=qc l (by omega) (fun s h=>by
  obtain ⟨p1,p2,p3,p4⟩:=bJ (hs s h)
  exact ⟨p3,by omega,fun e=>by rw [e] at p1; simp at p1⟩)
 have z0:decide ((0:Int) ≠ 0)=false:=rfl
 have z1:decide ((4096:Int) < l.length)=false:=decide_eq_false (by omega)
 (have zz:=aI @av @z1; repeat' (first|refine zW ?_|apply a_n|refine zO ?_|refine vY ?_|refine alY ?_|refine cFY ?_|fail)) <;> (try clear zz)
 refine aN (X:=Nat) (fun k=>[(0,aA l),(2,.ptr 0 1 0),(11,aA l),(12,.int .i64 l.length),(13,.int .i64 k)]) (fun k H nx=>k ≤ l.length∧H 0=some [.esl]) (fun k=>l.length - k) 0 ⟨Nat.zero_le _,ag⟩ (by (iterate 5 refine And.intro rfl ?_); trivial) ?_
 rintro k H nx ⟨h1,g0⟩
 by_cases hk:k < l.length
 rotate_left
 ·(have zz:=aI @g0 (aI @aG @ay); repeat' (first|refine zW ?_|apply a_n|apply a_x|refine zO ?_|refine vY ?_|refine cY ?_ (hp:=hc) (hs:=by (first | refine ab ?_ rfl | apply ac); (repeat' (first | exact aa | apply ai | apply ae | exact a9 _)); first | done | fail)|refine stY ?_|(refine zGY ?_ ?_ <;> (intro _hg; try (exfalso; omega)))|refine ah rfl ?_|refine r2Y ?_|fail)) <;> (try clear zz)
  exact nt (a9 _).snap rfl
 have ix:=ft hk
 have hx:=jF (l.getD k default) (by have:=(bJ (hs _ (bf hk))).2.1; show _ ≤ _; omega)
 rw [hs _ (bf hk)] at hx
 (have zz:=aI @ix @z0; repeat' (first|refine zW ?_|apply a_n|refine zO ?_|refine vY ?_|refine cY ?_ (hp:=hx) (hs:=by (first | refine ab ?_ rfl | apply ac); (repeat' (first | exact aa | apply ai | apply ae | exact ax _)); first | done | fail)|refine cFY ?_|(refine zGY ?_ ?_ <;> (intro _hg; try (exfalso; omega)))|fail)) <;> (try clear zz)
 exact ⟨k + 1,by omega,⟨by omega,g0⟩,ag0⟩
theorem xo (m:MapV) (c:List Spx) (hm:ShM m) (hc:Shn c) (hcs:∀ s ∈ c,Shn s):Pure Tryz.prog 25 [pu m,dP c] (.tup [dP (lF m c).1,.int .i64 (lF m c).2]):=by
 refine Pure.of_c2 follows B7 (Nat.le_of_ble_eq_true rfl) ?_
 simp only [b25,cO,cG,cN,cM,cD,cF,cB,aq,aH]
 have hcc:=fN c hc hcs
 unfold lF
 (have zz:=aI @aM (aI @aD (aI @aG @ay)); repeat' (first|refine zW ?_|apply a_n|refine zO ?_|refine vY ?_|refine alY ?_|refine bxY ?_|fail)) <;> (try clear zz)
 refine au ev0 ev0 (rE m hm _ _) ?_
 rintro _ H1 nx1 ⟨hsm,hle,h⟩
 have g1:H1 1=some [aA c]:=(hsm 1 (by omega)).trans (by rw [af (by omega),ag])
 have g2:H1 2=some [.esl]:=(hsm 2 (by omega)).trans ag
 rcases h with ⟨he,B,rfl,hB1,hB2,hB3⟩ | ⟨he,rfl⟩
 rotate_left
 ·rw [if_pos he]
  have z:decide (dX m ≠ 0)=true:=decide_eq_true he
  (have zz:=aI @g2 @z; repeat' (first|refine zW ?_|apply a_n|apply a_r|refine zO ?_|refine vY ?_|refine stY ?_|refine cTY ?_|refine ah rfl ?_|refine r2Y ?_|fail)) <;> (try clear zz)
  exact nt (.eslsl _) rfl
 rw [if_neg (fun h=>h he)]
 obtain ⟨q1,q2,q3,q4,q5⟩:=kg he
 have z0:decide ((0:Int) ≠ 0)=false:=rfl
 by_cases hes:aU c=0
 rotate_left
 ·rw [if_pos hes]
  have z:decide (aU c ≠ 0)=true:=decide_eq_true hes
  (have zz:=aI @g1 (aI @g2 (aI @z0 (aI @z (aI @aG @ay)))); repeat' (first|refine zW ?_|apply a_n|apply a_r|refine zO ?_|refine vY ?_|refine cY ?_ (hp:=hcc) (hs:=by (first | refine ab ?_ rfl | apply ac); (repeat' (first | exact aa | apply ai | apply ae | exact bn _)); first | done | fail)|refine stY ?_|refine cTY ?_|refine cFY ?_|refine ah rfl ?_|refine r2Y ?_|fail)) <;> (try clear zz)
  exact nt (.eslsl _) rfl
 rw [if_neg (fun h=>h hes)]
 rw [hes] at hcc
 obtain ⟨a1,a2,a3,a4⟩:=bN hes
 (have zz:=aI @g1 (aI @g2 (aI @z0 (aI @aG @ay))); repeat' (first|refine zW ?_|apply a_n|refine zO ?_|refine vY ?_|refine cY ?_ (hp:=hcc) (hs:=by (first | refine ab ?_ rfl | apply ac); (repeat' (first | exact aa | apply ai | apply ae | exact bn _)); first | done | fail)|refine cFY ?_|fail)) <;> (try clear zz)
 refine au ev0 ev0 (qY m c q2 (by omega) (fun s hs=>by obtain ⟨p1,p2,p3,p4⟩:=bJ (a2 s hs); exact ⟨by omega,fun e=>by rw [e] at p1; simp at p1⟩) B H1 nx1 hB3 hB2) ?_
 rintro _ H3 nx3 ⟨hle3,hsm3,h⟩
 have g3:H3 2=some [.esl]:=(hsm3 2 (by omega)).trans g2
 rcases h with ⟨ht,rfl⟩ | ⟨ht,sv,rfl,hrow,hbd⟩
 ·rw [if_pos ht]
  (have zz:=@g3; repeat' (first|refine zW ?_|apply a_n|apply a_r|refine zO ?_|refine vY ?_|refine stY ?_|refine cTY ?_|refine ah rfl ?_|refine r2Y ?_|fail)) <;> (try clear zz)
  exact nt (.eslsl _) rfl
 rw [if_neg (by rw [ht]; decide)]
 have htl:∀ s ∈ c,ce m s=true:=List.all_eq_true.1 ht
 have hof:=Av (c.map (cR m)) (by rw [List.length_map]; exact a1) (fun t ht=>by
  obtain ⟨s,s1,rfl⟩:=List.mem_map.1 ht
  exact tV he (a2 s s1) (htl s s1))
 obtain ⟨Hf,H4,hfz,hsn,hoth⟩:=ze hrow
 have g4:H4 2=some [.esl]:=(hoth 2 (fun e=>by have:=hbd 2 e; omega)).trans g3
 (have zz:=and_self; repeat' (first|apply a_n|refine zO ?_|refine vY ?_|fail)) <;> (try clear zz)
 refine dS (dS ?_)
 refine jH Hf H4 [(4,.ptr 2 1 0),(9,aA (c.map (cR m))),(10,.bool true)] hfz ⟨.inl rfl,.inr hsn,.inl rfl,trivial⟩ ?_
 (have zz:=aI @g4 (aI @aG @ay); repeat' (first|refine zW ?_|apply a_n|refine zO ?_|refine vY ?_|refine cY ?_ (hp:=hof) (hs:=by (first | refine ab ?_ rfl | apply ac); (repeat' (first | exact aa | apply ai | apply ae | exact a9 _)); first | done | fail)|refine stY ?_|refine cFY ?_|refine ah rfl ?_|refine r2Y ?_|fail)) <;> (try clear zz)
 exact nt (a9 _).snap rfl
end Go.Proofs.YtbgdcebmgjafjaaGreat
namespace Go.Proofs.YtbgdcebmgjafjaaGreat
open Go Go.Abs
attribute [local irreducible] aF ak be aY aL aO aB aP a7 bt Go.Abs.Fn aW Go.Abs.Pure aw aK Yl
end Go.Proofs.YtbgdcebmgjafjaaGreat
namespace Go.Proofs.YtbgdcebmgjafjaaGreat
open Go Go.Abs
open Nat (reduceEqDiff reduceAdd reduceLeDiff)
section
variable {P:Program} {T:Tm} {H:Hp} {nx:Nat}
theorem zw {dm:DM} {K:SP} {l:List Op2} {d:Option Nat} {sz bytes:Nat} {z:List AV} {s x:Opd} {k:IntKind} {n:Int} (hd:dm2 dm T (.apz sz bytes z s x)=true) (hs:ov T s=.esl) (hx:ov T x=.int k n) (h0:0 < n) (h1:n ≤ 9223372036854775807) (h2:n.toNat * bytes ≤ 140737488355328)
    (kk:ak P dm l (aC T d (.msl nx (n.toNat * sz) sz 0 n.toNat)) (aj H nx (aS (.agg z) n.toNat)) (nx + 1) K):ak P dm (⟨d,none,.apz sz bytes z s x⟩ :: l) T H nx K:=by
 refine iM rfl hd ?_ kk
 simp only [d7,hs,hx]
 rw [if_pos ⟨h0,h1,h2⟩]
end
theorem sQ (T:Tm) (H:Hp) (x:Opd):aX T H (.capE x)=match ov T x with | .esl=>some (.int .i64 0) | _=>none:=rfl
theorem w9 (n:Nat):(aS (.agg [.int .i64 0,.int .i64 0]) n).length=n * 2:=by simp [aS,AV.cells]
attribute [local irreducible] aF ak be aY aL aO aB aP a7 bt Go.Abs.Fn aW Go.Abs.Pure aw aK Yl
theorem wV (n:Nat) (h0:0 < n) (h1:n ≤ 1000000) (H:Hp) (nx:Nat):Abs.Fn Tryz.prog 128 [.esl,.int .i64 n] H nx fun r H' nx'=>r=.msl nx (n * 2) 2 0 0∧H'=aj H nx (aS (.agg [.int .i64 0,.int .i64 0]) n)∧nx'=nx + 1:=by
 refine Abs.Fn.of_c2 follows yc (Nat.le_of_ble_eq_true rfl) ?_
 simp only [zu,cO,cG,cN,cM,cD,cF,cB,aq,aH]
 have z1:decide ((n:Int) < 0)=false:=decide_eq_false (by omega)
 have z2:decide ((0:Int) < n)=true:=decide_eq_true (by omega)
 have s2:iO 2 .esl none (some (.int .i64 0)) none=some .esl:=rfl
 have s3:=ml (B:=nx) (n:=n * 2) (len:=n) (k:=0) (by omega) (by omega)
 rw [show ((0:Nat):Int)=0 from rfl] at s3
 (have zz:=aI @z1 (aI @z2 (aI @s2 (aI @Int.sub_zero (aI @Int.sub_self @sQ)))); repeat' (first|refine zW ?_|apply a_n|refine zO ?_|refine vY ?_|refine cTY ?_|refine cFY ?_|fail)) <;> (try clear zz)
 refine zw rfl (have zz:=@s2; evY) ev0 (by omega) (by omega) (by omega) ?_
 (have zz:=@s3; repeat' (first|refine zW ?_|apply a_n|refine zO ?_|refine vY ?_|refine ah rfl ?_|refine r1Y ?_|fail)) <;> (try clear zz)
 exact ⟨rfl,rfl,rfl⟩
theorem xL (H:Hp) (nx:Nat):Abs.Fn Tryz.prog 128 [.esl,.int .i64 0] H nx fun r H' nx'=>r=.esl∧H'=H∧nx'=nx:=by
 refine Abs.Fn.of_c2 follows yc (Nat.le_of_ble_eq_true rfl) ?_
 simp only [zu,cO,cG,cN,cM,cD,cF,cB,aq,aH]
 (have zz:=aI @Int.sub_zero (aI @Int.sub_self @sQ); repeat' (first|refine zW ?_|apply a_n|refine zO ?_|refine vY ?_|(refine zGY ?_ ?_ <;> (intro _hg; try (exfalso; omega)))|refine ah rfl ?_|refine r1Y ?_|fail)) <;> (try clear zz)
 exact ⟨rfl,rfl,rfl⟩
theorem pi {c:List Spx} {k:Nat} (hk:k < c.length):(c.take (k + 1)).flatten=(c.take k).flatten ++ c.getD k default:=by
 rw [bU hk,List.flatten_append]; simp
theorem tT (c:List Spx) (h0:c ≠ []) (hs:∀ s ∈ c,s ≠ []) (hl:c.flatten.length ≤ 1000000) (hc:c.length ≤ 1000000) (H:Hp) (nx:Nat) :
    Abs.Fn Tryz.prog 106 [aA c] H nx fun r H' nx'=>r=.msl nx (c.flatten.length * 2) 2 0 c.flatten.length∧H'=aj H nx (cX c.flatten)∧nx'=nx + 1:=by
 refine Abs.Fn.of_c2 follows yk (Nat.le_of_ble_eq_true rfl) ?_
 simp only [zl,cO,cG,cN,cM,cD,cF,cB,aq,aH]
 have hpos:0 < c.flatten.length:=by
  rw [List.length_pos_iff]
  intro e
  obtain ⟨s,hm⟩:=List.exists_mem_of_ne_nil c h0
  exact hs s hm (List.flatten_eq_nil_iff.1 e s hm)
 have hle:∀ k,(c.take k).flatten.length ≤ c.flatten.length:=fun k=>by
  have:c.flatten=(c.take k).flatten ++ (c.drop k).flatten:=by rw [← List.flatten_append,List.take_append_drop]
  rw [this,List.length_append]; omega
 refine dS ?_
 (have zz:=and_self; repeat' (first|apply a_n|refine zO ?_|refine vY ?_|fail)) <;> (try clear zz)
 refine dS ?_
 (have zz:=and_self; repeat' (first|apply a_n|refine zO ?_|refine vY ?_|fail)) <;> (try clear zz)
 refine aR (fun T H' nx'=>T 0=aA c∧T 3=.int .i64 (c.flatten.length:Nat)∧H=H'∧nx=nx') ?_ ?_
 ·(have zz:=@av; repeat' (first|refine zW ?_|apply a_n|refine zO ?_|refine vY ?_|fail)) <;> (try clear zz)
  refine sX (X:=Nat) (fun k=>[(0,aA c),(3,.int .i64 ((c.take k).flatten.length:Nat)),(9,aA c),(10,.int .i64 c.length),(11,.int .i64 (k:Nat))]) (fun k=>k ≤ c.length) (fun k=>c.length - k) 0 (by omega) (by simp (disch:=omega) only [agr,ZG,reduceEqDiff,↓reduceIte,List.take_zero,List.flatten_nil,List.length_nil] <;> simp) ?_
  intro k hk
  by_cases hk2:k < c.length
  rotate_left
  ·rw [List.take_of_length_le (by omega)]
   (have zz:=and_self; repeat' (first|refine zW ?_|apply a_n|apply a_x|refine zO ?_|refine vY ?_|(refine zGY ?_ ?_ <;> (intro _hg; try (exfalso; omega)))|fail)) <;> (try clear zz)
   exact ⟨rfl,rfl,rfl,rfl⟩
  have ix:=ft hk2
  have hle2:=hle (k + 1)
  have e:(((c.take (k + 1)).flatten.length:Nat):Int)=((c.take k).flatten.length:Nat) + ((c.getD k default).length:Nat):=by rw [pi hk2,List.length_append]; omega
  rw [pi hk2,List.length_append] at hle2
  have z:decide ((((c.take k).flatten.length:Nat):Int) + ((c.getD k default).length:Nat) < 0)=false:=decide_eq_false (by omega)
  generalize c.getD k default=s at *
  (have zz:=aI @ix (aI @ap @z); repeat' (first|refine zW ?_|apply a_n|refine zO ?_|refine vY ?_|refine cFY ?_|(refine zGY ?_ ?_ <;> (intro _hg; try (exfalso; omega)))|fail)) <;> (try clear zz)
  exact ⟨k + 1,by omega,by omega,(have zz:=@e; agZ),rfl,rfl⟩
 rintro T _ _ ⟨t0,t3,rfl,rfl⟩
 (have zz:=@t3; repeat' (first|refine zW ?_|apply a_n|refine zO ?_|refine vY ?_|fail)) <;> (try clear zz)
 refine au ev0 (have zz:=@t3; evY) (wV c.flatten.length (by omega) (by omega) H nx) ?_
 rintro _ _ _ ⟨rfl,rfl,rfl⟩
 (have zz:=aI @t0 @av; repeat' (first|refine zW ?_|apply a_n|refine zO ?_|refine vY ?_|fail)) <;> (try clear zz)
 refine aN (X:=Nat) (fun k=>[(6,.msl nx (c.flatten.length * 2) 2 0 (c.take k).flatten.length),(25,aA c),(26,.int .i64 c.length),(27,.int .i64 (k:Nat))]) (fun k H' nx'=>k ≤ c.length∧(∃ C,H'=aj H nx C∧C.length=c.flatten.length * 2∧C.take ((c.take k).flatten.length * 2)=cX (c.take k).flatten)∧nx'=nx + 1) (fun k=>c.length - k) 0 ⟨by omega,⟨_,rfl,w9 _,rfl⟩,rfl⟩ (by simp (disch:=omega) only [agr,ZG,reduceEqDiff,↓reduceIte,List.take_zero,List.flatten_nil,List.length_nil]) ?_
 rintro k _ _ ⟨hk,⟨C,rfl,h1,h2⟩,rfl⟩
 by_cases hk2:k < c.length
 rotate_left
 ·have ek:c.take k=c:=List.take_of_length_le (by omega)
  rw [ek] at h2 ⊢
  rw [List.take_of_length_le (by omega)] at h2
  subst h2
  (have zz:=and_self; repeat' (first|refine zW ?_|apply a_n|apply a_x|refine zO ?_|refine vY ?_|(refine zGY ?_ ?_ <;> (intro _hg; try (exfalso; omega)))|refine ah rfl ?_|refine r1Y ?_|fail)) <;> (try clear zz)
  exact ⟨rfl,rfl,rfl⟩
 have ix:=ft hk2
 have hle2:=hle (k + 1)
 have e:=pi hk2
 have hsp:0 < (c.getD k default).length:=List.length_pos_iff.2 (hs _ (bf hk2))
 rw [e,List.length_append] at hle2
 have hcl:=d8 (c.getD k default)
 have hcp:=d8 (c.take k).flatten
 generalize c.getD k default=s at *
 (have zz:=@ix; repeat' (first|refine zW ?_|apply a_n|refine zO ?_|refine vY ?_|(refine zGY ?_ ?_ <;> (intro _hg; try (exfalso; omega)))|fail)) <;> (try clear zz)
 refine v8 (b:=nx) (m:=c.flatten.length * 2) (off:=0) (len:=(c.take k).flatten.length) (n:=s.length) (cs:=C) rfl ev0 ag ev0 sJ (ja _) h1 (fun _=>by omega) (by omega) (by omega) ?_
 (have zz:=and_self; repeat' (first|apply a_n|refine zO ?_|refine vY ?_|fail)) <;> (try clear zz)
 refine ⟨k + 1,by omega,⟨by omega,⟨_,al _ _ _ _,?_,?_⟩,rfl⟩,by simp (disch:=omega) only [agr,ZG,reduceEqDiff,↓reduceIte,e,List.length_append]⟩
 ·simp only [bb,List.length_append,List.length_take,List.length_drop,hcl,h1]
  omega
 ·rw [e,hJ,List.length_append,← h2]
  simp only [bb,Nat.zero_add]
  rw [List.take_append_of_le_length (by rw [List.length_append,List.length_take,h1,hcl]; omega),List.take_of_length_le (by rw [List.length_append,List.length_take,h1,hcl]; omega)]
theorem uc (H:Hp) (nx:Nat):Abs.Fn Tryz.prog 106 [aA []] H nx fun r H' nx'=>r=.esl∧H'=H∧nx'=nx:=by
 refine Abs.Fn.of_c2 follows yk (Nat.le_of_ble_eq_true rfl) ?_
 simp only [zl,cO,cG,cN,cM,cD,cF,cB,aq,aH]
 have hal:ca (aA [])=some (.int .i64 0):=rfl
 (have zz:=@hal; repeat' (first|refine zW ?_|apply a_n|refine zO ?_|refine vY ?_|fail)) <;> (try clear zz)
 refine aN (X:=Unit) (fun _=>[(0,aA []),(3,.int .i64 0),(9,aA []),(10,.int .i64 0),(11,.int .i64 0)]) (fun _ H' nx'=>H'=H∧nx'=nx) (fun _=>0) () ⟨rfl,rfl⟩ ag0 ?_
 rintro _ _ _ ⟨rfl,rfl⟩
 (have zz:=and_self; repeat' (first|refine zW ?_|apply a_n|apply a_x|refine zO ?_|refine vY ?_|(refine zGY ?_ ?_ <;> (intro _hg; try (exfalso; omega)))|fail)) <;> (try clear zz)
 refine au ev0 ev0 (xL _ _) ?_
 rintro _ Ha na ⟨rfl,rfl,rfl⟩
 (have zz:=@hal; repeat' (first|refine zW ?_|apply a_n|refine zO ?_|refine vY ?_|fail)) <;> (try clear zz)
 refine aN (X:=Unit) (fun _=>[(6,.esl),(25,aA []),(26,.int .i64 0),(27,.int .i64 0)]) (fun _ H1 nx1=>H1=Ha∧nx1=na) (fun _=>0) () ⟨rfl,rfl⟩ ag0 ?_
 rintro _ _ _ ⟨rfl,rfl⟩
 (have zz:=and_self; repeat' (first|refine zW ?_|apply a_n|apply a_x|refine zO ?_|refine vY ?_|(refine zGY ?_ ?_ <;> (intro _hg; try (exfalso; omega)))|refine ah rfl ?_|refine r1Y ?_|fail)) <;> (try clear zz)
 exact ⟨rfl,rfl,rfl⟩
theorem uZ {v w:Vtx}:bu [v] [w]=bl v w:=by
 rw [tJ]
 split
 ·rfl
 ·rename_i h
  have:=Decidable.of_not_not h
  rw [this]; rfl
theorem uW (v w:Vtx):Pure Tryz.prog 107 [bh v,bh w] (.int .i64 (bl v w)):=by
 refine Pure.of_c2 follows AU (Nat.le_of_ble_eq_true rfl) ?_
 simp only [A1,cO,cG,cN,cM,cD,cF,cB,aq,aH]
 have hc:=eS [v] [w] (show 1 ≤ _ by omega) (show 1 ≤ _ by omega)
 rw [uZ] at hc
 (have zz:=and_self; repeat' (first|refine zW ?_|apply a_n|refine zO ?_|refine vY ?_|refine bxY ?_|refine blY ?_|fail)) <;> (try clear zz)
 refine bR ev0 ev0 hc (ab (am (sk (Row.box 2 1 (cX [v]) ?_ rfl)) (am (sk (Row.box 3 1 (cX [w]) ?_ rfl)) aa)) rfl) ?_
 ·rw [af (by omega),ag]; rfl
 ·rw [ag]; rfl
 (have zz:=and_self; repeat' (first|apply a_n|refine zO ?_|refine vY ?_|refine ah rfl ?_|refine r1Y ?_|fail)) <;> (try clear zz)
 exact .int _ _
theorem Ah:Cmp2 Tryz.prog bh bl (fun _=>True) 107 [] where
 len _:=rfl
 agg _:=rfl
 ones _:=rfl
 dat x:=bA x
 dcaps x hx:=by cases hx
 run x y _ _:=uW x y
 ord:=kC.ord
theorem r8 (H:Hp) (nx:Nat):Abs.Fn Tryz.prog 92 [.esl] H nx fun r H' nx'=>r=.esl∧H'=H∧nx'=nx:=by
 refine Abs.Fn.of_c2 follows zm (Nat.le_of_ble_eq_true rfl) ?_
 simp only [b92,cO,cG,cN,cM,cD,cF,cB,aq,aH]
 (have zz:=and_self; repeat' (first|refine zW ?_|apply a_n|apply a_r|refine zO ?_|refine vY ?_|(refine zGY ?_ ?_ <;> (intro _hg; try (exfalso; omega)))|refine ah rfl ?_|refine r1Y ?_|fail)) <;> (try clear zz)
 exact ⟨rfl,rfl,rfl⟩
theorem rL (c:List Spx) (hs:∀ s ∈ c,s ≠ []) (hl:c.flatten.length ≤ 100000) (hc:c.length ≤ 100000):Pure Tryz.prog 71 [aA c] (ar (dl bl c.flatten)):=by
 refine Pure.of_c2 follows B2 (Nat.le_of_ble_eq_true rfl) ?_
 simp only [b71,cO,cG,cN,cM,cD,cF,cB,aq,aH]
 by_cases h0:c=[]
 ·subst h0
  (have zz:=and_self; repeat' (first|refine zW ?_|apply a_n|refine zO ?_|refine vY ?_|fail)) <;> (try clear zz)
  refine au ev0 ev0 (uc _ _) ?_
  rintro _ _ _ ⟨rfl,rfl,rfl⟩
  (have zz:=and_self; repeat' (first|refine zW ?_|apply a_n|refine zO ?_|refine vY ?_|fail)) <;> (try clear zz)
  refine au ev0 ev0 vw ?_
  rintro _ _ _ ⟨rfl,rfl⟩
  (have zz:=and_self; repeat' (first|refine zW ?_|apply a_n|refine zO ?_|refine vY ?_|fail)) <;> (try clear zz)
  refine au ev0 ev0 (r8 _ _) ?_
  rintro _ _ _ ⟨rfl,rfl,rfl⟩
  (have zz:=and_self; repeat' (first|apply a_n|refine zO ?_|refine vY ?_|refine ah rfl ?_|refine r1Y ?_|fail)) <;> (try clear zz)
  exact .eslsl 2
 have hpos:0 < c.flatten.length:=by
  rw [List.length_pos_iff]
  intro e
  obtain ⟨s,hm⟩:=List.exists_mem_of_ne_nil c h0
  exact hs s hm (List.flatten_eq_nil_iff.1 e s hm)
 (have zz:=and_self; repeat' (first|refine zW ?_|apply a_n|refine zO ?_|refine vY ?_|fail)) <;> (try clear zz)
 refine au ev0 ev0 (tT c h0 hs (by omega) (by omega) _ _) ?_
 rintro _ _ _ ⟨rfl,rfl,rfl⟩
 generalize c.flatten=M at *
 (have zz:=and_self; repeat' (first|refine zW ?_|apply a_n|refine zO ?_|refine vY ?_|fail)) <;> (try clear zz)
 refine au ev0 ev0 (sr Ah (L:=M) (b:=0) (n:=M.length) ag (by omega) rfl hpos (fun _ _=>trivial) (by omega)) ?_
 rintro _ H3 nx3 ⟨L,ps,hperm,hsort⟩
 have hLl:L.length=M.length:=hperm.length_eq
 have hL0:L ≠ []:=fun e=>by rw [e] at hLl; simp at hLl; omega
 have hB3:H3 0=some (cX L):=ps.at_
 rw [← hLl]
 (have zz:=and_self; repeat' (first|refine zW ?_|apply a_n|refine zO ?_|refine vY ?_|fail)) <;> (try clear zz)
 refine au ev0 ev0 (lX L (show _ ≤ _ by omega) hL0 H3 0 nx3 hB3 (by have:=ps.le; omega)) ?_
 rintro _ H4 nx4 ⟨rfl,⟨C,rfl,c1,c2⟩,rfl⟩
 have hd:cz L L.length=dl bl M:=kA kC hperm (by rw [hLl]; exact hsort)
 rw [hd] at c2
 have hle:=mN L L.length
 have hdl:=ko L L.length
 rw [hd] at hdl
 (have zz:=and_self; repeat' (first|apply a_n|refine zO ?_|refine vY ?_|refine ah rfl ?_|refine r1Y ?_|fail)) <;> (try clear zz)
 exact mD ag c1 (by omega) hdl c2
theorem qQ (c:List Spx) (hc:c.length ≤ 5000) (hs:∀ s ∈ c,Shn s):Pure Tryz.prog 30 [dP c] (.tup [ar (if aU c=0 then dl bl c.flatten else []),.int .i64 (aU c)]):=by
 refine Pure.of_c2 follows B9 (Nat.le_of_ble_eq_true rfl) ?_
 simp only [b30,cO,cG,cN,cM,cD,cF,cB,aq,aH]
 have hcc:=fN c (show _ ≤ _ by omega) hs
 by_cases he:aU c=0
 rotate_left
 ·rw [if_neg he]
  have z:decide (aU c ≠ 0)=true:=decide_eq_true he
  (have zz:=aI @aG (aI @ay @z); repeat' (first|refine zW ?_|apply a_n|apply a_r|refine zO ?_|refine vY ?_|refine cY ?_ (hp:=hcc) (hs:=by (first | refine ab ?_ rfl | apply ac); (repeat' (first | exact aa | apply ai | apply ae | exact bn _)); first | done | fail)|refine bxY ?_|refine cTY ?_|refine ah rfl ?_|refine r2Y ?_|fail)) <;> (try clear zz)
  exact wB (.eslsl _) rfl
 rw [if_pos he]
 rw [he] at hcc ⊢
 have z0:decide ((0:Int) ≠ 0)=false:=rfl
 obtain ⟨p1,p2,p3,p4⟩:=bN he
 have hfl:∀ (l:List Spx),(∀ s ∈ l,s.length ≤ 8)→l.flatten.length ≤ 8 * l.length:=by
  intro l
  induction l with
  | nil=>intro _; simp
  | cons s l ih =>
   intro h
   rw [List.flatten_cons,List.length_append,List.length_cons]
   have:=h s List.mem_cons_self
   have:=ih fun t ht=>h t (List.mem_cons_of_mem _ ht)
   omega
 have h8:=hfl c (fun s h=>(bJ (p2 s h)).2.1)
 have hv:=rL c (fun s h e=>by have:=(bJ (p2 s h)).1; rw [e] at this; simp at this) (by omega) (by omega)
 (have zz:=aI @aG (aI @ay @z0); repeat' (first|refine zW ?_|apply a_n|refine zO ?_|refine vY ?_|refine cY ?_ (hp:=by first | exact hcc | exact hv) (hs:=by (first | refine ab ?_ rfl | apply ac); (repeat' (first | exact aa | apply ai | apply ae | exact bn _ | exact a9 _)); first | done | fail)|refine bxY ?_|refine cFY ?_|refine ah rfl ?_|refine r2Y ?_|fail)) <;> (try clear zz)
 exact wB (ax _).snap rfl
end Go.Proofs.YtbgdcebmgjafjaaGreat
namespace Go.Proofs.YtbgdcebmgjafjaaGreat
open Go Go.Abs
attribute [local irreducible] aF ak be aY aL aO aB aP a7 bt Go.Abs.Fn aW Go.Abs.Pure aw aK Yl
end Go.Proofs.YtbgdcebmgjafjaaGreat
namespace Go.Proofs.YtbgdcebmgjafjaaGreat
open Go Go.Abs
open Nat (reduceEqDiff reduceAdd reduceLeDiff)
def d4 (c:List Spx) (k:Nat):List Spx:=dl bu (c.flatMap fun s=>bK s k)
theorem uf {c:List Spx} {k i:Nat} (hi:i < c.length):(c.take (i + 1)).flatMap (fun s=>bK s k)=(c.take i).flatMap (fun s=>bK s k) ++ bK (c.getD i default) k:=by
 rw [bU hi,List.flatMap_append]; simp
theorem jc {k:Nat}:∀ {c:List Spx},(∀ s ∈ c,s.length ≤ 8)→(c.flatMap fun s=>bK s k).length ≤ 70 * c.length
 | [],_=>by simp
 | s :: c,h=>by
  rw [List.flatMap_cons,List.length_append,List.length_cons]
  have:=sE (l:=s) (k:=k) (h s List.mem_cons_self)
  have:=jc (k:=k) (c:=c) (fun t ht=>h t (List.mem_cons_of_mem _ ht))
  omega
theorem jk {c:List Spx} {k:Nat} {s:Spx}:s ∈ c.flatMap (fun s=>bK s k) ↔ ∃ t ∈ c,s ∈ bK t k:=by rw [List.mem_flatMap]
def eV (c:List Spx) (k:Int):List Spx × Int:=if aU c ≠ 0 then ([],aU c) else if k < 1 ∨ 8 < k then ([],2) else (d4 c k.toNat,0)
attribute [local irreducible] aF ak be aY aL aO aB aP a7 bt Go.Abs.Fn aW Go.Abs.Pure aw aK Yl
end Go.Proofs.YtbgdcebmgjafjaaGreat
namespace Go.Proofs.YtbgdcebmgjafjaaGreat
open Go Go.Abs
open Nat (reduceEqDiff reduceAdd reduceLeDiff)
def eh:Nat→Spx→List Int
 | 0,_=>[]
 | n + 1,[]=>(-1) :: 0 :: eh n []
 | n + 1,v :: l=>v.color :: v.label :: eh n l
theorem jC:∀ {n:Nat} {s:Spx},(eh n s).length=2 * n
 | 0,_=>rfl
 | n + 1,[]=>by show (eh n []).length + 1 + 1=_; rw [jC]; omega
 | n + 1,v :: l=>by show (eh n l).length + 1 + 1=_; rw [jC]; omega
theorem pJ:∀ {n:Nat} {s t:Spx},s.length ≤ n→t.length ≤ n→(∀ v ∈ s,0 ≤ v.color)→(∀ v ∈ t,0 ≤ v.color)→eh n s=eh n t→s=t
 | 0,[],[],_,_,_,_,_=>rfl
 | 0,_ :: _,_,h,_,_,_,_=>absurd h (by simp)
 | 0,[],_ :: _,_,h,_,_,_=>absurd h (by simp)
 | n + 1,[],[],_,_,_,_,_=>rfl
 | n + 1,[],w :: m,_,_,_,h2,e=>by
  have:(-1:Int)=w.color:=(List.cons.inj e).1
  have:=h2 w List.mem_cons_self
  omega
 | n + 1,v :: l,[],_,_,h1,_,e=>by
  have:v.color=(-1:Int):=(List.cons.inj e).1
  have:=h1 v List.mem_cons_self
  omega
 | n + 1,v :: l,w :: m,hl,hm,h1,h2,e=>by
  obtain ⟨e1,e2⟩:=List.cons.inj e
  obtain ⟨e2,e3⟩:=List.cons.inj e2
  have:=pJ (n:=n) (by simp at hl; omega) (by simp at hm; omega) (fun x hx=>h1 x (List.mem_cons_of_mem _ hx)) (fun x hx=>h2 x (List.mem_cons_of_mem _ hx)) e3
  rw [this,lr.2 ⟨e1,e2⟩]
def wP (x:List Int):AV:=.agg (x.map (AV.int .i64))
theorem uQ (x:List Int):Dat (wP x):=Dat.agg (by
 induction x with
 | nil=>exact DatL.nil
 | cons a l ih=>exact DatL.cons .int ih)
theorem sw:∀ {n:Nat} {s:Spx},s.length ≤ n→cX s ++ ((eh n []).map (AV.int .i64)).drop (s.length * 2)=(eh n s).map (AV.int .i64)
 | n,[],_=>by simp [cX]
 | 0,_ :: _,h=>absurd h (by simp)
 | n + 1,v :: l,h=>by
  have:=sw (n:=n) (s:=l) (by simp at h; omega)
  show [AV.int .i64 v.color,AV.int .i64 v.label] ++ cX l ++ _=AV.int .i64 v.color :: AV.int .i64 v.label :: (eh n l).map (AV.int .i64)
  rw [← this,List.length_cons,show (l.length + 1) * 2=l.length * 2 + 1 + 1 by omega]
  rfl
def kc (k:Nat):List AV:=(eh k [] ++ List.replicate (2 * (8 - k)) 0).map (AV.int .i64)
attribute [local irreducible] aF ak be aY aL aO aB aP a7 bt Go.Abs.Fn aW Go.Abs.Pure aw aK Yl
theorem xD (s:Spx) (h1:1 ≤ s.length) (hs:s.length ≤ 8):Pure Tryz.prog 108 [ar s] (wP (eh 8 s)):=by
 refine Pure.of_c2 follows yx (Nat.le_of_ble_eq_true rfl) ?_
 simp only [yH,cO,cG,cN,cM,cD,cF,cB,aq,aH]
 have hn:d5 (ar s)=some s.length:=by unfold ar gv; simp [d5]
 have hput:=sw (n:=8) (s:=s) hs
 (have zz:=and_self; repeat' (first|refine zW ?_|apply a_n|refine zO ?_|refine vY ?_|refine alY ?_|fail)) <;> (try clear zz)
 refine aN (X:=Nat) (fun k=>[(0,ar s),(2,.ptr 0 16 0),(3,.ptr 1 16 0),(5,.int .i64 k)]) (fun k H nx=>k ≤ 8∧H 0=some (kc 0)∧H 1=some (kc k)) (fun k=>8 - k) 0 ⟨Nat.zero_le _,by rw [af (by omega),ag]; rfl,ag⟩ (by (iterate 4 refine And.intro rfl ?_); trivial) ?_
 rintro k H nx ⟨hk,g0,g1⟩
 rcases (by omega:k=8 ∨ k=0 ∨ k=1 ∨ k=2 ∨ k=3 ∨ k=4 ∨ k=5 ∨ k=6 ∨ k=7) with rfl | rfl | rfl | rfl | rfl | rfl | rfl | rfl | rfl
 ·(have zz:=aI @g0 @g1; repeat' (first|refine zW ?_|apply a_n|apply a_x|refine zO ?_|refine vY ?_|(refine zGY ?_ ?_ <;> (intro _hg; try (exfalso; omega)))|fail)) <;> (try clear zz)
  refine BB rfl g1 rfl rfl ?_
  (have zz:=and_self; repeat' (first|apply a_n|refine zO ?_|refine vY ?_|fail)) <;> (try clear zz)
  refine A2 (n:=s.length) (H':=aj H 1 ((eh 8 s).map (AV.int .i64))) ?_ ?_
  ·((try simp only [bL,ZA,reduceEqDiff,↓reduceIte,reduceAdd,reduceLeDiff]); (try with_reducible rfl))
   have htr:sI s.length (ar s)=ar s:=by unfold ar gv; simp [sI]; exact List.take_of_length_le (by simp)
   have hmin:min s.length 8=s.length:=Nat.min_eq_left hs
   have hal:d5 (.msl 1 16 2 0 8)=some 8:=rfl
   simp only [iB,hal,hn,hmin,if_neg (show ¬ s.length=0 by omega),g1,htr,sJ]
   rw [if_pos (by refine ⟨?_,?_,?_,?_⟩ <;> first | rfl | trivial | omega | exact ja s)]
   have:bb (kc 8) 0 (cX s)=(eh 8 s).map (AV.int .i64):=by
    rw [← hput]
    simp only [bb,List.take_zero,List.nil_append,Nat.zero_add,d8]
    rfl
   rw [this]
  ·have hl:((eh 8 s).map (AV.int .i64)).length=16:=by rw [List.length_map,jC]
   have g1':aj H 1 ((eh 8 s).map (AV.int .i64)) 1=some ((eh 8 s).map (AV.int .i64)):=ag
   have g0':aj H 1 ((eh 8 s).map (AV.int .i64)) 0=some (kc 0):=by rw [af (by omega)]; exact g0
   have hl0:(kc 0).length=16:=rfl
   unfold wP
   have ht:((eh 8 s).map (AV.int .i64)).take 16=(eh 8 s).map (AV.int .i64):=List.take_of_length_le (by omega)
   have hd:=uQ (eh 8 s)
   unfold wP at hd
   have hfl:AV.ones ((eh 8 s).map (AV.int .i64))=true:=by
    unfold AV.ones
    rw [List.all_eq_true]
    intro x hx
    obtain ⟨y,_,rfl⟩:=List.mem_map.1 hx
    rfl
   have hlp:bb (kc 0) 0 ((eh 8 s).map (AV.int .i64))=(eh 8 s).map (AV.int .i64):=by
    simp only [bb,List.take_zero,List.nil_append,Nat.zero_add,hl]
    rw [List.drop_of_length_le (by decide),List.append_nil]
   generalize (eh 8 s).map (AV.int .i64)=K at *
   (have zz:=aI @g0' (aI @g1' (aI @hl (aI @hl0 @ht))); repeat' (first|refine zW ?_|apply a_n|refine zO ?_|refine vY ?_|fail)) <;> (try clear zz)
   refine za (v:=.agg K) (cs:=kc 0) (vs:=K) (b:=0) (n:=16) (off:=0) rfl ev0 ev0 g0' rfl hfl hl0 hl (by omega) ?_
   rw [hlp]
   (have zz:=aI @hl @ht; repeat' (first|apply a_n|refine zO ?_|refine ah rfl ?_|refine r1Y ?_|fail)) <;> (try clear zz)
   exact hd _
 ·(have zz:=aI @g0 @g1; repeat' (first|refine zW ?_|apply a_n|refine zO ?_|refine vY ?_|(refine zGY ?_ ?_ <;> (intro _hg; try (exfalso; omega)))|fail)) <;> (try clear zz)
  refine iH (r:=.ptr 1 16 0) rfl rfl rfl ?_
  have hl:(kc 0).length=16:=rfl
  (have zz:=aI @g1 @hl; repeat' (first|apply a_n|refine zO ?_|refine vY ?_|refine stY ?_|fail)) <;> (try clear zz)
  exact ⟨1,by omega,⟨by omega,by rw [af (by omega)]; exact g0,by rw [ag]; rfl⟩,by (iterate 4 refine And.intro rfl ?_); trivial⟩
 ·(have zz:=aI @g0 @g1; repeat' (first|refine zW ?_|apply a_n|refine zO ?_|refine vY ?_|(refine zGY ?_ ?_ <;> (intro _hg; try (exfalso; omega)))|fail)) <;> (try clear zz)
  refine iH (r:=.ptr 1 16 2) rfl rfl rfl ?_
  have hl:(kc 1).length=16:=rfl
  (have zz:=aI @g1 @hl; repeat' (first|apply a_n|refine zO ?_|refine vY ?_|refine stY ?_|fail)) <;> (try clear zz)
  exact ⟨2,by omega,⟨by omega,by rw [af (by omega)]; exact g0,by rw [ag]; rfl⟩,by (iterate 4 refine And.intro rfl ?_); trivial⟩
 ·(have zz:=aI @g0 @g1; repeat' (first|refine zW ?_|apply a_n|refine zO ?_|refine vY ?_|(refine zGY ?_ ?_ <;> (intro _hg; try (exfalso; omega)))|fail)) <;> (try clear zz)
  refine iH (r:=.ptr 1 16 4) rfl rfl rfl ?_
  have hl:(kc 2).length=16:=rfl
  (have zz:=aI @g1 @hl; repeat' (first|apply a_n|refine zO ?_|refine vY ?_|refine stY ?_|fail)) <;> (try clear zz)
  exact ⟨3,by omega,⟨by omega,by rw [af (by omega)]; exact g0,by rw [ag]; rfl⟩,by (iterate 4 refine And.intro rfl ?_); trivial⟩
 ·(have zz:=aI @g0 @g1; repeat' (first|refine zW ?_|apply a_n|refine zO ?_|refine vY ?_|(refine zGY ?_ ?_ <;> (intro _hg; try (exfalso; omega)))|fail)) <;> (try clear zz)
  refine iH (r:=.ptr 1 16 6) rfl rfl rfl ?_
  have hl:(kc 3).length=16:=rfl
  (have zz:=aI @g1 @hl; repeat' (first|apply a_n|refine zO ?_|refine vY ?_|refine stY ?_|fail)) <;> (try clear zz)
  exact ⟨4,by omega,⟨by omega,by rw [af (by omega)]; exact g0,by rw [ag]; rfl⟩,by (iterate 4 refine And.intro rfl ?_); trivial⟩
 ·(have zz:=aI @g0 @g1; repeat' (first|refine zW ?_|apply a_n|refine zO ?_|refine vY ?_|(refine zGY ?_ ?_ <;> (intro _hg; try (exfalso; omega)))|fail)) <;> (try clear zz)
  refine iH (r:=.ptr 1 16 8) rfl rfl rfl ?_
  have hl:(kc 4).length=16:=rfl
  (have zz:=aI @g1 @hl; repeat' (first|apply a_n|refine zO ?_|refine vY ?_|refine stY ?_|fail)) <;> (try clear zz)
  exact ⟨5,by omega,⟨by omega,by rw [af (by omega)]; exact g0,by rw [ag]; rfl⟩,by (iterate 4 refine And.intro rfl ?_); trivial⟩
 ·(have zz:=aI @g0 @g1; repeat' (first|refine zW ?_|apply a_n|refine zO ?_|refine vY ?_|(refine zGY ?_ ?_ <;> (intro _hg; try (exfalso; omega)))|fail)) <;> (try clear zz)
  refine iH (r:=.ptr 1 16 10) rfl rfl rfl ?_
  have hl:(kc 5).length=16:=rfl
  (have zz:=aI @g1 @hl; repeat' (first|apply a_n|refine zO ?_|refine vY ?_|refine stY ?_|fail)) <;> (try clear zz)
  exact ⟨6,by omega,⟨by omega,by rw [af (by omega)]; exact g0,by rw [ag]; rfl⟩,by (iterate 4 refine And.intro rfl ?_); trivial⟩
 ·(have zz:=aI @g0 @g1; repeat' (first|refine zW ?_|apply a_n|refine zO ?_|refine vY ?_|(refine zGY ?_ ?_ <;> (intro _hg; try (exfalso; omega)))|fail)) <;> (try clear zz)
  refine iH (r:=.ptr 1 16 12) rfl rfl rfl ?_
  have hl:(kc 6).length=16:=rfl
  (have zz:=aI @g1 @hl; repeat' (first|apply a_n|refine zO ?_|refine vY ?_|refine stY ?_|fail)) <;> (try clear zz)
  exact ⟨7,by omega,⟨by omega,by rw [af (by omega)]; exact g0,by rw [ag]; rfl⟩,by (iterate 4 refine And.intro rfl ?_); trivial⟩
 ·(have zz:=aI @g0 @g1; repeat' (first|refine zW ?_|apply a_n|refine zO ?_|refine vY ?_|(refine zGY ?_ ?_ <;> (intro _hg; try (exfalso; omega)))|fail)) <;> (try clear zz)
  refine iH (r:=.ptr 1 16 14) rfl rfl rfl ?_
  have hl:(kc 7).length=16:=rfl
  (have zz:=aI @g1 @hl; repeat' (first|apply a_n|refine zO ?_|refine vY ?_|refine stY ?_|fail)) <;> (try clear zz)
  exact ⟨8,by omega,⟨by omega,by rw [af (by omega)]; exact g0,by rw [ag]; rfl⟩,by (iterate 4 refine And.intro rfl ?_); trivial⟩
end Go.Proofs.YtbgdcebmgjafjaaGreat
namespace Go.Proofs.YtbgdcebmgjafjaaGreat
open Go Go.Abs
def K16:Type:={x:List Int // x.length=16}
instance:DecidableEq K16:=inferInstanceAs (DecidableEq {x:List Int // x.length=16})
def kK (s:Spx):K16:=⟨eh 8 s,by rw [jC]⟩
def eK (x:K16):AV:=wP x.1
theorem lO:∀ {n:Nat} {xs ys:List Int},xs.length=n→ys.length=n→bO (List.replicate n .int) (xs.map (AV.int .i64)) (ys.map (AV.int .i64))=some (decide (xs=ys))
 | 0,[],[],_,_=>rfl
 | 0,_ :: _,_,h,_=>absurd h (by simp)
 | 0,[],_ :: _,_,h=>absurd h (by simp)
 | n + 1,[],_,h,_=>absurd h (by simp)
 | n + 1,_ :: _,[],_,h=>absurd h (by simp)
 | n + 1,x :: xs,y :: ys,h1,h2=>by
  have ih:=lO (n:=n) (xs:=xs) (ys:=ys) (by simpa using h1) (by simpa using h2)
  have e:(x == y)=decide (x=y):=rfl
  rw [List.replicate_succ,List.map_cons,List.map_cons]
  by_cases hxy:x=y
  ·subst hxy
   simp only [bO,eU,if_true,e,decide_true,ih]
   simp
  ·simp only [bO,eU,if_true,e,decide_eq_false hxy]
   simp [hxy]
theorem yE (a b:K16):jw (.st [.int,.int,.int,.int,.int,.int,.int,.int,.int,.int,.int,.int,.int,.int,.int,.int]) (eK a) (eK b)=some (decide (a=b)):=by
 show bO (List.replicate 16 .int) (a.1.map (AV.int .i64)) (b.1.map (AV.int .i64))=_
 rw [lO a.2 b.2]
 congr 1
 exact decide_eq_decide.2 ⟨Subtype.ext,fun h=>congrArg Subtype.val h⟩
theorem zD (v:K16) (ks:List K16):bQ (.st [.int,.int,.int,.int,.int,.int,.int,.int,.int,.int,.int,.int,.int,.int,.int,.int]) (eK v) (ks.map eK)=some (if v ∈ ks then some (ks.idxOf v) else none):=jY _ eK yE v ks
theorem wk (v:K16):fu (.st [.int,.int,.int,.int,.int,.int,.int,.int,.int,.int,.int,.int,.int,.int,.int,.int]) (eK v)=true:=by
 show (16 == (v.1.map (AV.int .i64)).length)=true
 rw [List.length_map,v.2]; rfl
def gM (s:Spx):Prop:=1 ≤ s.length∧s.length ≤ 8∧∀ v ∈ s,0 ≤ v.color
theorem yX {s t:Spx} (hs:gM s) (ht:gM t) (h:kK s=kK t):s=t:=pJ hs.2.1 ht.2.1 hs.2.2 ht.2.2 (congrArg Subtype.val h)
theorem yS {O:List Spx} {f:Spx} (hO:∀ s ∈ O,gM s) (hf:gM f):kK f ∈ O.map kK ↔ f ∈ O:=by
 rw [List.mem_map]
 exact ⟨fun ⟨s,h1,h2⟩=>by rw [← yX (hO s h1) hf h2]; exact h1,fun h=>⟨f,h,rfl⟩⟩
theorem xl {s:Spx} (h:b0 s=0):gM s:=by
 obtain ⟨p1,p2,p3,p4⟩:=bJ h
 refine ⟨p1,p2,fun v hv=>?_⟩
 have:=p4 v hv
 unfold bw at this
 simp only [Bool.and_eq_true,decide_eq_true_eq] at this
 exact this.1.1
theorem v9 {s t:Spx} {k:Nat} (hs:gM s) (hk:1 ≤ k) (h:t ∈ bK s k):gM t:=by
 obtain ⟨h1,h2⟩:=dY.1 h
 exact ⟨by omega,Nat.le_trans h1.length_le hs.2.1,fun v hv=>hs.2.2 v (h1.subset hv)⟩
theorem qP {O L P:List Spx} (hp:L.Perm O) (hs:aJ bu 0 L.length L) (hn:O.Nodup) (hm:∀ s,s ∈ O ↔ s ∈ P):L=dl bu P:=by
 refine io nr ?_ (eg nr P) fun s=>by rw [hp.mem_iff,hm,c9]
 unfold bZ
 rw [List.pairwise_iff_getElem]
 intro i j hi hj hij
 have h1:=hs i j (Nat.zero_le _) hij hj
 rw [show L.getD i default=L[i] by simp [List.getD,hi],show L.getD j default=L[j] by simp [List.getD,hj]] at h1
 rcases nr.tri L[i] L[j] with h | h | h
 ·exact h
 ·have:=(List.nodup_iff_pairwise_ne.1 (hp.nodup_iff.2 hn))
  exact absurd h ((List.pairwise_iff_getElem.1 this) i j hi hj hij)
 ·exact absurd h h1
end Go.Proofs.YtbgdcebmgjafjaaGreat
namespace Go.Proofs.YtbgdcebmgjafjaaGreat
open Go Go.Abs
open Nat (reduceEqDiff reduceAdd reduceLeDiff)
attribute [local irreducible] aF ak be aY aL aO aB aP a7 bt Go.Abs.Fn aW Go.Abs.Pure aw aK Yl
theorem wR (l:List Spx) (k:Nat) (hl:l.length ≤ 50) (hs:∀ s ∈ l,b0 s=0) (hk:1 ≤ k∧k ≤ 8):Pure Tryz.prog 72 [aA l,.int .i64 k] (.tup [aA (d4 l k),.int .i64 0]):=by
 refine Pure.of_c2 follows A8 (Nat.le_of_ble_eq_true rfl) ?_
 simp only [b72,cO,cG,cN,cM,cD,cF,cB,aq,aH]
 have h8:∀ s ∈ l,s.length ≤ 8:=fun s h=>(bJ (hs s h)).2.1
 have hgood:∀ s ∈ l.flatMap (fun s=>bK s k),gM s:=fun s h=>by
  obtain ⟨t,t1,t2⟩:=jk.1 h
  exact v9 (xl (hs t t1)) hk.1 t2
 have hfl:=jc (k:=k) h8
 have z0:decide ((0:Int) ≠ 0)=false:=rfl
 (have zz:=@av; repeat' (first|refine zW ?_|apply a_n|refine zO ?_|refine vY ?_|fail)) <;> (try clear zz)
 refine vj ?_
 (have zz:=@av; repeat' (first|refine zW ?_|apply a_n|refine zO ?_|refine vY ?_|fail)) <;> (try clear zz)
 refine aN (X:=Nat × AV × List Spx) (fun x=>[(1,.int .i64 k),(6,.mp 0),(7,x.2.1),(15,aA l),(16,.int .i64 l.length),(17,.int .i64 x.1)]) (fun x H nx=>x.1 ≤ l.length∧1 ≤ nx∧H 0=some [.omap ((x.2.2.map kK).map eK) (x.2.2.map fun _=>.bool true)]∧Row H 1 x.2.1 (x.2.2.map ar)∧(∀ b,dy x.2.1=some b→1 ≤ b∧b < nx)∧x.2.2.Nodup∧∀ s,s ∈ x.2.2 ↔ s ∈ (l.take x.1).flatMap fun s=>bK s k) (fun x=>l.length - x.1) (0,.esl,[]) ⟨Nat.zero_le _,by omega,ag,Row.nil,fun b h=>(by cases h),List.nodup_nil,fun s=>by simp⟩ (by (iterate 6 refine And.intro rfl ?_); trivial) ?_
 rintro ⟨i,sv,O⟩ H nx ⟨h1,hnx,g0,hrow,hbd,hnd,hmem⟩
 dsimp only at h1 g0 hrow hbd hnd hmem ⊢
 obtain ⟨o1,o2⟩:=hrow.one
 by_cases hi:i < l.length
 rotate_left
 ·rw [List.take_of_length_le (by omega)] at hmem
  have hOl:O.length ≤ 3500:=by
   have:=List.Nodup.length_le_of_subset hnd (l₂:=l.flatMap fun s=>bK s k) (fun s h=>(hmem s).1 h)
   omega
  have hsort:Abs.Fn Tryz.prog 109 [sv,.func 59 []] H nx fun _ H' nx'=>Row H' 1 sv ((d4 l k).map ar):=by
   generalize hcs:O.map ar=cs at hrow
   cases hrow with
   | nil =>
    have hO0:O=[]:=List.map_eq_nil_iff.1 hcs
    refine Abs.Fn.mono (mM rfl) ?_
    rintro _ _ _ ⟨rfl,rfl⟩
    have:d4 l k=[]:=by
     unfold d4
     rw [mv,List.eq_nil_iff_forall_not_mem]
     intro s h
     have:=(hmem s).2 h
     rw [hO0] at this; cases this
    rw [this]; exact Row.nil
   | box b len cs k1 k2 =>
    obtain rfl:len=O.length:=by rw [← hcs,List.length_map] at k2; omega
    have hb:=hbd b rfl
    subst hcs
    by_cases h0:O.length=0
    ·have hO0:O=[]:=List.length_eq_zero_iff.1 h0
     subst hO0
     refine Abs.Fn.mono (mM rfl) ?_
     rintro _ _ _ ⟨rfl,rfl⟩
     have:d4 l k=[]:=by
      unfold d4
      rw [mv,List.eq_nil_iff_forall_not_mem]
      intro s h
      have:=(hmem s).2 h
      cases this
     rw [this]; exact Row.box b 0 _ k1 rfl
    ·have hg:∀ s ∈ O,Shn s:=fun s h=>show s.length ≤ _ by have:=(hgood s ((hmem s).1 h)).2.1; omega
     have hsf:=sM zF (L:=O) (b:=b) (nx:=nx) (n:=O.length) k1 hb.2 rfl (by omega) hg (by omega)
     rw [Nat.mul_one]
     refine Abs.Fn.mono hsf ?_
     rintro _ H' nx' ⟨L',ps,p1,p2⟩
     have hlen:=p1.length_eq
     have:=qP p1 (by rw [hlen]; exact p2) hnd hmem
     unfold d4
     rw [← this,← hlen]
     have:=Row.box (H:=H') (sz:=1) b L'.length (L'.map ar) ps.at_ (by simp)
     rwa [Nat.mul_one] at this
  (have zz:=and_self; repeat' (first|refine zW ?_|apply a_n|apply a_x|refine zO ?_|refine vY ?_|(refine zGY ?_ ?_ <;> (intro _hg; try (exfalso; omega)))|fail)) <;> (try clear zz)
  refine au ev0 ev0 hsort ?_
  rintro r H' nx' hr
  (have zz:=aI @o1 @o2; repeat' (first|refine zW ?_|apply a_n|refine zO ?_|refine vY ?_|refine ah rfl ?_|refine r2Y ?_|fail)) <;> (try clear zz)
  exact iQ (g9 hr) rfl
 have ix:=ft hi
 have hft:=uf (k:=k) hi
 have hpm:∀ s ∈ (l.take (i + 1)).flatMap (fun s=>bK s k),s ∈ l.flatMap fun s=>bK s k:=fun s h=>by
  obtain ⟨t,t1,t2⟩:=jk.1 h
  exact jk.2 ⟨t,List.mem_of_mem_take t1,t2⟩
 have hsi:=hs _ (bf hi)
 have h8i:=h8 _ (bf hi)
 have hfx:=va (l.getD i default) k (show _ ≤ _ by omega)
 have hfe:(l.getD i default).length < k ∨ lU (l.getD i default) k=(bK (l.getD i default) k,0):=by
  by_cases h:(l.getD i default).length < k
  ·exact .inl h
  ·refine .inr ?_
   unfold lU
   rw [if_neg (fun h=>h hsi),if_neg (by omega),Int.toNat_natCast]
 have hcar:∀ s ∈ bK (l.getD i default) k,gM s:=fun s h=>hgood s (hpm s (by rw [hft]; exact List.mem_append_right _ h))
 by_cases hlt:(l.getD i default).length < k
 ·have z:decide (((l.getD i default).length:Int) < k)=true:=decide_eq_true (by omega)
  rw [rU hlt,List.append_nil] at hft
  generalize l.getD i default=s at *
  (have zz:=aI @ap (aI @ix (aI @z (aI @o1 @o2))); repeat' (first|refine zW ?_|apply a_n|apply a_x|refine zO ?_|refine vY ?_|refine cTY ?_|(refine zGY ?_ ?_ <;> (intro _hg; try (exfalso; omega)))|fail)) <;> (try clear zz)
  exact ⟨(i + 1,sv,O),by dsimp only; omega,⟨by dsimp only; omega,hnx,g0,hrow,hbd,hnd,by dsimp only; rw [hft]; exact hmem⟩,ag0⟩
 have z:decide (((l.getD i default).length:Int) < k)=false:=decide_eq_false (by omega)
 rw [hfe.resolve_left hlt] at hfx
 clear hfe
 have hgP:∀ s ∈ (l.take i).flatMap (fun s=>bK s k),gM s:=fun s h=>hgood s (hpm s (by rw [hft]; exact List.mem_append_left _ h))
 have hPl:((l.take i).flatMap (fun s=>bK s k) ++ bK (l.getD i default) k).length ≤ 3500:=by
  rw [← hft]
  have:=jc (k:=k) (c:=l.take (i + 1)) (fun s h=>h8 s (List.mem_of_mem_take h))
  rw [List.length_take] at this; omega
 generalize l.getD i default=s at *
 generalize bK s k=R at *
 generalize (l.take i).flatMap (fun s=>bK s k)=P at *
 have hRl:R.length ≤ 3500:=by rw [List.length_append] at hPl; omega
 (have zz:=aI @ap (aI @av (aI @ix (aI @z (aI @z0 (aI @o1 @o2))))); repeat' (first|refine zW ?_|apply a_n|refine zO ?_|refine vY ?_|refine cY ?_ (hp:=hfx) (hs:=by (first | refine ab ?_ rfl | apply ac); (repeat' (first | exact aa | apply ai | apply ae | exact ax _)); first | done | fail)|refine cFY ?_|(refine zGY ?_ ?_ <;> (intro _hg; try (exfalso; omega)))|fail)) <;> (try clear zz)
 refine aN (X:=Nat × AV × List Spx) (fun x=>[(1,.int .i64 k),(6,.mp 0),(7,x.2.1),(15,aA l),(16,.int .i64 l.length),(17,.int .i64 i),(34,aA R),(35,.int .i64 R.length),(36,.int .i64 x.1)]) (fun x H nx=>x.1 ≤ R.length∧1 ≤ nx∧H 0=some [.omap ((x.2.2.map kK).map eK) (x.2.2.map fun _=>.bool true)]∧Row H 1 x.2.1 (x.2.2.map ar)∧(∀ b,dy x.2.1=some b→1 ≤ b∧b < nx)∧x.2.2.Nodup∧∀ s,s ∈ x.2.2 ↔ s ∈ P ++ R.take x.1) (fun x=>R.length - x.1) (0,sv,O) ⟨Nat.zero_le _,hnx,g0,hrow,hbd,hnd,by dsimp only; rw [List.take_zero,List.append_nil]; exact hmem⟩ ag0 ?_
 clear g0 hrow hbd hnd hmem hnx o1 o2
 rintro ⟨j,sv,O⟩ H nx ⟨j1,hnx,g0,hrow,hbd,hnd,hmem⟩
 dsimp only at j1 g0 hrow hbd hnd hmem ⊢
 obtain ⟨o1,o2⟩:=hrow.one
 have hOl:O.length ≤ 3500:=by
  have:=List.Nodup.length_le_of_subset hnd (l₂:=P ++ R.take j) (fun s h=>(hmem s).1 h)
  rw [List.length_append,List.length_take] at this
  rw [List.length_append] at hPl
  omega
 by_cases hj:j < R.length
 rotate_left
 ·rw [List.take_of_length_le (by omega)] at hmem
  have hls:ca sv=some (.int .i64 O.length):=hrow.lenS (by rw [List.length_map,Nat.mul_one]) Nat.one_pos
  have z1:decide ((4096:Int) < O.length)=false:=decide_eq_false (by omega)
  (have zz:=aI @hls (aI @z1 (aI @o1 @o2)); repeat' (first|refine zW ?_|apply a_n|apply a_x|refine zO ?_|refine vY ?_|refine cFY ?_|(refine zGY ?_ ?_ <;> (intro _hg; try (exfalso; omega)))|fail)) <;> (try clear zz)
  exact ⟨(i + 1,sv,O),by dsimp only; omega,⟨by dsimp only; omega,hnx,g0,hrow,hbd,hnd,by dsimp only; rw [hft]; exact hmem⟩,ag0⟩
 have iy:=ft hj
 have hgf:=hcar _ (bf hj)
 have hgO:∀ s ∈ O,gM s:=fun s h=>by
  rcases List.mem_append.1 ((hmem s).1 h) with h | h
  ·exact hgP s h
  ·exact hcar s (List.mem_of_mem_take h)
 have hkey:=xD (R.getD j default) hgf.1 hgf.2.1
 have hts:R.take (j + 1)=R.take j ++ [R.getD j default]:=bU hj
 have hmf:=zD (kK (R.getD j default)) (O.map kK)
 have hmk:=yS hgO hgf
 generalize R.getD j default=f at *
 by_cases hf:f ∈ O
 ·rw [if_pos (hmk.2 hf)] at hmf
  have hlt2:(O.map kK).idxOf (kK f) < (O.map kK).length:=List.idxOf_lt_length_iff.2 (hmk.2 hf)
  have hgv:mget (.bool false) false (some ((O.map kK).idxOf (kK f))) (O.map fun _=>AV.bool true)=.bool true:=by
   rw [List.length_map] at hlt2
   simp [mget,List.getD,hlt2]
  (have zz:=aI @iy (aI @o1 @o2); repeat' (first|refine zW ?_|apply a_n|refine zO ?_|refine vY ?_|refine cY ?_ (hp:=hkey) (hs:=by (first | refine ab ?_ rfl | apply ac); (repeat' (first | exact aa | apply ai | apply ae | exact ax _)); first | done | fail)|(refine zGY ?_ ?_ <;> (intro _hg; try (exfalso; omega)))|fail)) <;> (try clear zz)
  refine jV ev0 g0 (by ((try simp only [bL,ZA,reduceEqDiff,↓reduceIte,reduceAdd,reduceLeDiff]); (try with_reducible rfl)); rfl) (wk (kK f)) hmf ?_
  rw [hgv]
  (have zz:=aI @o1 @o2; repeat' (first|apply a_n|refine zO ?_|refine vY ?_|refine cFY ?_|fail)) <;> (try clear zz)
  refine ⟨(j + 1,sv,O),by dsimp only; omega,⟨by dsimp only; omega,hnx,g0,hrow,hbd,hnd,fun s=>?_⟩,ag0⟩
  dsimp only
  rw [hts,← List.append_assoc,List.mem_append,← hmem,List.mem_singleton]
  exact ⟨.inl,fun h=>h.elim id fun e=>by rw [e]; exact hf⟩
 ·rw [if_neg (fun h=>hf (hmk.1 h))] at hmf
  have hgv:mget (.bool false) false none (O.map fun _=>AV.bool true)=.bool false:=rfl
  (have zz:=aI @iy (aI @o1 @o2); repeat' (first|refine zW ?_|apply a_n|refine zO ?_|refine vY ?_|refine cY ?_ (hp:=hkey) (hs:=by (first | refine ab ?_ rfl | apply ac); (repeat' (first | exact aa | apply ai | apply ae | exact ax _)); first | done | fail)|(refine zGY ?_ ?_ <;> (intro _hg; try (exfalso; omega)))|fail)) <;> (try clear zz)
  refine jV ev0 g0 (by ((try simp only [bL,ZA,reduceEqDiff,↓reduceIte,reduceAdd,reduceLeDiff]); (try with_reducible rfl)); rfl) (wk (kK f)) hmf ?_
  rw [hgv]
  (have zz:=aI @o1 @o2; repeat' (first|refine zW ?_|apply a_n|refine zO ?_|refine vY ?_|refine cY ?_ (hp:=hkey) (hs:=by (first | refine ab ?_ rfl | apply ac); (repeat' (first | exact aa | apply ai | apply ae | exact ax _)); first | done | fail)|refine cTY ?_|fail)) <;> (try clear zz)
  refine uP ev0 g0 (by ((try simp only [bL,ZA,reduceEqDiff,↓reduceIte,reduceAdd,reduceLeDiff]); (try with_reducible rfl)); rfl) ev0 (wk (kK f)) hmf ?_
  (have zz:=aI @o1 (aI @o2 (aI @aM @aD)); repeat' (first|apply a_n|refine zO ?_|refine vY ?_|refine blY ?_|fail)) <;> (try clear zz)
  refine kF rfl ev0 (hrow.same fun b hb=>?_) ev0 fT rfl rfl Nat.one_pos (by rw [List.length_map]; omega) (by rw [List.length_map]; omega) ?_
  ·have:=hbd b hb
   rw [af (by omega),af (by omega)]
  rintro s2 H2 nx2 hr2 i1 i2 i3 i4
  obtain ⟨o3,o4⟩:=hr2.one
  (have zz:=aI @o3 @o4; repeat' (first|apply a_n|refine zO ?_|refine vY ?_|fail)) <;> (try clear zz)
  refine ⟨(j + 1,s2,O ++ [f]),by dsimp only; omega,⟨by dsimp only; omega,by omega,?_,?_,fun b hb=>?_,?_,fun s=>?_⟩,ag0⟩
  ·rw [i3 0 (by omega) (fun h=>by have:=hbd 0 h; omega),af (by omega),ag]
   simp [bB,dW]
  ·dsimp only
   rw [List.map_append]; exact hr2
  ·rcases i4 b hb with h | h
   ·have:=hbd b h; omega
   ·omega
  ·exact List.nodup_append.2 ⟨hnd,by simp,fun a ha c hc=>by simp at hc; subst hc; intro e; subst e; exact hf ha⟩
  ·dsimp only
   rw [hts,← List.append_assoc,List.mem_append,List.mem_append,← hmem]
end Go.Proofs.YtbgdcebmgjafjaaGreat
namespace Go.Proofs.YtbgdcebmgjafjaaGreat
open Go Go.Abs
theorem mP (K:Nat→Int):∀ n,(∀ i j,i < j→j < n→K j < 0→K i < 0)→∃ b,b ≤ n∧(∀ i,i < b→K i < 0)∧∀ i,b ≤ i→i < n→0 ≤ K i
 | 0,_=>⟨0,Nat.le_refl _,fun i h=>absurd h (by omega),fun i _ h=>absurd h (by omega)⟩
 | n + 1,hm=>by
  by_cases h:K n < 0
  ·refine ⟨n + 1,Nat.le_refl _,fun i hi=>?_,fun i h1 h2=>absurd h1 (by omega)⟩
   by_cases e:i=n
   ·subst e; exact h
   ·exact hm i n (by omega) (by omega) h
  ·obtain ⟨b,h1,h2,h3⟩:=mP K n (fun i j hi hj=>hm i j hi (by omega))
   refine ⟨b,by omega,h2,fun i hi hi2=>?_⟩
   by_cases e:i=n
   ·subst e; omega
   ·exact h3 i hi (by omega)
theorem yj {tb tf:Bool} {i j:Nat}:aV .shr tb tf (.int .u64 ((i:Int) + (j:Int))) (.int .u64 1)=some (.int .u64 (((i + j) / 2:Nat):Int)):=by
 have:=oQ (k:=.u64) (a:=i + j) (b:=1) (tb:=tb) (tf:=tf) (k':=.u64) (by decide)
 simpa using this
attribute [local irreducible] aF ak be aY aL aO aB aP a7 bt Go.Abs.Fn aW Go.Abs.Pure aw aK Yl
theorem ga (c:List Spx) (k:Int) (hc:c.length ≤ 50) (hs:∀ s ∈ c,Shn s):Pure Tryz.prog 32 [dP c,.int .i64 k] (.tup [aA (eV c k).1,.int .i64 (eV c k).2]):=by
 refine Pure.of_c2 follows zN (Nat.le_of_ble_eq_true rfl) ?_
 simp only [b32,cO,cG,cN,cM,cD,cF,cB,aq,aH]
 have hcc:=fN c (show _ ≤ _ by omega) hs
 unfold eV
 by_cases he:aU c=0
 rotate_left
 ·rw [if_pos he]
  have z:decide (aU c ≠ 0)=true:=decide_eq_true he
  (have zz:=aI @aG (aI @ay @z); repeat' (first|refine zW ?_|apply a_n|apply a_r|refine zO ?_|refine vY ?_|refine cY ?_ (hp:=hcc) (hs:=by (first | refine ab ?_ rfl | apply ac); (repeat' (first | exact aa | apply ai | apply ae | exact bn _)); first | done | fail)|refine bxY ?_|refine cTY ?_|refine ah rfl ?_|refine r2Y ?_|fail)) <;> (try clear zz)
  exact iQ (.eslsl _) rfl
 rw [if_neg (fun h=>h he)]
 rw [he] at hcc
 have z0:decide ((0:Int) ≠ 0)=false:=rfl
 obtain ⟨p1,p2,p3,p4⟩:=bN he
 by_cases hk:k < 1 ∨ 8 < k
 ·rw [if_pos hk]
  (have zz:=aI @aG (aI @ay @z0); repeat' (first|refine zW ?_|apply a_n|apply a_r|refine zO ?_|refine vY ?_|refine cY ?_ (hp:=hcc) (hs:=by (first | refine ab ?_ rfl | apply ac); (repeat' (first | exact aa | apply ai | apply ae | exact bn _)); first | done | fail)|refine bxY ?_|refine gTY ?_|refine gFY ?_|refine cTY ?_|refine cFY ?_|(refine zGY ?_ ?_ <;> (intro _hg; try (exfalso; omega)))|refine ah rfl ?_|refine r2Y ?_|fail)) <;> (try clear zz)
  all_goals first | exact iQ (.eslsl _) rfl | (exfalso; omega)
 rw [if_neg hk]
 obtain ⟨n,rfl⟩:∃ n:Nat,k=n:=⟨k.toNat,by omega⟩
 rw [Int.toNat_natCast]
 have ha:=wR c n hc p2 ⟨by omega,by omega⟩
 (have zz:=aI @aG (aI @ay (aI @av @z0)); repeat' (first|refine zW ?_|apply a_n|refine zO ?_|refine vY ?_|refine cY ?_ (hp:=by first | exact hcc | exact ha) (hs:=by (first | refine ab ?_ rfl | apply ac); (repeat' (first | exact aa | apply ai | apply ae | exact bn _ | exact a9 _)); first | done | fail)|refine bxY ?_|refine gTY ?_|refine cFY ?_|(refine zGY ?_ ?_ <;> (intro _hg; try (exfalso; omega)))|refine ah rfl ?_|refine r2Y ?_|fail)) <;> (try clear zz)
 exact iQ (a9 _).snap rfl
theorem rA (l:List Spx) (v:Spx) (hl:Shn l) (hs:∀ c ∈ l,Shn c) (hv:Shn v) {b:Nat} (hb:b ≤ l.length) (h1:∀ i,i < b→bu (l.getD i default) v < 0) (h2:∀ i,b ≤ i→i < l.length→0 ≤ bu (l.getD i default) v) :
    Pure Tryz.prog 93 [aA l,ar v,.func 59 []] (.tup [.int .i64 b,.bool (decide (b < l.length) && decide (bu (l.getD b default) v=0))]):=by
 refine Pure.of_c2 follows Bn (Nat.le_of_ble_eq_true rfl) ?_
 simp only [b93,cO,cG,cN,cM,cD,cF,cB,aq,aH]
 have hl':l.length ≤ 17592186044416:=hl
 (have zz:=aI @aM (aI @aD @av); repeat' (first|refine zW ?_|apply a_n|refine zO ?_|refine vZ ?_|fail)) <;> (try clear zz)
 refine sX (X:=Nat × Nat) (fun x=>[(0,aA l),(1,ar v),(2,.func 59 []),(8,.int .i64 l.length),(9,.int .i64 x.1),(10,.int .i64 x.2)]) (fun x=>x.1 ≤ b∧b ≤ x.2∧x.2 ≤ l.length) (fun x=>x.2 - x.1) (0,l.length) ⟨Nat.zero_le _,hb,Nat.le_refl _⟩ ag0 ?_
 rintro ⟨i,j⟩ ⟨g1,g2,g3⟩
 dsimp only at g1 g2 g3 ⊢
 by_cases hij:i < j
 ·have hh:(i + j) / 2 < l.length:=by omega
  have hc:=eS (l.getD ((i + j) / 2) default) v (hs _ (bf hh)) hv
  have ix:=ft hh
  by_cases hn:bu (l.getD ((i + j) / 2) default) v < 0
  ·have hbb:(i + j) / 2 < b:=Nat.lt_of_not_le fun h=>by have:=h2 _ h hh; omega
   (have zz:=aI @aM (aI @aD (aI @av (aI @dQ (aI @yj @ix)))); repeat' (first|refine zW ?_|apply a_n|refine zO ?_|refine vZ ?_|refine cZ ?_ (hp:=hc) (hs:=by (first | refine ab ?_ rfl | apply ac); (repeat' (first | exact aa | apply ai | apply ae | exact ax _)); first | done | fail)|(refine zGZ ?_ ?_ <;> (intro _hg; try (exfalso; omega)))|fail)) <;> (try clear zz)
   exact ⟨((i + j) / 2 + 1,j),⟨by omega,by omega,by omega⟩,by dsimp only; omega,ag0,rfl,rfl⟩
  ·have hbb:b ≤ (i + j) / 2:=Nat.le_of_not_lt fun h=>hn (h1 _ h)
   (have zz:=aI @aM (aI @aD (aI @av (aI @dQ (aI @yj @ix)))); repeat' (first|refine zW ?_|apply a_n|refine zO ?_|refine vZ ?_|refine cZ ?_ (hp:=hc) (hs:=by (first | refine ab ?_ rfl | apply ac); (repeat' (first | exact aa | apply ai | apply ae | exact ax _)); first | done | fail)|(refine zGZ ?_ ?_ <;> (intro _hg; try (exfalso; omega)))|fail)) <;> (try clear zz)
   exact ⟨(i,(i + j) / 2),⟨by omega,by omega,by omega⟩,by dsimp only; omega,ag0,rfl,rfl⟩
 ·have ei:i=b:=by omega
  have ej:j=b:=by omega
  clear hij g1 g2 g3
  subst ei
  by_cases hlt:i < l.length
  ·have hc:=eS (l.getD i default) v (hs _ (bf hlt)) hv
   have ix:=ft hlt
   have dlt:decide ((i:Int) < (l.length:Int))=true:=decide_eq_true (by omega)
   have dij:decide ((i:Int) < (j:Int))=false:=decide_eq_false (by omega)
   (have zz:=aI @aM (aI @aD (aI @av (aI @ix (aI @dlt @dij)))); repeat' (first|refine zW ?_|apply a_n|apply a_x|refine zO ?_|refine vZ ?_|refine cZ ?_ (hp:=hc) (hs:=by (first | refine ab ?_ rfl | apply ac); (repeat' (first | exact aa | apply ai | apply ae | exact ax _)); first | done | fail)|refine gTZ ?_|refine cFZ ?_|refine ah rfl ?_|refine r2Z ?_|fail)) <;> (try clear zz)
   refine eu (am (.int _ _) (am (bo ?_) aa))
   rw [decide_eq_true hlt,Bool.true_and]
  ·have dlt:decide ((i:Int) < (l.length:Int))=false:=decide_eq_false (by omega)
   have dij:decide ((i:Int) < (j:Int))=false:=decide_eq_false (by omega)
   (have zz:=aI @aM (aI @aD (aI @av (aI @dlt @dij))); repeat' (first|refine zW ?_|apply a_n|apply a_x|refine zO ?_|refine vZ ?_|refine gFZ ?_|refine cFZ ?_|refine ah rfl ?_|refine r2Z ?_|fail)) <;> (try clear zz)
   refine eu (am (.int _ _) (am (bo ?_) aa))
   rw [decide_eq_false hlt,Bool.false_and]
theorem wS (l:List Spx) (v:Spx) (hl:Shn l) (hs:∀ c ∈ l,Shn c) (hv:Shn v) (ha:bZ bu l):∃ b:Nat,Pure Tryz.prog 58 [aA l,ar v,.func 59 []] (.tup [.int .i64 b,.bool (decide (v ∈ l))])∧(v ∈ l→b < l.length∧l.getD b default=v):=by
 obtain ⟨b,hb,h1,h2⟩:=mP (fun i=>bu (l.getD i default) v) l.length (fun i j hij hj h=>nr.trans (cr ha hij hj) h)
 have hc:=rA l v hl hs hv hb h1 h2
 have he:(decide (b < l.length) && decide (bu (l.getD b default) v=0))=decide (v ∈ l)∧(v ∈ l→b < l.length∧l.getD b default=v):=by
  by_cases hm:v ∈ l
  ·obtain ⟨i,hi,e⟩:=List.getElem_of_mem hm
   have e':l.getD i default=v:=by simp [List.getD,hi,e]
   have hbi:b=i:=by
    rcases Nat.lt_trichotomy b i with h | h | h
    ·have h3:=h2 b (Nat.le_refl _) (by omega)
     have h4:=cr ha h hi
     rw [e'] at h4; omega
    ·exact h
    ·have h3:=h1 i h
     rw [e',dj] at h3; omega
   subst hbi
   rw [decide_eq_true hi,decide_eq_true hm,e',decide_eq_true (dj v)]
   exact ⟨rfl,fun _=>⟨hi,rfl⟩⟩
  ·rw [decide_eq_false hm]
   refine ⟨?_,fun h=>absurd h hm⟩
   by_cases hlt:b < l.length
   ·rw [decide_eq_true hlt,Bool.true_and,decide_eq_false]
    intro h
    exact hm (by rw [← lB h]; exact bf hlt)
   ·rw [decide_eq_false hlt,Bool.false_and]
 rw [he.1] at hc
 refine ⟨b,?_,he.2⟩
 refine Pure.of_c2 follows Ap (Nat.le_of_ble_eq_true rfl) ?_
 simp only [b58,cO,cG,cN,cM,cD,cF,cB,aq,aH]
 (have zz:=aI @aM (aI @aD (aI @aG @ay)); repeat' (first|refine zW ?_|apply a_n|refine zO ?_|refine vZ ?_|refine cZ ?_ (hp:=hc) (hs:=by (first | refine ab ?_ rfl | apply ac); (repeat' (first | exact aa | apply ai | apply ae | exact a9 _ | exact ax _ | exact Dat.func DatL.nil)); first | done | fail)|refine ah rfl ?_|refine r2Z ?_|fail)) <;> (try clear zz)
 exact eu (am (.int _ _) (am (.bool _) aa))
end Go.Proofs.YtbgdcebmgjafjaaGreat
namespace Go.Proofs.YtbgdcebmgjafjaaGreat
open Go Go.Abs
def jb (m:MapV) (X Y:List Spx) (n i:Nat):List Nat:=(List.range n).filter fun k=>decide (cR m (X.getD k default)=Y.getD i default)
theorem uK {m:MapV} {X Y:List Spx} {n i:Nat}:jb m X Y (n + 1) i=jb m X Y n i ++ if cR m (X.getD n default)=Y.getD i default then [n] else []:=by
 unfold jb
 rw [List.range_succ,List.filter_append]
 by_cases h:cR m (X.getD n default)=Y.getD i default
 ·rw [if_pos h,List.filter_cons_of_pos (by simpa using h),List.filter_nil]
 ·rw [if_neg h,List.filter_cons_of_neg (by simpa using h),List.filter_nil]
theorem vI {m:MapV} {X Y:List Spx} {n i:Nat}:(jb m X Y n i).length ≤ n:=by
 unfold jb
 exact Nat.le_trans (List.length_filter_le _ _) (by simp)
def p6 (l:List Nat):List Int:=l.map fun (n:Nat)=>(n:Int)
def y2 (m:MapV) (X Y:List Spx):List (List Int):=(List.range Y.length).map fun i=>p6 (jb m X Y X.length i)
def si (c:Int) (rows:List (List Int)):AV:=.agg [.int .i64 c,dV rows]
def fS (m:MapV) (a b:List Spx) (d:Int):(Int × List (List Int)) × Int:=if (dF m a b).2 ≠ 0 then ((0,[]),(dF m a b).2) else if (dF m a b).1=false then ((0,[]),22) else if d < 0 ∨ 8 ≤ d then ((0,[]),2) else ((((d4 a (d + 1).toNat).length:Nat),y2 m (d4 a (d + 1).toNat) (d4 b (d + 1).toNat)),0)
structure MatOk (H:Hp) (b lo hi n:Nat) (F:Nat→List Nat) (vs:List AV):Prop where
 box:H b=some vs
 len:vs.length=n
 row:∀ j,j < n→Row H 1 (vs.getD j .undef) ((F j).map ua)
 bnd:∀ j B,j < n→dy (vs.getD j .undef)=some B→lo ≤ B∧B < hi∧B ≠ b
 apart:∀ i j B,i < n→j < n→i ≠ j→dy (vs.getD i .undef)=some B→dy (vs.getD j .undef) ≠ some B
theorem MatOk.same {H H':Hp} {b lo hi hi' n:Nat} {F G:Nat→List Nat} {vs:List AV} (h:MatOk H b lo hi n F vs) (hb:H' b=H b) (hs:∀ x,lo ≤ x→x < hi→x ≠ b→H' x=H x) (hh:hi ≤ hi') (hG:∀ j,j < n→G j=F j):MatOk H' b lo hi' n G vs :=
 ⟨hb.trans h.box,h.len,fun j hj=>by rw [hG j hj]; exact (h.row j hj).same fun B hB=>by have:=h.bnd j B hj hB; exact hs B this.1 this.2.1 this.2.2,fun j B hj hB=>by have:=h.bnd j B hj hB; exact ⟨this.1,by omega,this.2.2⟩,h.apart⟩
theorem MatOk.put {H H':Hp} {b lo hi hi' n i x:Nat} {F G:Nat→List Nat} {vs:List AV} {sv:AV} (h:MatOk H b lo hi n F vs) (hin:i < n) (hG:∀ j,j < n→G j=if j=i then F j ++ [x] else F j) (hrow:Row H' 1 sv ((F i ++ [x]).map ua)) (hB:∀ B,dy sv=some B→dy (vs.getD i .undef)=some B ∨ hi ≤ B∧B < hi'∧B ≠ b) (hb:H' b=some (vs.set i sv))
    (hs:∀ x,lo ≤ x→x < hi→x ≠ b→dy (vs.getD i .undef) ≠ some x→H' x=H x) (hh:hi ≤ hi') (hlo:lo ≤ hi):MatOk H' b lo hi' n G (vs.set i sv):=by
 have hl:=h.len
 have hg:∀ j,(vs.set i sv).getD j .undef=if i=j then sv else vs.getD j .undef:=fun j=>ow (by omega)
 refine ⟨hb,by simp [hl],fun j hj=>?_,fun j B hj=>?_,fun p q B hp hq hpq=>?_⟩
 ·rw [hg,hG j hj]
  by_cases e:i=j
  ·rw [if_pos e,if_pos e.symm,← e]; exact hrow
  ·rw [if_neg e,if_neg (fun h=>e h.symm)]
   exact (h.row j hj).same fun B hB'=>by
    have:=h.bnd j B hj hB'
    exact hs B this.1 this.2.1 this.2.2 fun h'=>h.apart i j B hin hj e h' hB'
 ·rw [hg]
  by_cases e:i=j
  ·rw [if_pos e]
   intro hB'
   rcases hB B hB' with h' | h'
   ·have:=h.bnd _ B hin h'; exact ⟨this.1,by omega,this.2.2⟩
   ·exact ⟨by omega,h'.2⟩
  ·rw [if_neg e]
   intro hB'
   have:=h.bnd j B hj hB'
   exact ⟨this.1,by omega,this.2.2⟩
 ·rw [hg,hg]
  by_cases e1:i=p
  ·rw [if_pos e1,if_neg (by omega)]
   intro h1 h2
   rcases hB B h1 with h' | h'
   ·exact h.apart i q B hin hq (by omega) h' h2
   ·have:=h.bnd q B hq h2; omega
  ·rw [if_neg e1]
   by_cases e2:i=q
   ·rw [if_pos e2]
    intro h1 h2
    rcases hB B h2 with h' | h'
    ·exact h.apart p i B hp hin (by omega) h1 h'
    ·have:=h.bnd p B hp h1; omega
   ·rw [if_neg e2]; exact h.apart p q B hp hq hpq
theorem MatOk.snap {H:Hp} {b lo hi n:Nat} {F:Nat→List Nat} {vs:List AV} (h:MatOk H b lo hi n F vs):Snap H (.msl b n 1 0 n) (dV ((List.range n).map fun i=>p6 (F i))):=by
 refine mz (l:=((List.range n).map fun i=>p6 (F i)).map cH) h.box h.len (by omega) (by simp) (fun y hy=>?_) (fun i a c ha hc=>?_)
 ·obtain ⟨z,_,rfl⟩:=List.mem_map.1 hy; rfl
 ·have hin:i < n:=by
    have:=(List.getElem?_eq_some_iff.1 hc).1
    simpa using this
  have hr:=h.row i hin
  rw [Nat.zero_add] at ha
  have e1:vs.getD i .undef=a:=by rw [List.getD_eq_getElem?_getD,ha]; rfl
  rw [e1] at hr
  have e2:c=cH (p6 (F i)):=by
   rw [List.getElem?_map,List.getElem?_map,List.getElem?_range hin] at hc
   simpa using hc.symm
  rw [e2]
  exact qt hr
theorem MatOk.new {H:Hp} {b lo hi n:Nat} {F:Nat→List Nat} (hb:H b=some (List.replicate n .esl)) (hF:∀ j,j < n→F j=[]):MatOk H b lo hi n F (List.replicate n .esl):=by
 have hg:∀ j,j < n→(List.replicate n AV.esl).getD j .undef=.esl:=fun j hj=>by simp [List.getD,List.getElem?_replicate,hj]
 refine ⟨hb,by simp,fun j hj=>?_,fun j B hj h=>?_,fun i j B hi hj _ h=>?_⟩
 ·rw [hg j hj,hF j hj]; exact Row.nil
 ·rw [hg j hj] at h; cases h
 ·rw [hg i hi] at h; cases h
end Go.Proofs.YtbgdcebmgjafjaaGreat
namespace Go.Proofs.YtbgdcebmgjafjaaGreat
open Go Go.Abs
theorem lC {H:Hp} {s:AV} {c:Int} {l:List (List Int)} {e f:Int} (h:Snap H s (dV l)) (he:e=f):Snap H (.tup [.agg [.int .i64 c,s],.int .i64 e]) (.tup [si c l,.int .i64 f]):=by
 subst he; exact eu (am (nD (am (.int _ _) (am h aa))) (am (.int _ _) aa))
theorem wI {m:MapV} {a b:List Spx} (h:(dF m a b).2=0) (h2:(dF m a b).1=true):dX m=0∧aU a=0∧aU b=0∧a.all (ce m)=true∧((a.map (cR m)).all fun s=>b.any fun t=>cg s t)=true:=by
 unfold dF at h h2
 split at h
 ·exact absurd h ‹_›
 split at h
 ·exact absurd h ‹_›
 split at h
 ·exact absurd h ‹_›
 split at h
 ·cases h
 rename_i g1 g2 g3 g4
 rw [if_neg g1,if_neg g2,if_neg g3,if_neg g4] at h2
 refine ⟨Decidable.of_not_not g1,Decidable.of_not_not g2,Decidable.of_not_not g3,by cases e:a.all (ce m) with | true=>rfl | false=>exact absurd e g4,?_⟩
 exact h2
theorem lP {c:List Spx} {k:Nat} {s:Spx}:s ∈ d4 c k ↔ ∃ t ∈ c,s ∈ bK t k:=by
 unfold d4; rw [c9,jk]
theorem qk {c:List Spx} {k:Nat}:bZ bu (d4 c k):=eg nr _
theorem lI {c:List Spx} {k:Nat} (h:c.length ≤ 50) (h8:∀ s ∈ c,s.length ≤ 8):(d4 c k).length ≤ 3500:=Nat.le_trans fG (Nat.le_trans (jc h8) (by omega))
attribute [local irreducible] aF ak be aY aL aO aB aP a7 bt Go.Abs.Fn aW Go.Abs.Pure aw aK Yl
theorem uh (m:MapV) (a b:List Spx) (d:Int) (hm:ShM m) (ha:a.length ≤ 50) (has:∀ s ∈ a,Shn s) (hb:b.length ≤ 50) (hbs:∀ s ∈ b,Shn s):Pure Tryz.prog 18 [pu m,dP a,dP b,.int .i64 d] (.tup [si (fS m a b d).1.1 (fS m a b d).1.2,.int .i64 (fS m a b d).2]):=by
 refine Pure.of_c2 follows BJ (Nat.le_of_ble_eq_true rfl) ?_
 simp only [b18,cO,cG,cN,cM,cD,cF,cB,aq,aH]
 have hsm:=oT m a b hm (show _ ≤ _ by omega) has (show _ ≤ _ by omega) hbs
 unfold fS
 by_cases he:(dF m a b).2=0
 rotate_left
 ·rw [if_pos he]
  have z:decide ((dF m a b).2 ≠ 0)=true:=decide_eq_true he
  generalize dF m a b=q at *
  obtain ⟨q1,q2⟩:=q
  (have zz:=aI @aM (aI @aD (aI @aG (aI @ay @z))); repeat' (first|refine zW ?_|apply a_n|apply a_r|refine zO ?_|refine vY ?_|refine cY ?_ (hp:=hsm) (hs:=by (first | refine ab ?_ rfl | apply ac); (repeat' (first | exact aa | apply ai | apply ae | exact dz _ | exact bn _)); first | done | fail)|refine alY ?_|refine bxY ?_|refine stY ?_|refine cTY ?_|refine ah rfl ?_|refine r2Y ?_|fail)) <;> (try clear zz)
  exact lC (.eslsl _) rfl
 rw [if_neg (fun h=>h he)]
 have z0:decide ((0:Int) ≠ 0)=false:=rfl
 cases hs1:(dF m a b).1
 ·rw [if_pos rfl]
  rw [he,hs1] at hsm
  (have zz:=aI @aM (aI @aD (aI @aG (aI @ay @z0))); repeat' (first|refine zW ?_|apply a_n|apply a_r|refine zO ?_|refine vY ?_|refine cY ?_ (hp:=hsm) (hs:=by (first | refine ab ?_ rfl | apply ac); (repeat' (first | exact aa | apply ai | apply ae | exact dz _ | exact bn _)); first | done | fail)|refine alY ?_|refine bxY ?_|refine stY ?_|refine cTY ?_|refine cFY ?_|refine ah rfl ?_|refine r2Y ?_|fail)) <;> (try clear zz)
  exact lC (.eslsl _) rfl
 rw [if_neg (fun h=>by cases h)]
 obtain ⟨w1,w2,w3,w4,w5⟩:=wI he hs1
 rw [he,hs1] at hsm
 by_cases hd:d < 0 ∨ 8 ≤ d
 ·rw [if_pos hd]
  (have zz:=aI @aM (aI @aD (aI @aG (aI @ay @z0))); repeat' (first|refine zW ?_|apply a_n|apply a_r|refine zO ?_|refine vY ?_|refine cY ?_ (hp:=hsm) (hs:=by (first | refine ab ?_ rfl | apply ac); (repeat' (first | exact aa | apply ai | apply ae | exact dz _ | exact bn _)); first | done | fail)|refine alY ?_|refine bxY ?_|refine stY ?_|refine gTY ?_|refine gFY ?_|refine cTY ?_|refine cFY ?_|(refine zGY ?_ ?_ <;> (intro _hg; try (exfalso; omega)))|refine ah rfl ?_|refine r2Y ?_|fail)) <;> (try clear zz)
  all_goals first | exact lC (.eslsl _) rfl | (exfalso; omega)
 rw [if_neg hd]
 obtain ⟨n,hn⟩:∃ n:Nat,d + 1=n:=⟨(d + 1).toNat,by omega⟩
 have hX:=ga a (d + 1) ha has
 have hY:=ga b (d + 1) hb hbs
 unfold eV at hX hY
 rw [if_neg (fun h=>h w2),if_neg (by omega)] at hX
 rw [if_neg (fun h=>h w3),if_neg (by omega)] at hY
 obtain ⟨v1,v2,v3,v4⟩:=bN w2
 obtain ⟨u1,u2,u3,u4⟩:=bN w3
 have a8:∀ s ∈ a,s.length ≤ 8:=fun s h=>(bJ (v2 s h)).2.1
 have b8:∀ s ∈ b,s.length ≤ 8:=fun s h=>(bJ (u2 s h)).2.1
 rw [hn] at hX hY ⊢
 rw [Int.toNat_natCast] at hX hY ⊢
 have hXl:=lI (k:=n) ha a8
 have hYl:=lI (k:=n) hb b8
 have hXm:∀ s ∈ d4 a n,s ≠ []∧s.length ≤ 8∧ce m s=true:=fun s h=>by
  obtain ⟨t,t1,t2⟩:=lP.1 h
  obtain ⟨g1,g2⟩:=dY.1 t2
  refine ⟨fun e=>by rw [e] at g2; simp at g2; omega,Nat.le_trans g1.length_le (a8 t t1),gf.2 fun v hv=>gf.1 (List.all_eq_true.1 w4 t t1) v (g1.subset hv)⟩
 have hYm:∀ s ∈ d4 b n,Shn s:=fun s h=>by
  obtain ⟨t,t1,t2⟩:=lP.1 h
  have:=(dY.1 t2).1.length_le
  have:=b8 t t1
  show _ ≤ _; omega
 have hYa:=qk (c:=b) (k:=n)
 generalize d4 a n=X at *
 generalize d4 b n=Y at *
 (have zz:=aI @aM (aI @aD (aI @aG (aI @ay (aI @z0 @hn)))); repeat' (first|refine zW ?_|apply a_n|refine zO ?_|refine vY ?_|refine cY ?_ (hp:=by first | exact hsm | exact hX | exact hY) (hs:=by (first | refine ab ?_ rfl | apply ac); (repeat' (first | exact aa | apply ai | apply ae | exact dz _ | exact bn _)); first | done | fail)|refine alY ?_|refine bxY ?_|refine gTY ?_|refine cFY ?_|(refine zGY ?_ ?_ <;> (intro _hg; try (exfalso; omega)))|fail)) <;> (try clear zz)
 refine au ev0 ev0 (rE m hm _ _) ?_
 rintro _ H1 nx1 ⟨hsm1,hle,h⟩
 have gr:H1 3=some [.int .i64 0,.esl]:=(hsm1 3 (by omega)).trans ag
 rcases h with ⟨-,B,rfl,hB1,hB2,hB3⟩ | ⟨he',-⟩
 rotate_left
 ·exact absurd w1 he'
 obtain ⟨q1,q2,q3,q4,q5⟩:=kg w1
 have hzc:aS (AV.agg [AV.esl]) Y.length=List.replicate Y.length .esl:=by simp [aS,AV.cells]
 (have zz:=@av; repeat' (first|refine zW ?_|apply a_n|refine zO ?_|refine vY ?_|fail)) <;> (try clear zz)
 refine xY (k1:=.i64) (k2:=.i64) (n:=Y.length) (m:=Y.length) rfl ev0 ev0 (by omega) (Int.le_refl _) (by omega) (by omega) ?_
 rw [Int.toNat_natCast,hzc,Nat.mul_one]
 (have zz:=@av; repeat' (first|refine zW ?_|apply a_n|refine zO ?_|refine vY ?_|refine alY ?_|refine stY ?_|fail)) <;> (try clear zz)
 refine aN (X:=Nat × List AV) (fun x=>[(8,.ptr 3 2 0),(13,aA Y),(14,.mp B),(16,.ptr (nx1 + 1) 2 0),(80,aA X),(81,.int .i64 X.length),(82,.int .i64 x.1)]) (fun x H' nx'=>x.1 ≤ X.length∧nx1 + 2 ≤ nx'∧(∀ y,y < nx1→H' y=H1 y)∧H' (nx1 + 1)=some [.int .i64 X.length,.msl nx1 Y.length 1 0 Y.length]∧MatOk H' nx1 (nx1 + 2) nx' Y.length (jb m X Y x.1) x.2) (fun x=>X.length - x.1) (0,List.replicate Y.length .esl) ⟨Nat.zero_le _,by omega,fun y hy=>by (repeat rw [af (by omega)]),by rw [ag]; rfl,MatOk.new (by (repeat rw [af (by omega)]); rw [ag]) (fun j _=>rfl)⟩ (by (iterate 7 refine And.intro rfl ?_); trivial) ?_
 rintro ⟨k,vs⟩ H' nx' ⟨h1,h2,h3,h4,hmat⟩
 dsimp only at h1 h2 h3 h4 hmat ⊢
 by_cases hk:k < X.length
 rotate_left
 ·obtain rfl:k=X.length:=by omega
  have g6:H' 3=some [.int .i64 0,.esl]:=(h3 3 (by omega)).trans gr
  have hst:Snap (aj H' 3 [.int .i64 X.length,.msl nx1 Y.length 1 0 Y.length]) (.msl nx1 Y.length 1 0 Y.length) (dV (y2 m X Y)):=(hmat.same (hi':=nx') (G:=jb m X Y X.length) (af (by omega)) (fun x x1 x2 x3=>af (by omega)) (Nat.le_refl _) (fun j _=>rfl)).snap
  (have zz:=aI @h4 @g6; repeat' (first|refine zW ?_|apply a_n|apply a_x|refine zO ?_|refine vY ?_|refine stY ?_|(refine zGY ?_ ?_ <;> (intro _hg; try (exfalso; omega)))|refine ah rfl ?_|refine r2Y ?_|fail)) <;> (try clear zz)
  exact lC hst rfl
 have ix:=ft hk
 obtain ⟨s1,s2,s3⟩:=hXm _ (bf hk)
 have hof:=zH m (X.getD k default) q2 (by omega) s1 B H' nx' ((h3 B hB2).trans hB3) (by omega)
 have hle8:=sH (m:=m) (l:=X.getD k default)
 obtain ⟨p,hpl,hpm⟩:=wS Y (cR m (X.getD k default)) (show _ ≤ _ by omega) hYm (show _ ≤ _ by omega) hYa
 have hF:∀ i,jb m X Y (k + 1) i=jb m X Y k i ++ if cR m (X.getD k default)=Y.getD i default then [k] else []:=fun i=>uK
 generalize X.getD k default=s at *
 (have zz:=@ix; repeat' (first|refine zW ?_|apply a_n|refine zO ?_|refine vY ?_|(refine zGY ?_ ?_ <;> (intro _hg; try (exfalso; omega)))|fail)) <;> (try clear zz)
 refine au ev0 ev0 hof ?_
 rintro _ H2 nx2 ⟨hle2,h⟩
 rcases h with ⟨ht,-,-⟩ | ⟨-,sv,Hf,H3,rfl,hone,hfz,hsn,hsm3⟩
 ·rw [s3] at ht; cases ht
 generalize cR m s=t at *
 (have zz:=@hone; repeat' (first|apply a_n|refine zO ?_|refine vY ?_|fail)) <;> (try clear zz)
 refine dS ?_
 refine jH Hf H3 [(8,.ptr 3 2 0),(13,aA Y),(14,.mp B),(16,.ptr (nx1 + 1) 2 0),(17,.int .i64 k),(19,ar t),(80,aA X),(81,.int .i64 X.length),(82,.int .i64 k)] hfz ⟨.inl rfl,.inl rfl,.inl rfl,.inl rfl,.inl rfl,.inr hsn,.inl rfl,.inl rfl,.inl rfl,trivial⟩ ?_
 have m3:MatOk H3 nx1 (nx1 + 2) nx2 Y.length (jb m X Y k) vs:=hmat.same (hsm3 _ (by omega)) (fun x x1 x2 x3=>hsm3 x x2) (by omega) (fun j _=>rfl)
 have h43:H3 (nx1 + 1)=some [.int .i64 X.length,.msl nx1 Y.length 1 0 Y.length]:=(hsm3 _ (by omega)).trans h4
 have h33:∀ y,y < nx1→H3 y=H1 y:=fun y hy=>(hsm3 y (by omega)).trans (h3 y hy)
 clear hmat h4 h3 hsm3 hfz hsn hof
 by_cases hin:t ∈ Y
 rotate_left
 ·rw [decide_eq_false hin] at hpl
  (have zz:=and_self; repeat' (first|refine zW ?_|apply a_n|refine zO ?_|refine vY ?_|refine cY ?_ (hp:=hpl) (hs:=by (first | refine ab ?_ rfl | apply ac); (repeat' (first | exact aa | apply ai | apply ae | exact a9 _ | exact ax _ | exact Dat.func DatL.nil)); first | done | fail)|refine cFY ?_|fail)) <;> (try clear zz)
  refine ⟨(k + 1,vs),by dsimp only; omega,⟨by dsimp only; omega,by omega,h33,h43,m3.same rfl (fun _ _ _ _=>rfl) (Nat.le_refl _) (fun j hj=>?_)⟩,ag0⟩
  dsimp only
  rw [hF,if_neg (fun e=>hin (by rw [e]; exact bf hj)),List.append_nil]
 rw [decide_eq_true hin] at hpl
 obtain ⟨p1,p2⟩:=hpm hin
 (have zz:=and_self; repeat' (first|refine zW ?_|apply a_n|refine zO ?_|refine vY ?_|refine cY ?_ (hp:=hpl) (hs:=by (first | refine ab ?_ rfl | apply ac); (repeat' (first | exact aa | apply ai | apply ae | exact a9 _ | exact ax _ | exact Dat.func DatL.nil)); first | done | fail)|refine cTY ?_|fail)) <;> (try clear zz)
 refine jN (nx1 + 1) nx1 h43 m3.box (by omega) fun S0 hS1 hS2 hsub=>?_
 have hrow:=m3.row p p1
 have hvs:vs[p]?=some (vs.getD p .undef):=by
  have:=m3.len
  simp [List.getD,show p < vs.length by omega]
 have hlen:=m3.len
 generalize hrv:vs.getD p .undef=rv at *
 (have zz:=aI @hS1 (aI @hS2 (aI @hvs @hlen)); repeat' (first|apply a_n|refine zO ?_|refine nvY ?_|fail)) <;> (try clear zz)
 have hFl:=vI (m:=m) (X:=X) (Y:=Y) (n:=k) (i:=p)
 have hb3:∀ b,dy rv=some b→nx1 + 2 ≤ b∧b < nx2∧b ≠ nx1:=fun b hb=>m3.bnd p b p1 (by rw [hrv]; exact hb)
 refine fZ ?_
 (have zz:=and_self; repeat' (first|apply a_n|refine zO ?_|refine blY ?_|fail)) <;> (try clear zz)
 refine ⟨hsub _ (by rw [af (by omega)]; exact h43) (by rw [af (by omega)]; exact m3.box),?_⟩
 refine fZ ?_
 refine kF rfl ev0 (hrow.same fun b hb=>?_) ev0 fT rfl rfl Nat.one_pos (by rw [List.length_map]; omega) (by rw [List.length_map]; omega) ?_
 ·have:=hb3 b hb; rw [af (by omega)]
 rintro s2 H4 nx4 hr2 i1 i2 i3 i4
 have lo:∀ x,x < nx2→dy rv ≠ some x→H4 x=H3 x:=fun x x1 x2=>(i3 x (by omega) x2).trans (af (by omega))
 have l1:H4 nx1=H3 nx1:=lo nx1 (by omega) (fun h=>by have:=hb3 _ h; omega)
 have l2:H4 (nx1 + 1)=H3 (nx1 + 1):=lo _ (by omega) (fun h=>by have:=hb3 _ h; omega)
 have g1:H4 nx1=some vs:=l1.trans m3.box
 have g2:=l2.trans h43
 obtain ⟨o1,o2⟩:=hr2.one
 refine mJ ⟨hsub _ g2 g1,?_⟩
 have hlp:bb vs p [s2]=vs.set p s2:=by
  simp only [bb,List.length_cons,List.length_nil,Nat.zero_add]
  rw [List.set_eq_take_append_cons_drop,if_pos (by omega)]; simp
 (have zz:=aI @g1 (aI @o1 (aI @o2 (aI @hlen @hlp))); repeat' (first|apply a_n|refine zO ?_|refine vY ?_|refine nvY ?_|apply i8|refine stY ?_|fail)) <;> (try clear zz)
 refine ⟨(k + 1,vs.set p s2),by dsimp only; omega,⟨by dsimp only; omega,by omega,fun y hy=>?_,?_,?_⟩,ag0⟩
 ·rw [af (by omega),lo y (by omega) (fun h=>by have:=hb3 _ h; omega)]; exact h33 y hy
 ·rw [af (by omega)]; exact g2
 ·dsimp only
  refine m3.put (sv:=s2) (x:=k) p1 (fun j hj=>?_) ?_ (fun b hb=>?_) (by rw [ag,hlp]) (fun x x1 x2 x3 x4=>?_) (by omega) (by omega)
  ·rw [hF]
   by_cases e:j=p
   ·rw [if_pos e,if_pos (by rw [e,p2])]
   ·rw [if_neg e,if_neg (fun h=>e ?_),List.append_nil]
    rcases Nat.lt_trichotomy j p with h' | h' | h'
    ·have:=cr hYa h' p1
     rw [← h,p2,dj] at this; omega
    ·exact h'
    ·have:=cr hYa h' hj
     rw [← h,p2,dj] at this; omega
  ·rw [List.map_append]
   exact hr2.same fun b hb=>af (by
    rcases i4 b hb with h | h
    ·have:=hb3 b h; omega
    ·omega)
  ·rw [hrv]
   rcases i4 b hb with h | h
   ·exact .inl h
   ·exact .inr ⟨by omega,by omega,by omega⟩
  ·rw [af x3,lo x x2 (by rw [hrv] at x4; exact x4)]
end Go.Proofs.YtbgdcebmgjafjaaGreat
namespace Go.Proofs.YtbgdcebmgjafjaaGreat
open Go Go.Abs
attribute [local irreducible] aF ak be aY aL aO aB aP a7 bt Go.Abs.Fn aW Go.Abs.Pure aw aK Yl
end Go.Proofs.YtbgdcebmgjafjaaGreat
namespace Go.Proofs.YtbgdcebmgjafjaaGreat
open Go Go.Abs
def Ax:List (Nat × F2):=[(11,b11),(12,b12),(14,b14),(16,b16),(18,b18),(21,b21),(23,b23),(27,b27),(29,b29),(31,b31),(32,b32),(34,b34),(35,b35),(40,b40),(41,b41),(42,b42),(43,b43),(44,b44),(45,b45),(46,b46),(47,b47),(48,b48),(49,b49),(57,b57),(58,b58),(59,b59),(62,b62),(63,b63),(64,b64),(69,b69),(70,b70),(72,b72),(73,b73),(74,b74),(75,b75),(76,b76),(84,b84),(85,b85),(86,b86),(88,b88),(91,b91),(92,b92),(93,b93),(94,b94),(95,b95),(99,b99),(103,yW),(104,zv),(108,yH),(109,xw),(110,yD),(111,yy),(112,yY),(113,yN),(114,xx),(122,xa),(123,xV),(127,zg),(129,xq),(130,yV),(132,xK),(141,xS),(142,xc)]
theorem Aj:gI Tryz.prog (lookup Ax) :=
 (an B6 (an Bo (an AQ (an B5 (an BJ (an B0 (an Cd (an zI (an Ae (an zr (an zN (an z8 (an Ar (an AH (an Bg (an Bz (an Ac (an Ai (an zK (an zL (an BN (an BW (an Bm (an Bk (an Ap (an BK (an z5 (an B4 (an zJ (an Bx (an BP (an A8 (an AG (an zQ (an zU (an A0 (an AB (an BO (an As (an Ag (an zi (an zm (an Bn (an Ak (an BG (an Am (an x9 (an yb (an yx (an vo (an yd (an yu (an yf (an yw (an wz (an we (an vE (an x6 (an uS (an yn (an wj (an vM (an uU t6)))))))))))))))))))))))))))))))))))))))))))))))))))))))))))))))
set_option maxRecDepth 100000 in
theorem pE:Go.Abs.Pure Tryz.prog 11 [] (.bool true):=Pure.of_run follows Aj (pf:=yi [23,14,12,18,16,27,21,40]) (n:=2000) (good:=isTrue) (by decide +kernel) tR
end Go.Proofs.YtbgdcebmgjafjaaGreat
namespace Go.Proofs.YtbgdcebmgjafjaaGreat
open Go Go.Abs
attribute [local irreducible] aF ak be aY aL aO aB aP a7 bt Go.Abs.Fn aW Go.Abs.Pure aw aK Yl
end Go.Proofs.YtbgdcebmgjafjaaGreat
namespace Go.Proofs.YtbgdcebmgjafjaaGreat
open Go Go.Abs
attribute [local irreducible] aF ak be aY aL aO aB aP a7 bt Go.Abs.Fn aW Go.Abs.Pure aw aK Yl
end Go.Proofs.YtbgdcebmgjafjaaGreat
namespace Go.Proofs.YtbgdcebmgjafjaaGreat
open Go Go.Abs
structure PairV where
 a:List Spx
 b:List Spx
 d:Int
attribute [local irreducible] aF ak be aY aL aO aB aP a7 bt Go.Abs.Fn aW Go.Abs.Pure aw aK Yl
end Go.Proofs.YtbgdcebmgjafjaaGreat
namespace Go.Proofs.YtbgdcebmgjafjaaGreat
open Go Go.Abs
theorem xp {m:MapV} (h1:m.fr.length ≤ 4096) (h2:m.to.length=m.fr.length) (h3:bZ bl m.fr) (h4:∀ v ∈ m.fr,bw v=true) (h5:∀ v ∈ m.to,bw v=true):dX m=0:=by
 unfold dX
 rw [if_neg (by omega),if_neg (by omega)]
 refine da fun k hk=>?_
 unfold pY
 rw [if_neg,if_neg]
 ·rintro ⟨a,b⟩
  have:=cr h3 (i:=k - 1) (j:=k) (by omega) hk
  omega
 ·rintro (h | h)
  ·rw [h4 _ (bf hk)] at h; cases h
  ·rw [h5 _ (bf (by omega))] at h; cases h
def ns (c:List Spx):Spx:=dl bl c.flatten
def idV (c:List Spx):MapV:=⟨ns c,ns c⟩
theorem im {c:List Spx} {v:Vtx}:v ∈ ns c ↔ ∃ s ∈ c,v ∈ s:=by
 unfold ns; rw [c9,List.mem_flatten]
theorem iY:∀ {l:List Spx},(∀ s ∈ l,s.length ≤ 8)→l.flatten.length ≤ 8 * l.length
 | [],_=>by simp
 | s :: l,h=>by
  rw [List.flatten_cons,List.length_append,List.length_cons]
  have:=h s List.mem_cons_self
  have:=iY (l:=l) fun t ht=>h t (List.mem_cons_of_mem _ ht)
  omega
theorem uN {c:List Spx} {s:Spx} (hs:∀ v ∈ s,v ∈ ns c) (ha:bZ bl s):cR (idV c) s=s:=by
 unfold cR
 rw [show s.map (iP (idV c))=s from (List.map_congr_left fun v hv=>(gg (hs v hv)).2).trans (List.map_id s)]
 exact w7 kC ha
theorem sn {c:List Spx} (hc:aU c=0) (hl:c.length ≤ 30):dX (idV c)=0:=by
 obtain ⟨p1,p2,p3,p4⟩:=bN hc
 have h8:=iY (l:=c) fun s h=>(bJ (p2 s h)).2.1
 have hr:∀ v ∈ ns c,bw v=true:=fun v hv=>by
  obtain ⟨s,s1,s2⟩:=im.1 hv
  exact (bJ (p2 s s1)).2.2.2 v s2
 refine xp (Nat.le_trans (fG (K:=bl) (l:=c.flatten)) (by omega)) rfl (eg kC _) hr hr
theorem qd {c:List Spx}:c.all (ce (idV c))=true:=by
 rw [List.all_eq_true]
 intro s hs
 exact gf.2 fun v hv=>im.2 ⟨s,hs,hv⟩
theorem sx {c:List Spx} (hc:aU c=0):c.map (cR (idV c))=c:=by
 obtain ⟨p1,p2,p3,p4⟩:=bN hc
 refine (List.map_congr_left fun s hs=>?_).trans (List.map_id c)
 exact uN (fun v hv=>im.2 ⟨s,hs,hv⟩) (bJ (p2 s hs)).2.2.1
theorem vh {c:List Spx} (hc:aU c=0) (hl:c.length ≤ 30):lF (idV c) c=(c,0):=by
 unfold lF
 rw [if_neg (fun h=>h (sn hc hl)),if_neg (fun h=>h hc),if_neg (by rw [qd]; decide),sx hc,uA hc]
theorem wU {c:List Spx} (hc:aU c=0) (hl:c.length ≤ 30):np (idV c)=(true,0):=by
 unfold np
 rw [if_neg (fun h=>h (sn hc hl))]
 have:o0 (idV c)=true:=by
  unfold o0
  rw [List.all_eq_true]
  intro k _
  exact decide_eq_true rfl
 rw [this]
theorem v6 {c:List Spx} (hc:aU c=0) (hl:c.length ≤ 30):dF (idV c) c c=(true,0):=by
 unfold dF
 rw [if_neg (fun h=>h (sn hc hl)),if_neg (fun h=>h hc),if_neg (fun h=>h hc),if_neg (by rw [qd]; decide),sx hc]
 have:(c.all fun s=>c.any fun t=>cg s t)=true:=by
  rw [List.all_eq_true]
  intro s hs
  exact List.any_eq_true.2 ⟨s,hs,e8.2 fun v hv=>hv⟩
 rw [this]
theorem n9:∀ {n i:Nat},i < n→(List.range n).filter (fun k=>decide (k=i))=[i]
 | 0,i,h=>absurd h (by omega)
 | n + 1,i,h=>by
  rw [List.range_succ,List.filter_append]
  by_cases e:n=i
  ·subst e
   rw [List.filter_cons_of_pos (by simp),List.filter_nil,List.filter_eq_nil_iff.2,List.nil_append]
   intro a ha
   have:=List.mem_range.1 ha
   simp; omega
  ·rw [n9 (by omega),List.filter_cons_of_neg (by simpa using e),List.filter_nil,List.append_nil]
theorem xA {c X:List Spx} (hX:bZ bu X) (hs:∀ s ∈ X,cR (idV c) s=s) {i:Nat} (hi:i < X.length):jb (idV c) X X X.length i=[i]:=by
 unfold jb
 rw [← n9 hi]
 refine List.filter_congr fun k hk=>?_
 have hk':=List.mem_range.1 hk
 rw [hs _ (bf hk')]
 refine decide_eq_decide.2 ⟨fun h=>?_,fun h=>by rw [h]⟩
 rcases Nat.lt_trichotomy k i with h' | h' | h'
 ·have:=cr hX h' hi
  rw [h,dj] at this; omega
 ·exact h'
 ·have:=cr hX h' hk'
  rw [h,dj] at this; omega
theorem rm {c:List Spx} {d:Int} (hc:aU c=0) (hl:c.length ≤ 30) (hd:0 ≤ d∧d < 8):fS (idV c) c c d=(((((d4 c (d + 1).toNat).length:Nat):Int),(List.range (d4 c (d + 1).toNat).length).map fun (i:Nat)=>[(i:Int)]),0):=by
 obtain ⟨p1,p2,p3,p4⟩:=bN hc
 unfold fS
 rw [v6 hc hl,if_neg (fun h=>h rfl),if_neg (by decide),if_neg (by omega)]
 unfold y2
 have hX:∀ s ∈ d4 c (d + 1).toNat,cR (idV c) s=s:=fun s h=>by
  obtain ⟨t,t1,t2⟩:=lP.1 h
  exact uN (fun v hv=>im.2 ⟨t,t1,(dY.1 t2).1.subset hv⟩) (vn (bJ (p2 t t1)).2.2.1 t2)
 have:(List.range (d4 c (d + 1).toNat).length).map (fun i=>p6 (jb (idV c) (d4 c (d + 1).toNat) (d4 c (d + 1).toNat) (d4 c (d + 1).toNat).length i))=(List.range (d4 c (d + 1).toNat).length).map fun (i:Nat)=>[(i:Int)] :=
  List.map_congr_left fun i hi=>by rw [xA qk hX (List.mem_range.1 hi)]; rfl
 rw [this]
end Go.Proofs.YtbgdcebmgjafjaaGreat
namespace Go.Proofs.YtbgdcebmgjafjaaGreat
open Go Go.Abs
attribute [local irreducible] aF ak be aY aL aO aB aP a7 bt Go.Abs.Fn aW Go.Abs.Pure aw aK Yl
theorem wH (l m:List Int) (hl:l.length ≤ 1000000) (hm:m.length ≤ 1000000):Pure Tryz.prog 33 [cH l,cH m] (.bool (decide (l=m))):=by
 refine Pure.of_c2 follows Ce (Nat.le_of_ble_eq_true rfl) ?_
 simp only [b33,cO,cG,cN,cM,cD,cF,cB,aq,aH]
 (have zz:=and_self; repeat' (first|refine zW ?_|apply a_n|apply a_r|refine zO ?_|refine vZ ?_|(refine zGZ ?_ ?_ <;> (intro _hg; try (exfalso; omega)))|refine ah rfl ?_|refine r1Z ?_|fail)) <;> (try clear zz)
 ·refine bo ?_
  symm; rw [decide_eq_false_iff_not]; rintro rfl; omega
 refine sX (X:=Nat) (fun k=>[(0,cH l),(1,cH m),(12,.int .i64 l.length),(13,.int .i64 k)]) (fun k=>k ≤ l.length∧∀ i,i < k→l.getD i default=m.getD i default) (fun k=>l.length - k) 0 ⟨Nat.zero_le _,by simp⟩ ag0 ?_
 rintro k ⟨h1,h2⟩
 (have zz:=and_self; repeat' (first|refine zW ?_|apply a_n|apply a_x|apply a_r|refine zO ?_|refine vZ ?_|(refine zGZ ?_ ?_ <;> (intro _hg; try (exfalso; omega)))|refine ah rfl ?_|refine r1Z ?_|fail)) <;> (try clear zz)
 ·refine bo ?_
  symm; rw [decide_eq_false_iff_not]; rintro rfl; exact absurd rfl ‹_›
 ·refine ⟨k + 1,⟨by omega,fun i hi=>?_⟩,by omega,ag0,rfl,rfl⟩
  rcases Nat.lt_succ_iff_lt_or_eq.1 hi with h | rfl
  ·exact h2 i h
  ·omega
 ·refine bo ?_
  symm; rw [decide_eq_true_iff]
  refine List.ext_getElem (by omega) (fun i h3 h4=>?_)
  have:=h2 i (by omega)
  simpa [List.getD,h3,h4] using this
theorem xn (c:List Spx) (dm:Nat) (hc:Shn c∧∀ s ∈ c,Shn s) (hd:dm < 256):Pure Tryz.prog 6 [dP c,.int .u8 dm] (.bool true):=by
 refine Pure.of_c2 follows is6 (Nat.le_of_ble_eq_true rfl) ?_
 simp only [b6,cO,cG,cN,cM,cD,cF,cB,aq,aH]
 have f1:=wX c hc.1 hc.2
 have f2:=fN c hc.1 hc.2
 cases e1:ia c
 ·rw [e1] at f1
  (have zz:=aI @aG @ay; repeat' (first|refine zW ?_|apply a_n|apply a_r|refine zO ?_|refine vY ?_|refine cY ?_ (hp:=by first | exact f1 | exact pE) (hs:=by (first | refine ab ?_ rfl | apply ac); (repeat' (first | exact aa | apply ai | apply ae | exact bn _)); first | done | fail)|refine bxY ?_|refine gFY ?_|refine cTY ?_|refine ah rfl ?_|refine r1Y ?_|fail)) <;> (try clear zz)
  exact .bool _
 rw [e1] at f1
 obtain ⟨fc1,fc2⟩:=rF.1 e1
 by_cases he:aU c=0
 rotate_left
 ·have z:decide (aU c ≠ 0)=true:=decide_eq_true he
  (have zz:=aI @aG (aI @ay @z); repeat' (first|refine zW ?_|apply a_n|apply a_r|refine zO ?_|refine vY ?_|refine cY ?_ (hp:=by first | exact f1 | exact f2 | exact pE) (hs:=by (first | refine ab ?_ rfl | apply ac); (repeat' (first | exact aa | apply ai | apply ae | exact bn _)); first | done | fail)|refine bxY ?_|refine gTY ?_|refine cTY ?_|refine ah rfl ?_|refine r1Y ?_|fail)) <;> (try clear zz)
  exact .bool _
 rw [he] at f2
 have z0:decide ((0:Int) ≠ 0)=false:=rfl
 have s1:=qQ c (by omega) hc.2
 rw [if_pos he,he] at s1
 have hV:(dl bl c.flatten).length ≤ 1000000:=by
  have h1:=fG (K:=bl) (l:=c.flatten)
  have h2:=iY (l:=c) fun s h=>(bJ ((bN he).2.1 s h)).2.1
  omega
 have hMs:ShM (idV c):=⟨show (dl bl c.flatten).length ≤ _ by omega,show (dl bl c.flatten).length ≤ _ by omega⟩
 have s2:=xo (idV c) c hMs hc.1 hc.2
 have s3:=qL (idV c) hMs
 rw [vh he fc1] at s2
 rw [wU he fc1] at s3
 have hdd:(0:Int) ≤ ((dm % 4:Nat):Int)∧((dm % 4:Nat):Int) < 8:=by omega
 have s4:=uh (idV c) c c ((dm % 4:Nat):Int) hMs (by omega) hc.2 (by omega) hc.2
 rw [rm he fc1 hdd] at s4
 have s5:=ga c (((dm % 4:Nat):Int) + 1) (by omega) hc.2
 unfold eV at s5
 rw [if_neg (fun h=>h he),if_neg (by omega)] at s5
 have s6:=vH c c hc.1 hc.1 hc.2 hc.2
 rw [decide_eq_true rfl] at s6
 have hXl:=lI (k:=(((dm % 4:Nat):Int) + 1).toNat) (show c.length ≤ 50 by omega) (fun s h=>(bJ ((bN he).2.1 s h)).2.1)
 unfold si at s4
 unfold idV ns at s2 s3 s4
 generalize d4 c (((dm % 4:Nat):Int) + 1).toNat=X at *
 generalize dl bl c.flatten=V at *
 have dM:Dat (pu ⟨V,V⟩):=dz _
 (have zz:=aI @aM (aI @aD (aI @aG (aI @ay @z0))); repeat' (first|refine zW ?_|apply a_n|refine zO ?_|refine vY ?_|refine cY ?_ (hp:=by first | exact f1 | exact f2 | exact s1) (hs:=by (first | refine ab ?_ rfl | apply ac); (repeat' (first | exact aa | apply ai | apply ae | exact bn _)); first | done | fail)|refine bxY ?_|refine gTY ?_|refine cFY ?_|fail)) <;> (try clear zz)
 refine tv ev0 ev0 (oe V hV) (am (ax _ _) aa) ?_
 (have zz:=aI @aM (aI @aD (aI @aG (aI @ay @z0))); repeat' (first|refine zW ?_|apply a_n|refine zO ?_|refine vY ?_|refine cY ?_ (hp:=by first | exact s2 | exact s3) (hs:=by (first | refine ab ?_ rfl | apply ac); (repeat' (first | exact aa | apply ai | apply ae | exact bn _ | exact dM)); first | done | fail)|refine alY ?_|refine stY ?_|fail)) <;> (try clear zz)
 have hrem:∀ tb tf,aV .rem tb tf (.int .u8 (dm:Int)) (.int .u8 4)=some (.int .u8 ((dm % 4:Nat):Int)):=fun _ _=>(xf (by omega) (by omega)).trans (by rw [show (dm:Int) % 4=((dm % 4:Nat):Int) by omega])
 have hw:IntKind.wrap .i64 ((dm % 4:Nat):Int)=((dm % 4:Nat):Int):=by
  have:dm % 4 < 4:=Nat.mod_lt _ (by omega)
  generalize dm % 4=q at *
  rcases (by omega:q=0 ∨ q=1 ∨ q=2 ∨ q=3) with rfl | rfl | rfl | rfl <;> decide
 obtain ⟨R,hRR,hRl,hRg⟩:∃ R:List (List Int),(List.range X.length).map (fun (i:Nat)=>[(i:Int)])=R∧R.length=X.length∧∀ k,k < R.length→R.getD k default=[(k:Int)] :=
  ⟨_,rfl,by simp,fun k hk=>by simp at hk; simp [List.getD,hk]⟩
 rw [hRR] at s4
 clear hRR
 have dR:Dat (.agg [.int .i64 X.length,dV R]):=Dat.agg (DatL.cons .int (DatL.cons (nW _) DatL.nil))
 have z3:decide ((X.length:Int) ≠ (X.length:Int))=false:=by simp
 have z4:decide ((R.length:Int) ≠ (X.length:Int))=false:=by simp [hRl]
 (have zz:=aI @aM (aI @aD (aI @aG (aI @ay (aI @av (aI @z0 (aI @z3 (aI @z4 (aI @hrem @hw)))))))); repeat' (first|refine zW ?_|apply a_n|refine zO ?_|refine vY ?_|refine cY ?_ (hp:=by first | exact s4 | exact s5 | exact s6) (hs:=by (first | refine ab ?_ rfl | apply ac); (repeat' (first | exact aa | apply ai | apply ae | exact bn _ | exact dM | exact dR)); first | done | fail)|refine alY ?_|refine stY ?_|refine gTY ?_|(refine zGY ?_ ?_ <;> (intro _hg; try (exfalso; omega)))|refine cFY ?_|fail)) <;> (try clear zz)
 refine aN (X:=Nat) (fun k=>[(102,dV R),(103,.int .i64 R.length),(104,.int .i64 k)]) (fun k H nx=>k ≤ R.length) (fun k=>R.length - k) 0 (Nat.zero_le _) (by (iterate 3 refine And.intro rfl ?_); trivial) ?_
 clear s4 s5 dR hrem hw
 rintro k H nx hk
 by_cases hk2:k < R.length
 rotate_left
 ·(have zz:=and_self; repeat' (first|refine zW ?_|apply a_n|apply a_x|refine zO ?_|refine vY ?_|refine cY ?_ (hp:=pE)|(refine zGY ?_ ?_ <;> (intro _hg; try (exfalso; omega)))|refine ah rfl ?_|refine r1Y ?_|fail)) <;> (try clear zz)
  exact .bool _
 have hg:=hRg k hk2
 have heq:=wH [(k:Int)] [(k:Int)] (by simp) (by simp)
 rw [decide_eq_true rfl] at heq
 (have zz:=@hg; repeat' (first|refine zW ?_|apply a_n|refine zO ?_|refine vY ?_|refine blY ?_|(refine zGY ?_ ?_ <;> (intro _hg; try (exfalso; omega)))|fail)) <;> (try clear zz)
 refine bR ev0 ev0 heq (ab (am (fJ _ _) (am (nG (b:=nx) (n:=1) (len:=1) (l:=[(k:Int)]) (by rw [ag]; rfl) rfl rfl) aa)) rfl) ?_
 (have zz:=and_self; repeat' (first|apply a_n|refine zO ?_|refine vY ?_|refine cFY ?_|fail)) <;> (try clear zz)
 exact ⟨k + 1,by omega,by omega,ag0⟩
end Go.Proofs.YtbgdcebmgjafjaaGreat
namespace Go.Proofs.YtbgdcebmgjafjaaGreat
open Go Go.Abs Go.RowKit
theorem wf8 {n:Int} (h:(Lit.int .u8 n).wf=true):0 ≤ n∧n < 256:=by
 simp only [Lit.wf,Bool.and_eq_true,decide_eq_true_eq] at h
 have h1:IntKind.min .u8=0:=by decide
 have h2:IntKind.max .u8=255:=by decide
 omega
section
variable {H:Type} {enc:TypeId × Value→H} {W:World}
theorem ou8:cS enc Tryz.prog W 5 (fun n:Nat=>AV.int .u8 (n:Int)) (fun n=>n < 256) :=
 (oz Tryz.underlying5).map (fun n=>n.toNat) (fun n h=>by
  have h2:=wf8 h
  omega) (fun n h=>by
  have h2:=wf8 h
  rw [Int.toNat_of_nonneg h2.1])
end
end Go.Proofs.YtbgdcebmgjafjaaGreat
namespace Go.Proofs.YtbgdcebmgjafjaaGreat
open Go Go.Abs Go.RowKit Go.ChangeShapes Go.WideShapes Go.ChangeAt
theorem nK {H:Type} {enc:TypeId × Value→H} {P:Program} {f:Func} {s:ChangeSpec} {apart fresh handsOn again:Bool} {W W':World} {args:Array Value} {v:Value} {ds gs:List (DataW H)} {before pa pv:List MemPlace}
    (hW:DataW.Whole enc P f.params.toList s.vars apart W args.toList ds gs before)
    (hres:∀ (b:Nat) (sp:Nat→Bool) (hd:Bool),DataW.TrodAll enc P W' b sp hd f.resultTypes.toList (v.resultList f.resultTypes.size) (s.fn H (ds ++ gs)).results [])
    (hargs:∀ sp:Nat→Bool,(∀ p ∈ before,sp p.block=true)→DataW.TrodAll enc P W' 0 sp true f.params.toList args.toList (s.fn H (ds ++ gs)).args pa)
    (hvars:∀ sp:Nat→Bool,(∀ p ∈ before,sp p.block=true)→DataW.TrodVars enc P W' sp s.vars (s.fn H (ds ++ gs)).vars pv)
    (hps:before=pa ++ pv) (hb:Below W.heap.size W W')
    (hok:∀ (j:Nat) (t:TypeId) (r:Value),f.resultTypes[j]?=some t→(v.resultList f.resultTypes.size)[j]?=some r→Value.okWide P W' .any 0 t r) :
    s.post enc P f apart fresh handsOn again W args v W':=by
 have hold:∀ p ∈ before,(fun b=>decide (b < W.heap.size)) p.block=true:=fun p hp=>by simpa using hW.lt p hp
 have hlt:=fun p hp=>hW.lt p hp
 refine ⟨ds,gs,before,[],pa,pv,hW,hres _ _ _,hargs _ hold,hvars _ hold,World.keptBut_mono (fun p hp=>⟨hp,?_⟩) (hb.frame _),fun _=>?_⟩
 ·rw [hps,List.mem_append] at hp
  exact Or.inr hp
 ·obtain ⟨_,_,_,_,_,hz,hn⟩:=hW
  refine ⟨hok,_,_,([] ++ pa) ++ pv,⟨[] ++ pa,pv,trodAll_append (hargs _ (fun _ _=>rfl)) (hres _ _ _),hvars _ (fun _ _=>rfl),rfl,?_,?_⟩,?_⟩
  ·intro b off hp
   have hp':MemPlace.cell b off ∈ before:=by rw [hps]; simpa using hp
   rw [hb.frozen (hlt _ hp')]
   exact hz b off hp'
  ·intro ha
   have:=hn ha
   rw [hps] at this
   simpa using this
  ·intro p hp _
   rw [hps]
   simpa using hp
theorem uY {E:Env} {w:World}:bP E w [] []:=⟨rfl,fun i x y h=>(by cases h)⟩
theorem ou {E:Env} {w:World} {x:AV} {y:Value} {xs:List AV} {ys:List Value} (h:Rel E w x y) (hs:bP E w xs ys):bP E w (x :: xs) (y :: ys):=by
 refine ⟨by simp [hs.1],fun i a b ha hb=>?_⟩
 cases i with
 | zero=>simp at ha hb; subst ha hb; exact h
 | succ i=>simp at ha hb; exact hs.2 i a b ha hb
theorem own:ownKnob Tryz.prog.godebug=none:=by kernel_rfl
end Go.Proofs.YtbgdcebmgjafjaaGreat