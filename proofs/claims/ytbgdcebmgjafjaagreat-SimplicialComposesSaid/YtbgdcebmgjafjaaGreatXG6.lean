/- Texts of this claim, one after the other: T106, T109, T110, T111, T112, T113, T107, T114, T115, T116, T117, T119, T124, T125, T120, T123, T126, T127, T128, T135, T136, T137, T129, T130, T131, T138, T139, T140, T141, T142, T143, T163, T164, T132, T134, T160, T161, A33, T122, T133. -/
import Derived.Test.YtbgdcebmgjafjaaGreatXG4
import Derived.Test.YtbgdcebmgjafjaaGreatXG5
import Derived.Test.YtbgdcebmgjafjaaGreatXG3

set_option linter.unusedSimpArgs false
set_option linter.unusedVariables false
namespace Go.Proofs.YtbgdcebmgjafjaaGreat
open Go Go.Abs
open Nat (reduceEqDiff reduceAdd reduceLeDiff)
theorem qB:∀ (l:Spx) (k:Nat),(cX l).drop (k * 2)=cX (l.drop k)
 | [],k=>by simp [cX]
 | a :: l,0=>by simp
 | a :: l,k + 1=>by
  show (lN a ++ cX l).drop _=cX (l.drop k)
  rw [show (k + 1) * 2=(lN a).length + k * 2 by show _=2 + _; omega,List.drop_append,List.drop_eq_nil_of_le (Nat.le_add_right _ _),List.nil_append,Nat.add_sub_cancel_left,qB l k]
theorem my:∀ (l:Spx) (k:Nat),(cX l).take (k * 2)=cX (l.take k)
 | [],k=>by simp [cX]
 | a :: l,0=>by simp [cX]
 | a :: l,k + 1=>by
  show (lN a ++ cX l).take _=lN a ++ cX (l.take k)
  rw [List.take_append,List.take_of_length_le (by show 2 ≤ _; omega),show (k + 1) * 2 - (lN a).length=k * 2 by show _ - 2=_; omega,my l k]
theorem rdX {l:Spx} {k:Nat} (hk:k < l.length):((cX l).drop (k * 2)).take 2=[.int .i64 (l.getD k default).color,.int .i64 (l.getD k default).label]:=by
 rw [qB,fw hk]; rfl
theorem CI {l:Spx} {k:Nat} {w:Vtx} (hk:k < l.length):bf (cX l) (k * 2) [.int .i64 w.color,.int .i64 w.label]=cX (l.set k w):=by
 simp only [bf,List.length_cons,List.length_nil]
 rw [show k * 2 + (0 + 1 + 1)=(k + 1) * 2 by omega,qB,my,List.set_eq_take_append_cons_drop,if_pos hk]
 simp only [cX,List.flatMap_append,List.flatMap_cons,List.append_assoc]
 rfl
theorem mz {c:Prop} [Decidable c] {g:List AV→AV} {x:List AV}:Option.map g (if c then some x else none)=if c then some (g x) else none:=by
 split <;> rfl
theorem ve {L:Spx} {h:Nat} {x:Vtx} (hh:h < L.length):(L.set h x).take (h + 1)=L.take h ++ [x]:=by
 rw [bG (by simpa using hh),List.take_set_of_le (Nat.le_refl h)]
 simp [List.getD,hh]
theorem nB {B n len k:Nat} (h:k < len) (hn:n ≠ 0):jx 2 (.msl B n 2 0 len) (some (.int .i64 k)) none none=some (.msl B n 2 (k * 2) (len - k)):=by
 simp only [jx,bg,Int.natCast_nonneg,if_true,Int.toNat_natCast]
 rw [if_pos ⟨trivial,by omega,Nat.le_refl _,hn⟩,if_pos (.inr h),Nat.zero_add]
theorem sR {B n len k:Nat} (h:k ≤ len) (hn:n ≠ 0):jx 2 (.msl B n 2 0 len) none (some (.int .i64 k)) none=some (.msl B n 2 0 k):=by
 simp only [jx,bg,Int.natCast_nonneg,if_true,Int.toNat_natCast]
 rw [if_pos ⟨trivial,by omega,h,hn⟩,if_pos (.inl trivial),Nat.zero_mul,Nat.sub_zero]
theorem uS {H:Hp} {B:Nat} {cs:List AV} (hH:H B=some cs):H=ak H B cs:=by
 funext b
 by_cases e:b=B
 ·subst e; rw [ah]; exact hH
 ·rw [ag e]
attribute [local irreducible] aG al a9 aW aN aP aC aQ aZ bt Go.Abs.Fn aV Go.Abs.Pure ax aL Yl
set_option maxHeartbeats 1000000 in
theorem sJ (l:Spx) (hl:Shn l) (h0:l ≠ []) (H:Hp) (B nx:Nat) (hH:H B=some (cX l)) (hB:B < nx) :
    Abs.Fn Tryz.prog 92 [.msl B (l.length * 2) 2 0 l.length] H nx fun r H' nx'=>r=.msl B (l.length * 2) 2 0 (bu l l.length)∧(∃ C,H'=ak H B C∧C.length=l.length * 2∧C.take (bu l l.length * 2)=cX (cV l l.length))∧nx'=nx:=by
 refine Abs.Fn.of_c2 follows Ca (Nat.le_of_ble_eq_true rfl) ?_
 simp only [b92,cO,cG,cN,cM,cD,cF,cB,au,aK]
 have hl':l.length ≤ 17592186044416:=hl
 have hpos:=List.length_pos_iff.2 h0
 have hid:=uS hH
 (have zz:=and_self; repeat' (first|refine zW ?_|apply a_n|apply a_r|refine zO ?_|refine vZ ?_|(refine zGZ ?_ ?_ <;> (intro _hg; try (exfalso; omega)))|refine ai rfl ?_|refine r1Z ?_|fail)) <;> (try clear zz)
 ·have e1:l.length=1:=by omega
  have e2:cV l l.length=l:=by
   match l,e1 with
   | [a],_=>rfl
  refine ⟨?_,⟨_,hid,eZ l,?_⟩,rfl⟩
  ·rw [show bu l l.length=l.length by rw [e1]; rfl]
  ·rw [e2,show bu l l.length=l.length by rw [e1]; rfl,List.take_of_length_le (by rw [eZ]; omega)]
 refine aR (X:=Nat) (fun k=>[(0,.msl B (l.length * 2) 2 0 l.length),(3,.int .i64 k)]) (fun k H' nx'=>H'=H∧nx'=nx∧1 ≤ k∧k ≤ l.length∧bu l k=k∧cV l k=l.take k) (fun k=>l.length - k) 1 ⟨rfl,rfl,Nat.le_refl _,hpos,rfl,by match l,h0 with | a :: r,_=>rfl⟩ ag0 ?_
 rintro k H' nx' ⟨rfl,rfl,k1,k2,k3,k4⟩
 have hcl:=eZ l
 by_cases hk:k < l.length
 ·have tk:(k:Int) - 1=(k - 1:Nat):=by omega
  have q1:=rdX hk
  have q2:=rdX (l:=l) (k:=k - 1) (by omega)
  have hd:=je (l.getD k default) (l.getD (k - 1) default)
  by_cases he:l.getD k default=l.getD (k - 1) default
  ·have hs:=nB (B:=B) (n:=l.length * 2) hk (by omega)
   rw [decide_eq_true he] at hd
   (have zz:=aI @tk (aI @hH (aI @Int.toNat_natCast (aI @hcl (aI @q1 (aI @q2 (aI @mz (aI @acq (aI @hd @hs)))))))); repeat' (first|refine zW ?_|apply a_n|refine zO ?_|refine vZ ?_|refine cTZ ?_|(refine zGZ ?_ ?_ <;> (intro _hg; try (exfalso; omega)))|fail)) <;> (try clear zz)
   refine aR (X:=Nat × Spx) (fun x=>[(0,.msl B (l.length * 2) 2 0 l.length),(3,.int .i64 (bu l (k + x.1):Nat)),(4,.msl B (l.length * 2) 2 (k * 2) (l.length - k)),(5,.int .i64 x.1)]) (fun x H2 nx2=>x.2.length=l.length∧1 ≤ x.1∧k + x.1 ≤ l.length∧bu l (k + x.1) + 1 ≤ k + x.1∧H2=ak H' B (cX x.2)∧nx2=nx'∧(∀ p,k + x.1 ≤ p + 1→x.2.getD p default=l.getD p default)∧x.2.take (bu l (k + x.1))=cV l (k + x.1)) (fun x=>l.length - x.1) (1,l)
    ⟨rfl,Nat.le_refl _,hk,by dsimp only; rw [dv (by omega) he]; omega,hid,rfl,fun _ _=>rfl,by dsimp only; rw [dv (by omega) he,gR (by omega) he,k3,k4]⟩ (by simp (disch:=omega) only [agr,ZG,reduceEqDiff,↓reduceIte,dv (show k ≠ 0 by omega) he,k3]) ?_
   rintro ⟨j,L⟩ H2 nx2 ⟨a1,a2,a3,a4,rfl,rfl,a5,a6⟩
   dsimp only at a1 a2 a3 a4 a5 a6 ⊢
   have hcL:(cX L).length=l.length * 2:=by rw [eZ,a1]
   by_cases hj:k + j < l.length
   ·have tj:(j:Int) - 1=(j - 1:Nat):=by omega
    have r1:=a5 (k + j) (by omega)
    have r2:=a5 (k + (j - 1)) (by omega)
    have s1:=rdX (l:=L) (k:=k + j) (by omega)
    have s2:=rdX (l:=L) (k:=k + (j - 1)) (by omega)
    rw [r1] at s1
    rw [r2] at s2
    rw [Nat.add_mul] at s1 s2
    have hd2:=je (l.getD (k + j) default) (l.getD (k + (j - 1)) default)
    by_cases hd:l.getD (k + j) default=l.getD (k + (j - 1)) default
    ·have hq:bu l (k + (j + 1))=bu l (k + j):=dv (l:=l) (k:=k + j) (by omega) (by rw [hd,show k + j - 1=k + (j - 1) by omega])
     rw [decide_eq_true hd] at hd2
     (have zz:=aI @tj (aI @Int.toNat_natCast (aI @hcL (aI @s1 (aI @s2 (aI @mz (aI @acn @hd2)))))); repeat' (first|refine zW ?_|apply a_n|refine zO ?_|refine vZ ?_|refine cFZ ?_|(refine zGZ ?_ ?_ <;> (intro _hg; try (exfalso; omega)))|fail)) <;> (try clear zz)
     refine ⟨(j + 1,L),by dsimp only; omega,⟨a1,by dsimp only; omega,by dsimp only; omega,?_,rfl,rfl,fun p hp=>a5 p (by dsimp only at hp; omega),by dsimp only; rw [hq,show k + (j + 1)=k + j + 1 from rfl,gR (by omega) (by rw [hd,show k + j - 1=k + (j - 1) by omega])]; exact a6⟩,(have zz:=@hq; agZ)⟩
     dsimp only
     rw [hq]
     omega
    ·have hq:bu l (k + (j + 1))=bu l (k + j) + 1:=gK (l:=l) (k:=k + j) (by rw [show k + j - 1=k + (j - 1) by omega]; exact hd)
     have hlm:=CI (l:=L) (k:=bu l (k + j)) (w:=l.getD (k + j) default) (by omega)
     rw [decide_eq_false hd] at hd2
     have hle:bu l (k + j) * 2 + 2 ≤ l.length * 2:=by omega
     (have zz:=aI @tj (aI @Int.toNat_natCast (aI @hcL (aI @s1 (aI @s2 (aI @mz (aI @acn @hd2)))))); repeat' (first|refine zW ?_|apply a_n|refine zO ?_|refine vZ ?_|refine stZ ?_|refine cTZ ?_|(refine zGZ ?_ ?_ <;> (intro _hg; try (exfalso; omega)))|fail)) <;> (try clear zz)
     refine ⟨(j + 1,L.set (bu l (k + j)) (l.getD (k + j) default)),by dsimp only; omega,⟨by simp [a1],by dsimp only; omega,by dsimp only; omega,?_,?_,rfl,fun p hp=>?_,by dsimp only; rw [hq,ve (by omega),a6,show k + (j + 1)=k + j + 1 from rfl,gZ (by rw [show k + j - 1=k + (j - 1) by omega]; exact hd)]⟩,(have zz:=@hq; agZ)⟩
     ·dsimp only
      rw [hq]
      omega
     ·dsimp only
      rw [am,hlm]
     ·dsimp only at hp ⊢
      rw [List.getD_eq_getElem?_getD,List.getElem?_set_ne (by omega),← List.getD_eq_getElem?_getD]
      exact a5 p (by omega)
   ·have hn:k + j=l.length:=by omega
    have hl1:=nB (B:=B) (n:=l.length * 2) (show bu l (k + j) < l.length by omega) (by omega)
    have hl2:=sR (B:=B) (n:=l.length * 2) (show bu l (k + j) ≤ l.length by omega) (by omega)
    (have zz:=aI @hl1 @hl2; repeat' (first|refine zW ?_|apply a_n|apply a_x|refine zO ?_|refine vZ ?_|(refine zGZ ?_ ?_ <;> (intro _hg; try (exfalso; omega)))|fail)) <;> (try clear zz)
    refine yS (H':=ak (ak H' B (cX L)) B (bf (cX L) (bu l (k + j) * 2) (aY (.agg [.int .i64 0,.int .i64 0]) (l.length - bu l (k + j))))) ?_ ?_
    ·((try simp only [bS,ZA,reduceEqDiff,↓reduceIte,reduceAdd,reduceLeDiff]); (try with_reducible rfl))
     simp only [fG]
     rw [if_neg (by omega),ah]
     dsimp only
     rw [if_pos ⟨hcL,trivial,rfl,rfl,by omega⟩]
     rfl
    ·(have zz:=@hl2; repeat' (first|refine zW ?_|apply a_n|apply a_r|refine zO ?_|refine vZ ?_|refine ai rfl ?_|refine r1Z ?_|fail)) <;> (try clear zz)
     refine ⟨by rw [hn],⟨_,am _ _ _ _,?_,?_⟩,rfl⟩
     ·have hz:(aY (AV.agg [.int .i64 0,.int .i64 0]) (l.length - bu l (k + j))).length=(l.length - bu l (k + j)) * 2:=by simp [aY,AV.cells]
      simp only [bf,List.length_append,List.length_take,List.length_drop,hz,hcL]
      omega
     ·rw [← hn,← a6,← my]
      simp only [bf]
      rw [List.append_assoc,List.take_append_of_le_length (by rw [List.length_take,hcL]; omega),List.take_take,Nat.min_self]
  ·rw [decide_eq_false he] at hd
   (have zz:=aI @tk (aI @hH (aI @Int.toNat_natCast (aI @hcl (aI @q1 (aI @q2 (aI @mz (aI @acq @hd))))))); repeat' (first|refine zW ?_|apply a_n|refine zO ?_|refine vZ ?_|refine cFZ ?_|(refine zGZ ?_ ?_ <;> (intro _hg; try (exfalso; omega)))|fail)) <;> (try clear zz)
   exact ⟨k + 1,by omega,⟨rfl,rfl,by omega,by omega,by rw [gK he,k3],by rw [gZ he,k4,bG hk]⟩,ag0⟩
 ·(have zz:=and_self; repeat' (first|refine zW ?_|apply a_n|apply a_x|refine zO ?_|refine vZ ?_|(refine zGZ ?_ ?_ <;> (intro _hg; try (exfalso; omega)))|refine ai rfl ?_|refine r1Z ?_|fail)) <;> (try clear zz)
  have e:l.length=k:=by omega
  refine ⟨by rw [e,k3],⟨_,hid,hcl,?_⟩,rfl⟩
  rw [e,k3,k4,← my]
end Go.Proofs.YtbgdcebmgjafjaaGreat
namespace Go.Proofs.YtbgdcebmgjafjaaGreat
open Go Go.Abs
theorem zf (a b:Vtx):kp (.st [.int,.int]) (bk a) (bk b)=some (decide (a=b)):=by
 show bV [.int,.int] [.int .i64 a.color,.int .i64 a.label] [.int .i64 b.color,.int .i64 b.label]=_
 rw [tT,je]
theorem kL (v:Vtx) (ks:List Vtx):bX (.st [.int,.int]) (bk v) (ks.map bk)=some (if v ∈ ks then some (ks.idxOf v) else none):=lf _ bk zf v ks
theorem jX (v:Vtx):f0 (.st [.int,.int]) (bk v)=true:=rfl
def hU (l:List Spx) (i:Nat) (v:Vtx):List Nat:=(List.range i).filter fun k=>decide (v ∈ l.getD k default)
def j8 (l:List Spx) (i j:Nat) (v:Vtx):List Nat:=hU l i v ++ if v ∈ (l.getD i default).take j then [i] else []
theorem uP {l:List Spx} {i:Nat} {v:Vtx}:hU l (i + 1) v=j8 l i (l.getD i default).length v:=by
 unfold hU j8
 rw [List.range_succ,List.filter_append,List.take_length]
 congr 1
 by_cases h:v ∈ l.getD i default
 ·rw [if_pos h]; simp only [List.filter,h,decide_true]
 ·rw [if_neg h]; simp only [List.filter,h,decide_false]
theorem vE {l:List Spx} {i:Nat} {v:Vtx}:j8 l i 0 v=hU l i v:=by unfold j8; simp
theorem v5 {l:List Spx} {i j:Nat} {v:Vtx} (hj:j < (l.getD i default).length) (ha:b7 bB (l.getD i default)):j8 l i (j + 1) v=if v=(l.getD i default).getD j default then j8 l i j v ++ [i] else j8 l i j v:=by
 unfold j8
 generalize l.getD i default=s at *
 rw [bG hj]
 by_cases h:v=s.getD j default
 ·have hn:v ∉ s.take j:=fun hm=>by
    obtain ⟨k,hk,e⟩:=List.getElem_of_mem hm
    rw [List.length_take] at hk
    rw [List.getElem_take] at e
    have:=cT ha (i:=k) (j:=j) (by omega) hj
    rw [← h,← e] at this
    have e2:s.getD k default=s[k]:=by simp [List.getD,show k < s.length by omega]
    rw [e2] at this
    exact jM.ord.irr _ this
  rw [if_pos h,if_neg hn,if_pos (by rw [List.mem_append,h]; simp)]
  simp
 ·rw [if_neg h]
  congr 1
  have e:v ∈ s.take j ++ [s.getD j default] ↔ v ∈ s.take j:=by rw [List.mem_append,List.mem_singleton]; exact ⟨fun h'=>h'.resolve_right h,.inl⟩
  by_cases h2:v ∈ s.take j
  ·rw [if_pos (e.2 h2),if_pos h2]
  ·rw [if_neg (fun h=>h2 (e.1 h)),if_neg h2]
def vo (i:Nat):AV:=.int .i64 (i:Int)
structure IncOk (H:Hp) (b lo hi:Nat) (F:Vtx→List Nat) (ks:List Vtx) (vs:List AV):Prop where
 box:H b=some [.omap (ks.map bk) vs]
 len:vs.length=ks.length
 nodup:ks.Nodup
 dom:∀ v,v ∈ ks ↔ F v ≠ []
 row:∀ j,j < ks.length→Row H 1 (vs.getD j .undef) ((F (ks.getD j default)).map vo)
 bnd:∀ j B,j < ks.length→di (vs.getD j .undef)=some B→lo ≤ B∧B < hi∧B ≠ b
 apart:∀ i j B,i < ks.length→j < ks.length→i ≠ j→di (vs.getD i .undef)=some B→di (vs.getD j .undef) ≠ some B
 lt:b < hi
theorem pB {l:List AV} {i j:Nat} {x:AV} (h:i < l.length):(l.set i x).getD j .undef=if i=j then x else l.getD j .undef:=by
 simp only [List.getD,List.getElem?_set]
 split
 ·rename_i e; subst e; simp [h]
 ·rfl
theorem qV {α:Type} {l m:List α} {j:Nat} {d:α} (h:j < l.length):(l ++ m).getD j d=l.getD j d:=by
 simp [List.getD,List.getElem?_append_left h]
theorem pk {α:Type} {l:List α} {x d:α}:(l ++ [x]).getD l.length d=x:=by simp [List.getD]
theorem jc {l:List Vtx} {v:Vtx} (h:v ∈ l):l.idxOf v < l.length∧l.getD (l.idxOf v) default=v:=by
 have h1:=List.idxOf_lt_length_iff.2 h
 exact ⟨h1,by simp [List.getD,h1]⟩
theorem vJ {l:List Vtx} (h:l.Nodup) {i j:Nat} (hi:i < l.length) (hj:j < l.length) (e:l.getD i default=l.getD j default):i=j:=by
 have hp:=List.pairwise_iff_getElem.1 (List.nodup_iff_pairwise_ne.1 h)
 rw [show l.getD i default=l[i] by simp [List.getD,hi],show l.getD j default=l[j] by simp [List.getD,hj]] at e
 rcases Nat.lt_trichotomy i j with c | c | c
 ·exact absurd e (hp i j hi hj c)
 ·exact c
 ·exact absurd e.symm (hp j i hj hi c)
theorem IncOk.same {H H':Hp} {b lo hi hi':Nat} {F:Vtx→List Nat} {ks:List Vtx} {vs:List AV} (h:IncOk H b lo hi F ks vs) (hb:H' b=H b) (hs:∀ x,lo ≤ x→x < hi→x ≠ b→H' x=H x) (hh:hi ≤ hi'):IncOk H' b lo hi' F ks vs :=
 ⟨hb.trans h.box,h.len,h.nodup,h.dom,fun j hj=>(h.row j hj).same fun B hB=>by have:=h.bnd j B hj hB; exact hs B this.1 this.2.1 this.2.2,fun j B hj hB=>by have:=h.bnd j B hj hB; exact ⟨this.1,by omega,this.2.2⟩,h.apart,by have:=h.lt; omega⟩
theorem IncOk.put {H H':Hp} {b lo hi hi' i:Nat} {F G:Vtx→List Nat} {ks:List Vtx} {vs:List AV} {w:Vtx} {sv:AV} (h:IncOk H b lo hi F ks vs) (hw:w ∈ ks) (hG:∀ v,G v=if v=w then F v ++ [i] else F v) (hrow:Row H' 1 sv ((F w ++ [i]).map vo)) (hB:∀ B,di sv=some B→di (vs.getD (ks.idxOf w) .undef)=some B ∨ hi ≤ B∧B < hi'∧B ≠ b) (hb:H' b=some [.omap (ks.map bk) (vs.set (ks.idxOf w) sv)])
    (hs:∀ x,lo ≤ x→x < hi→x ≠ b→di (vs.getD (ks.idxOf w) .undef) ≠ some x→H' x=H x) (hh:hi ≤ hi') (hlo:lo ≤ hi):IncOk H' b lo hi' G ks (vs.set (ks.idxOf w) sv):=by
 obtain ⟨k1,k2⟩:=jc hw
 have hl:=h.len
 have hg:∀ j,(vs.set (ks.idxOf w) sv).getD j .undef=if ks.idxOf w=j then sv else vs.getD j .undef:=fun j=>pB (by omega)
 have hne:∀ j,j < ks.length→ks.idxOf w ≠ j→ks.getD j default ≠ w:=fun j hj hn e=>hn (vJ h.nodup k1 hj (by rw [k2,e]))
 refine ⟨hb,by simp [hl],h.nodup,fun v=>?_,fun j hj=>?_,fun j B hj=>?_,fun p q B hp hq hpq=>?_,by have:=h.lt; omega⟩
 ·rw [hG,h.dom]
  by_cases e:v=w
  ·subst e
   rw [if_pos rfl]
   exact ⟨fun _=>by simp,fun _=>(h.dom v).1 hw⟩
  ·rw [if_neg e]
 ·rw [hg,hG]
  by_cases e:ks.idxOf w=j
  ·rw [if_pos e,if_pos (by rw [← e]; exact k2),← e,k2]; exact hrow
  ·rw [if_neg e,if_neg (hne j hj e)]
   exact (h.row j hj).same fun B hB'=>by
    have:=h.bnd j B hj hB'
    exact hs B this.1 this.2.1 this.2.2 fun h'=>h.apart (ks.idxOf w) j B k1 hj e h' hB'
 ·rw [hg]
  by_cases e:ks.idxOf w=j
  ·rw [if_pos e]
   intro hB'
   rcases hB B hB' with h' | h'
   ·have:=h.bnd _ B k1 h'; exact ⟨this.1,by omega,this.2.2⟩
   ·exact ⟨by omega,h'.2⟩
  ·rw [if_neg e]
   intro hB'
   have:=h.bnd j B hj hB'
   exact ⟨this.1,by omega,this.2.2⟩
 ·rw [hg,hg]
  by_cases e1:ks.idxOf w=p
  ·rw [if_pos e1,if_neg (by omega)]
   intro h1 h2
   rcases hB B h1 with h' | h'
   ·exact h.apart (ks.idxOf w) q B k1 hq (by omega) h' h2
   ·have:=h.bnd q B hq h2; omega
  ·rw [if_neg e1]
   by_cases e2:ks.idxOf w=q
   ·rw [if_pos e2]
    intro h1 h2
    rcases hB B h2 with h' | h'
    ·exact h.apart p (ks.idxOf w) B hp k1 (by omega) h1 h'
    ·have:=h.bnd p B hp h1; omega
   ·rw [if_neg e2]; exact h.apart p q B hp hq hpq
theorem IncOk.new {H H':Hp} {b lo hi hi' i:Nat} {F G:Vtx→List Nat} {ks:List Vtx} {vs:List AV} {w:Vtx} {sv:AV} (h:IncOk H b lo hi F ks vs) (hw:w ∉ ks) (hG:∀ v,G v=if v=w then F v ++ [i] else F v) (hrow:Row H' 1 sv ([i].map vo)) (hB:∀ B,di sv=some B→hi ≤ B∧B < hi'∧B ≠ b) (hb:H' b=some [.omap ((ks ++ [w]).map bk) (vs ++ [sv])])
    (hs:∀ x,lo ≤ x→x < hi→x ≠ b→H' x=H x) (hh:hi ≤ hi') (hlo:lo ≤ hi):IncOk H' b lo hi' G (ks ++ [w]) (vs ++ [sv]):=by
 have hl:=h.len
 have hF:F w=[]:=by
  cases hf:F w with
  | nil=>rfl
  | cons a r=>exact absurd ((h.dom w).2 (by rw [hf]; simp)) hw
 have g1:∀ j,j < ks.length→(ks ++ [w]).getD j default=ks.getD j default∧(vs ++ [sv]).getD j .undef=vs.getD j .undef:=fun j hj=>⟨qV hj,qV (by omega)⟩
 have g2:(ks ++ [w]).getD ks.length default=w∧(vs ++ [sv]).getD ks.length .undef=sv:=⟨pk,by rw [← hl]; exact pk⟩
 refine ⟨hb,by simp [hl],?_,fun v=>?_,fun j hj=>?_,fun j B hj=>?_,fun p q B hp hq hpq=>?_,by have:=h.lt; omega⟩
 ·rw [List.nodup_append]
  exact ⟨h.nodup,by simp,fun a ha c hc e=>by rw [List.mem_singleton] at hc; exact hw (by rw [← hc,← e]; exact ha)⟩
 ·rw [hG,List.mem_append,List.mem_singleton]
  by_cases e:v=w
  ·subst e; rw [if_pos rfl]; simp
  ·rw [if_neg e,← h.dom]; simp [e]
 ·rw [List.length_append,List.length_singleton] at hj
  by_cases e:j=ks.length
  ·subst e
   rw [g2.1,g2.2,hG,if_pos rfl,hF]; exact hrow
  ·obtain ⟨e1,e2⟩:=g1 j (by omega)
   have hne:ks.getD j default ≠ w:=fun e'=>hw (e' ▸ bc (by omega))
   rw [e1,e2,hG,if_neg hne]
   exact (h.row j (by omega)).same fun B hB'=>by have:=h.bnd j B (by omega) hB'; exact hs B this.1 this.2.1 this.2.2
 ·rw [List.length_append,List.length_singleton] at hj
  by_cases e:j=ks.length
  ·subst e
   rw [g2.2]; intro hB'
   have:=hB B hB'; exact ⟨by omega,this.2⟩
  ·rw [(g1 j (by omega)).2]; intro hB'
   have:=h.bnd j B (by omega) hB'; exact ⟨this.1,by omega,this.2.2⟩
 ·rw [List.length_append,List.length_singleton] at hp hq
  by_cases e1:p=ks.length
  ·subst e1
   rw [g2.2,(g1 q (by omega)).2]
   intro h1 h2
   have:=hB B h1
   have:=h.bnd q B (by omega) h2
   omega
  ·rw [(g1 p (by omega)).2]
   by_cases e2:q=ks.length
   ·subst e2
    rw [g2.2]
    intro h1 h2
    have:=hB B h2
    have:=h.bnd p B (by omega) h1
    omega
   ·rw [(g1 q (by omega)).2]; exact h.apart p q B (by omega) (by omega) hpq
end Go.Proofs.YtbgdcebmgjafjaaGreat
namespace Go.Proofs.YtbgdcebmgjafjaaGreat
open Go Go.Abs
theorem ec {H:Hp} {d:Nat} {x:AV}:cU 1 (ak H d [x]) (.msl d 1 1 0 1)=some (1,[x]):=iP (n:=1) (len:=1) (off:=0) (cs:=[x]) ah rfl (by simp)
theorem qE {l:List Spx} {i:Nat} {v:Vtx}:(hU l i v).length ≤ i:=by
 unfold hU
 have:=List.length_filter_le (fun k=>decide (v ∈ l.getD k default)) (List.range i)
 rwa [List.length_range] at this
theorem xy {l:List Spx} {i j:Nat} {v:Vtx}:(j8 l i j v).length ≤ i + 1:=by
 unfold j8
 have:=qE (l:=l) (i:=i) (v:=v)
 rw [List.length_append]
 split <;> simp <;> omega
attribute [local irreducible] aG al a9 aW aN aP aC aQ aZ bt Go.Abs.Fn aV Go.Abs.Pure ax aL Yl
set_option maxHeartbeats 2000000 in
theorem ma (l:List Spx) (hl:l.length ≤ 100000) (hs:∀ s ∈ l,b7 bB s∧s.length ≤ 1000000) (H:Hp) (nx:Nat):Abs.Fn Tryz.prog 69 [aE l] H nx fun r H' nx'=>∃ ks vs,r=.mp nx∧IncOk H' nx nx nx' (hU l l.length) ks vs∧(∀ x,x < nx→H' x=H x)∧nx < nx':=by
 refine Abs.Fn.of_c2 follows Cn (Nat.le_of_ble_eq_true rfl) ?_
 simp only [b69,cO,cG,cN,cM,cD,cF,cB,au,aK]
 refine eL ?_
 (have zz:=and_self; repeat' (first|apply a_n|refine zO ?_|refine vZ ?_|fail)) <;> (try clear zz)
 refine eL ?_
 (have zz:=and_self; repeat' (first|apply a_n|refine zO ?_|fail)) <;> (try clear zz)
 refine wy ?_
 (have zz:=@aB; repeat' (first|refine zW ?_|apply a_n|refine zO ?_|refine vY ?_|fail)) <;> (try clear zz)
 refine aR (X:=Nat × List Vtx × List AV) (fun x=>[(3,.mp nx),(9,aE l),(10,.int .i64 l.length),(11,.int .i64 x.1)]) (fun x H' nx'=>x.1 ≤ l.length∧IncOk H' nx nx nx' (hU l x.1) x.2.1 x.2.2∧(∀ y,y < nx→H' y=H y)∧nx < nx') (fun x=>l.length - x.1) (0,[],[]) ⟨Nat.zero_le _,⟨ah,rfl,List.nodup_nil,fun v=>by simp [hU],fun j h=>absurd h (by simp),fun j B h=>absurd h (by simp),fun i j B h=>absurd h (by simp),by omega⟩,fun y hy=>ag (by omega),by omega⟩ ag0 ?_
 rintro ⟨i,ks,vs⟩ H1 nx1 ⟨h1,h2,h3,h4⟩
 dsimp only at h1 h2 ⊢
 by_cases hi:i < l.length
 rotate_left
 ·obtain rfl:i=l.length:=by omega
  (have zz:=and_self; repeat' (first|refine zW ?_|apply a_n|apply a_x|refine zO ?_|refine vY ?_|(refine zGY ?_ ?_ <;> (intro _hg; try (exfalso; omega)))|refine ai rfl ?_|refine r1Y ?_|fail)) <;> (try clear zz)
  exact ⟨ks,vs,rfl,h2,h3,h4⟩
 have ix:=gS hi
 obtain ⟨hsa,hsl⟩:=hs _ (bc hi)
 have hstep:=fun j v hj=>v5 (l:=l) (i:=i) (j:=j) (v:=v) hj hsa
 have hend:=fun v=>uP (l:=l) (i:=i) (v:=v)
 have hlen:=fun j v=>xy (l:=l) (i:=i) (j:=j) (v:=v)
 have h20:IncOk H1 nx nx nx1 (j8 l i 0) ks vs:=by rw [show j8 l i 0=hU l i from funext fun v=>vE]; exact h2
 have hend':hU l (i + 1)=j8 l i (l.getD i default).length:=funext hend
 clear h2
 generalize l.getD i default=s at *
 (have zz:=aI @ix @aw; repeat' (first|refine zW ?_|apply a_n|refine zO ?_|refine vY ?_|(refine zGY ?_ ?_ <;> (intro _hg; try (exfalso; omega)))|fail)) <;> (try clear zz)
 refine aR (X:=Nat × List Vtx × List AV) (fun x=>[(3,.mp nx),(9,aE l),(10,.int .i64 l.length),(11,.int .i64 i),(4,.int .i64 i),(5,av s),(16,av s),(17,.int .i64 s.length),(18,.int .i64 x.1)]) (fun x H' nx'=>x.1 ≤ s.length∧IncOk H' nx nx nx' (j8 l i x.1) x.2.1 x.2.2∧(∀ y,y < nx→H' y=H y)∧nx < nx') (fun x=>s.length - x.1) (0,ks,vs) ⟨Nat.zero_le _,h20,h3,h4⟩ ag0 ?_
 clear h20 h3 h4
 rintro ⟨j,ks,vs⟩ H2 nx2 ⟨k1,k2,k3,k4⟩
 dsimp only at k1 k2 ⊢
 by_cases hj:j < s.length
 rotate_left
 ·obtain rfl:j=s.length:=by omega
  (have zz:=and_self; repeat' (first|refine zW ?_|apply a_n|apply a_x|refine zO ?_|refine vY ?_|(refine zGY ?_ ?_ <;> (intro _hg; try (exfalso; omega)))|fail)) <;> (try clear zz)
  exact ⟨(i + 1,ks,vs),by dsimp only; omega,⟨by dsimp only; omega,by dsimp only; rw [hend']; exact k2,k3,k4⟩,ag0⟩
 have iy:=ix2 hj
 have hG:=fun v=>hstep j v hj
 have hcl:=hlen j (s.getD j default)
 generalize s.getD j default=w at *
 (have zz:=@iy; repeat' (first|refine zW ?_|apply a_n|refine zO ?_|refine vY ?_|refine alY ?_|refine stY ?_|refine blY ?_|(refine zGY ?_ ?_ <;> (intro _hg; try (exfalso; omega)))|fail)) <;> (try clear zz)
 have g3:∀ x,x < nx2→ak (ak (ak H2 nx2 [.int .i64 0,.int .i64 0]) nx2 (bf [.int .i64 0,.int .i64 0] 0 [.int .i64 w.color,.int .i64 w.label])) (nx2 + 1) [.int .i64 i] x=H2 x:=fun x hx=>by rw [ag (by omega),ag (by omega),ag (by omega)]
 have g4:ak (ak (ak H2 nx2 [.int .i64 0,.int .i64 0]) nx2 (bf [.int .i64 0,.int .i64 0] 0 [.int .i64 w.color,.int .i64 w.label])) (nx2 + 1) [.int .i64 i] (nx2 + 1)=some [.int .i64 i]:=ah
 generalize ak (ak (ak H2 nx2 [.int .i64 0,.int .i64 0]) nx2 (bf [.int .i64 0,.int .i64 0] 0 [.int .i64 w.color,.int .i64 w.label])) (nx2 + 1) [.int .i64 i]=H3 at *
 have hmf:=kL w ks
 have hkl:(ks.map bk).length=ks.length:=List.length_map ..
 by_cases hw:w ∈ ks
 ·rw [if_pos hw] at hmf
  obtain ⟨m1,m2⟩:=jc hw
  have hr:=k2.row (ks.idxOf w) m1
  rw [m2] at hr
  refine xl ev0 ((g3 nx (by omega)).trans k2.box) ev0 (jX w) hmf ?_
  have g5:∀ x,x < nx2→x ≠ nx→ak H3 nx [.omap (bI (bk w) (some (ks.idxOf w)) (ks.map bk)) (ip .esl (some (ks.idxOf w)) vs)] x=H2 x:=fun x hx hn=>by rw [ag hn,g3 x hx]
  have g6:ak H3 nx [.omap (bI (bk w) (some (ks.idxOf w)) (ks.map bk)) (ip .esl (some (ks.idxOf w)) vs)] nx=some [.omap (ks.map bk) vs]:=ah
  have g7:ak H3 nx [.omap (bI (bk w) (some (ks.idxOf w)) (ks.map bk)) (ip .esl (some (ks.idxOf w)) vs)] (nx2 + 1)=some [.int .i64 i]:=by rw [ag (by omega)]; exact g4
  generalize ak H3 nx [.omap (bI (bk w) (some (ks.idxOf w)) (ks.map bk)) (ip .esl (some (ks.idxOf w)) vs)]=H4 at *
  rw [show sF .esl (some (ks.idxOf w)) vs=vs.getD (ks.idxOf w) .undef from rfl,show rb (some (ks.idxOf w)) (ks.map bk)=ks.idxOf w from rfl]
  (have zz:=and_self; repeat' (first|apply a_n|refine zO ?_|refine vY ?_|fail)) <;> (try clear zz)
  refine jk (k:=1) (new:=[.int .i64 i]) rfl ev0 (hr.same fun B hB=>?_) ev0 (iP (n:=1) (len:=1) (off:=0) g7 rfl (by omega)) rfl rfl Nat.one_pos (by rw [List.length_map]; omega) (by rw [List.length_map]; omega) ?_
  ·have:=k2.bnd _ B m1 hB
   exact g5 B this.2.1 this.2.2
  rintro s2 H5 nx5 hr5 i1 i2 i3 i4
  (have zz:=and_self; repeat' (first|apply a_n|refine zO ?_|refine vY ?_|fail)) <;> (try clear zz)
  refine wu ev0 ((i3 nx (by omega) (fun h=>(k2.bnd _ nx m1 h).2.2 rfl)).trans g6) ev0 (by rw [hkl]; exact m1) ev0 ?_
  (have zz:=and_self; repeat' (first|apply a_n|refine zO ?_|refine vY ?_|fail)) <;> (try clear zz)
  refine ⟨(j + 1,ks,vs.set (ks.idxOf w) s2),by dsimp only; omega,⟨by dsimp only; omega,IncOk.put k2 hw hG ?_ (fun B hB=>?_) ah (fun x hx hx2 hxn hxr=>?_) (by omega) (by omega),fun y hy=>?_,by omega⟩,ag0⟩
  ·rw [List.map_append]
   exact hr5.same fun B hB=>ag fun e=>by
    rcases i4 B hB with h | h
    ·exact (k2.bnd _ B m1 h).2.2 e
    ·omega
  ·rcases i4 B hB with h | h
   ·exact .inl h
   ·exact .inr (by omega)
  ·rw [ag hxn,i3 x (by omega) hxr,g5 x hx2 hxn]
  ·rw [ag (by omega),i3 y (by omega) (fun h=>by have:=k2.bnd _ y m1 h; omega),g5 y (by omega) (by omega)]; exact k3 y hy
 ·rw [if_neg hw] at hmf
  refine xl ev0 ((g3 nx (by omega)).trans k2.box) ev0 (jX w) hmf ?_
  have g5:∀ x,x < nx2→x ≠ nx→ak H3 nx [.omap (bI (bk w) none (ks.map bk)) (ip .esl none vs)] x=H2 x:=fun x hx hn=>by rw [ag hn,g3 x hx]
  have g6:ak H3 nx [.omap (bI (bk w) none (ks.map bk)) (ip .esl none vs)] nx=some [.omap (ks.map bk ++ [bk w]) (vs ++ [.esl])]:=ah
  have g7:ak H3 nx [.omap (bI (bk w) none (ks.map bk)) (ip .esl none vs)] (nx2 + 1)=some [.int .i64 i]:=by rw [ag (by omega)]; exact g4
  generalize ak H3 nx [.omap (bI (bk w) none (ks.map bk)) (ip .esl none vs)]=H4 at *
  rw [show sF .esl none vs=.esl from rfl,show rb none (ks.map bk)=ks.length from hkl]
  (have zz:=and_self; repeat' (first|apply a_n|refine zO ?_|refine vY ?_|fail)) <;> (try clear zz)
  refine jk (k:=1) (new:=[.int .i64 i]) (cs:=[]) rfl ev0 Row.nil ev0 (iP (n:=1) (len:=1) (off:=0) g7 rfl (by omega)) rfl rfl Nat.one_pos (by simp) (by simp) ?_
  rintro s2 H5 nx5 hr5 i1 i2 i3 i4
  have i4':∀ B,di s2=some B→B=nx2 + 1 + 1∧nx5=nx2 + 1 + 1 + 1:=fun B hB=>(i4 B hB).elim (fun h=>by cases h) id
  (have zz:=and_self; repeat' (first|apply a_n|refine zO ?_|refine vY ?_|fail)) <;> (try clear zz)
  refine wu (i:=ks.length) ev0 ((i3 nx (by omega) (fun h=>by cases h)).trans g6) ev0 (by rw [List.length_append,hkl]; simp) ev0 ?_
  have hset:(vs ++ [AV.esl]).set ks.length s2=vs ++ [s2]:=by rw [← k2.len]; simp
  rw [hset]
  (have zz:=and_self; repeat' (first|apply a_n|refine zO ?_|refine vY ?_|fail)) <;> (try clear zz)
  refine ⟨(j + 1,ks ++ [w],vs ++ [s2]),by dsimp only; omega,⟨by dsimp only; omega,IncOk.new k2 hw hG ?_ (fun B hB=>?_) (by rw [List.map_append]; exact ah) (fun x hx hx2 hxn=>?_) (by omega) (by omega),fun y hy=>?_,by omega⟩,ag0⟩
  ·exact hr5.same fun B hB=>ag (by have:=i4' B hB; omega)
  ·have:=i4' B hB; omega
  ·rw [ag hxn,i3 x (by omega) (fun h=>by cases h),g5 x hx2 hxn]
  ·rw [ag (by omega),i3 y (by omega) (fun h=>by cases h),g5 y (by omega) (by omega)]; exact k3 y hy
end Go.Proofs.YtbgdcebmgjafjaaGreat
namespace Go.Proofs.YtbgdcebmgjafjaaGreat
open Go Go.Abs
def bx (l:List Spx) (s:Spx):Bool:=l.any fun t=>decide (s.length < t.length) && cz s t
def m9 (c:List Spx) (k:Nat):Int:=if b0 (c.getD k default) ≠ 0 then b0 (c.getD k default) else if 0 < k∧0 ≤ bA (c.getD (k - 1) default) (c.getD k default) then 14 else 0
def aO (c:List Spx):Int:=if 4096 < c.length then 5 else if cE (m9 c) c.length ≠ 0 then cE (m9 c) c.length else if c.any (bx c)=true then 7 else 0
theorem eM {a b:Spx}:cz a b=true ↔ ∀ v ∈ a,v ∈ b:=by
 unfold cz; rw [List.all_eq_true]
 exact ⟨fun h v hv=>of_decide_eq_true (h v hv),fun h v hv=>decide_eq_true (h v hv)⟩
theorem bE {l:List Spx} {s:Spx}:bx l s=true ↔ ∃ t ∈ l,s.length < t.length∧∀ v ∈ s,v ∈ t:=by
 unfold bx; rw [List.any_eq_true]
 constructor
 ·rintro ⟨t,ht,h⟩
  rw [Bool.and_eq_true,decide_eq_true_iff,eM] at h
  exact ⟨t,ht,h⟩
 ·rintro ⟨t,ht,h⟩
  exact ⟨t,ht,by rw [Bool.and_eq_true,decide_eq_true_iff,eM]; exact h⟩
theorem wg {a b:Spx} (ha:b7 bB a) (hb:b7 bB b) (h:∀ v ∈ a,v ∈ b) (hne:a ≠ b):a.length < b.length:=by
 have h1:a.length ≤ b.length:=List.Nodup.length_le_of_subset (ha.nodup jM) h
 rcases Nat.lt_or_ge a.length b.length with h2 | h2
 ·exact h2
 ·exfalso
  refine hne (gC jM ha hb fun x=>⟨h x,fun hx=>Decidable.byContradiction fun hn=>?_⟩)
  have h3:(x :: a).length ≤ b.length:=List.Nodup.length_le_of_subset (List.nodup_cons.2 ⟨hn,ha.nodup jM⟩) fun y hy=>by
   rcases List.mem_cons.1 hy with rfl | hy
   ·exact hx
   ·exact h y hy
  rw [List.length_cons] at h3
  omega
theorem xK {c:List Spx} (h:cE (m9 c) c.length=0):(∀ s ∈ c,b0 s=0)∧b7 bA c:=by
 have hz:=fA h
 have h3:∀ k,k < c.length→b0 (c.getD k default)=0∧(0 < k→bA (c.getD (k - 1) default) (c.getD k default) < 0):=fun k hk=>by
  have:=hz k hk
  unfold m9 at this
  split at this
  ·exact absurd this ‹_›
  rename_i g1
  split at this
  ·exact absurd this (by decide)
  rename_i g2
  exact ⟨Decidable.of_not_not g1,fun h0=>by omega⟩
 constructor
 ·intro s hs
  obtain ⟨i,hi,rfl⟩:=List.getElem_of_mem hs
  have:=(h3 i hi).1
  rwa [show c.getD i default=c[i] by simp [List.getD,hi]] at this
 ·have step:∀ j i,i < j→j < c.length→bA (c.getD i default) (c.getD j default) < 0:=by
    intro j
    induction j with
    | zero=>intro i h; omega
    | succ j ih =>
     intro i hi hj
     have hs:=(h3 (j + 1) hj).2 (by omega)
     rw [Nat.add_sub_cancel] at hs
     by_cases e:i=j
     ·subst e; exact hs
     ·exact mq.trans (ih i (by omega) (by omega)) hs
  unfold b7
  rw [List.pairwise_iff_getElem]
  intro i j hi hj hij
  have:=step j i hij hj
  simpa [List.getD,hi,hj] using this
theorem cr {c:List Spx} (h:aO c=0):c.length ≤ 4096∧(∀ s ∈ c,b0 s=0)∧b7 bA c∧∀ s ∈ c,bx c s=false:=by
 unfold aO at h
 split at h
 ·exact absurd h (by decide)
 split at h
 ·exact absurd h ‹_›
 split at h
 ·exact absurd h (by decide)
 rename_i h1 h2 h3
 have:=xK (Decidable.of_not_not h2)
 refine ⟨by omega,this.1,this.2,fun s hs=>?_⟩
 cases hc:bx c s
 ·rfl
 ·exact absurd (List.any_eq_true.2 ⟨s,hs,hc⟩) h3
theorem rE {c:List Spx} (h1:c.length ≤ 4096) (h2:∀ s ∈ c,b0 s=0) (h3:b7 bA c) (h4:∀ s ∈ c,bx c s=false):aO c=0:=by
 have hz:cE (m9 c) c.length=0:=cP fun k hk=>by
  unfold m9
  rw [h2 _ (bc hk),if_neg (by simp),if_neg]
  rintro ⟨h0,h5⟩
  have:=cT h3 (i:=k - 1) (j:=k) (by omega) hk
  omega
 unfold aO
 rw [if_neg (by omega),hz,if_neg (by simp),if_neg]
 rw [List.any_eq_true]
 rintro ⟨s,hs,h⟩
 rw [h4 s hs] at h; cases h
theorem yi {l:List Spx} {s:Spx} {p:Spx→Bool} (h0:0 < s.length) (hp:∀ t,p t=true→s.getD 0 default ∈ t):((hU l l.length (s.getD 0 default)).map fun (n:Nat)=>(n:Int)).any (fun i=>p (l.getD i.toNat default))=l.any p:=by
 rw [Bool.eq_iff_iff,List.any_eq_true,List.any_eq_true]
 constructor
 ·rintro ⟨x,hx,h⟩
  obtain ⟨n,hn,rfl⟩:=List.mem_map.1 hx
  unfold hU at hn
  obtain ⟨h1,_⟩:=List.mem_filter.1 hn
  rw [Int.toNat_natCast] at h
  exact ⟨_,bc (List.mem_range.1 h1),h⟩
 ·rintro ⟨t,ht,h⟩
  obtain ⟨i,hi,rfl⟩:=List.getElem_of_mem ht
  have e:l.getD i default=l[i]:=by simp [List.getD,hi]
  refine ⟨(i:Int),List.mem_map.2 ⟨i,List.mem_filter.2 ⟨List.mem_range.2 hi,decide_eq_true ?_⟩,rfl⟩,?_⟩
  ·rw [e]; exact hp _ h
  ·rw [Int.toNat_natCast,e]; exact h
attribute [local irreducible] aG al a9 aW aN aP aC aQ aZ bt Go.Abs.Fn aV Go.Abs.Pure ax aL Yl
theorem vI (l:List Int) (p:Int→Bool) (g:Nat) (caps:List AV) (hd:∀ x ∈ caps,Dat x) (hg:∀ x ∈ l,Pure Tryz.prog g (.int .i64 x :: caps) (.bool (p x))) (hl:Shn l):Pure Tryz.prog 127 [bJ l,.func g caps] (.int .i64 (if l.any p then (l.findIdx p:Nat) else -1)):=by
 refine Pure.of_c2 follows yJ (Nat.le_of_ble_eq_true rfl) ?_
 simp only [zY,cO,cG,cN,cM,cD,cF,cB,au,aK]
 have hl':l.length ≤ 17592186044416:=hl
 (have zz:=and_self; repeat' (first|refine zW ?_|apply a_n|refine zO ?_|refine vZ ?_|fail)) <;> (try clear zz)
 refine aR (X:=Nat) (fun k=>[(0,bJ l),(1,.func g caps),(6,bJ l),(7,.int .i64 l.length),(8,.int .i64 k)]) (fun k H nx=>k ≤ l.length∧∀ i,i < k→p (l.getD i default)=false) (fun k=>l.length - k) 0 ⟨Nat.zero_le _,fun i h=>absurd h (by omega)⟩ ag0 ?_
 rintro k H nx ⟨hk,hz⟩
 by_cases hk2:k < l.length
 rotate_left
 ·rw [gD fun i hi=>hz i (by omega),if_neg (by decide)]
  (have zz:=and_self; repeat' (first|refine zW ?_|apply a_n|apply a_x|refine zO ?_|refine vY ?_|(refine zGY ?_ ?_ <;> (intro _hg; try (exfalso; omega)))|refine ai rfl ?_|refine r1Y ?_|fail)) <;> (try clear zz)
  exact cp rfl
 have hc:=hg _ (aq hk2)
 cases hp:p (l.getD k default)
 ·rw [hp] at hc
  (have zz:=and_self; repeat' (first|refine zW ?_|apply a_n|refine zO ?_|refine vY ?_|(refine zGY ?_ ?_ <;> (intro _hg; try (exfalso; omega)))|fail)) <;> (try clear zz)
  refine ci ev0 ev0 hc (ae (an (.int _ _) (ap hd))) ?_
  (have zz:=and_self; repeat' (first|apply a_n|refine zO ?_|refine vY ?_|refine cFY ?_|fail)) <;> (try clear zz)
  exact ⟨k + 1,by omega,⟨by omega,fun i hi=>by
   rcases Nat.lt_succ_iff_lt_or_eq.1 hi with h | rfl
   ·exact hz i h
   ·exact hp⟩,ag0⟩
 ·rw [hp] at hc
  obtain ⟨e1,e2⟩:=fI hk2 hz hp
  rw [e1,e2,if_pos rfl]
  (have zz:=and_self; repeat' (first|refine zW ?_|apply a_n|refine zO ?_|refine vY ?_|(refine zGY ?_ ?_ <;> (intro _hg; try (exfalso; omega)))|fail)) <;> (try clear zz)
  refine ci ev0 ev0 hc (ae (an (.int _ _) (ap hd))) ?_
  (have zz:=and_self; repeat' (first|refine zW ?_|apply a_n|apply a_r|refine zO ?_|refine vY ?_|refine cTY ?_|refine ai rfl ?_|refine r1Y ?_|fail)) <;> (try clear zz)
  exact .int _ _
theorem qy (l:List Int) (p:Int→Bool) (g:Nat) (caps:List AV) (hd:∀ x ∈ caps,Dat x) (hg:∀ x ∈ l,Pure Tryz.prog g (.int .i64 x :: caps) (.bool (p x))) (hl:Shn l):Pure Tryz.prog 103 [bJ l,.func g caps] (.bool (l.any p)):=by
 refine Pure.of_c2 follows yM (Nat.le_of_ble_eq_true rfl) ?_
 simp only [zE,cO,cG,cN,cM,cD,cF,cB,au,aK]
 have h:=vI l p g caps hd hg hl
 (have zz:=and_self; repeat' (first|refine zW ?_|apply a_n|refine zO ?_|refine vZ ?_|refine cZ ?_ (hp:=h) (hs:=by (first | refine ac ?_ rfl | apply ae); (repeat' (first | exact aa | apply aj | apply af | exact eR _ | exact Dat.func hd)); first | done | fail)|refine ai rfl ?_|refine r1Z ?_|fail)) <;> (try clear zz)
 cases hA:l.any p
 ·exact br (by simp)
 ·exact br (by simp)
def OkS (l:List Spx):Prop:=l.length ≤ 100000∧∀ s ∈ l,b7 bB s∧s.length ≤ 1000
theorem tx (l:List Spx) (s:Spx) (i:Nat) (hl:OkS l) (hs:b7 bB s∧s.length ≤ 1000) (hi:i < l.length):Pure Tryz.prog 104 [.int .i64 i,.iptr [aE l] 0,.iptr [av s] 0] (.bool (decide (s.length < (l.getD i default).length) && cz s (l.getD i default))):=by
 refine Pure.of_c2 follows yN (Nat.le_of_ble_eq_true rfl) ?_
 simp only [Ag,cO,cG,cN,cM,cD,cF,cB,au,aK]
 have ix:=gS hi
 obtain ⟨t1,t2⟩:=hl.2 _ (bc hi)
 have hf:=z6 s (l.getD i default) hs.1 t1 (by omega) (by omega)
 generalize l.getD i default=t at *
 by_cases h:s.length < t.length
 ·have z:decide ((s.length:Int) < t.length)=true:=decide_eq_true (by omega)
  rw [decide_eq_true h,Bool.true_and]
  (have zz:=aI @aw (aI @ix @z); repeat' (first|refine zW ?_|refine zM ?_|apply a_n|refine zO ?_|refine vZ ?_|refine cZ ?_ (hp:=hf) (hs:=by (first | refine ac ?_ rfl | apply ae); (repeat' (first | exact aa | apply aj | apply af | exact az _)); first | done | fail)|refine gTZ ?_|refine ai rfl ?_|refine r1Z ?_|fail)) <;> (try clear zz)
  exact .bool _
 ·have z:decide ((s.length:Int) < t.length)=false:=decide_eq_false (by omega)
  rw [decide_eq_false h,Bool.false_and]
  (have zz:=aI @aw (aI @ix @z); repeat' (first|refine zW ?_|refine zM ?_|apply a_n|refine zO ?_|refine vZ ?_|refine gFZ ?_|refine ai rfl ?_|refine r1Z ?_|fail)) <;> (try clear zz)
  exact .bool _
theorem pi (l:List Spx) (s:Spx) (hl:OkS l) (hs:b7 bB s∧s.length ≤ 1000) (h0:0 < s.length):Pure Tryz.prog 70 [aE l,bJ ((hU l l.length (s.getD 0 default)).map fun (n:Nat)=>(n:Int)),av s] (.bool (bx l s)):=by
 refine Pure.of_c2 follows CE (Nat.le_of_ble_eq_true rfl) ?_
 simp only [b70,cO,cG,cN,cM,cD,cF,cB,au,aK]
 have hll:=hl.1
 have h:=qy ((hU l l.length (s.getD 0 default)).map fun (n:Nat)=>(n:Int)) (fun i=>decide (s.length < (l.getD i.toNat default).length) && cz s (l.getD i.toNat default)) 104 [.iptr [aE l] 0,.iptr [av s] 0] (DatL.cons (Dat.iptr (DatL.cons (bh _) DatL.nil)) (DatL.cons (Dat.iptr (DatL.cons (az _) DatL.nil)) DatL.nil)) (fun x hx=>by
  obtain ⟨n,hn,rfl⟩:=List.mem_map.1 hx
  have hn2:n < l.length:=List.mem_range.1 (List.mem_filter.1 hn).1
  rw [Int.toNat_natCast]
  exact tx l s n hl hs hn2) (by rw [Shn,List.length_map]; have:=qE (l:=l) (i:=l.length) (v:=s.getD 0 default); omega)
 rw [yi (p:=fun t=>decide (s.length < t.length) && cz s t) h0 (fun t ht=>by
  rw [Bool.and_eq_true,eM] at ht
  exact ht.2 _ (bc h0))] at h
 (have zz:=aI @aD (aI @ar (aI @aF @ay)); repeat' (first|refine zW ?_|apply a_n|refine zO ?_|refine vZ ?_|refine bxZ ?_|fail)) <;> (try clear zz)
 refine ci (have zz:=aI @aD (aI @ar (aI @aF @ay)); evZ) (have zz:=aI @aD (aI @ar (aI @aF @ay)); evZ) h (ac (an (eR _ _) (an (i9 (an (gn rfl rfl (an (bh _ _) aa)) (an (gn rfl rfl (an (az _ _) aa)) aa))) aa)) rfl) ?_
 (have zz:=and_self; repeat' (first|apply a_n|refine zO ?_|refine vZ ?_|refine ai rfl ?_|refine r1Z ?_|fail)) <;> (try clear zz)
 exact .bool _
end Go.Proofs.YtbgdcebmgjafjaaGreat
namespace Go.Proofs.YtbgdcebmgjafjaaGreat
open Go Go.Abs
theorem rD {H:Hp} {sv:AV} {F:List Nat} (h:Row H 1 sv (F.map vo)):Snap H sv (bJ (F.map fun (n:Nat)=>(n:Int))):=by
 refine Row.snapI ?_
 rw [List.map_map]; exact h
theorem tL {c:List Spx} {k:Nat}:m9 c k=if b0 (c.getD k default) ≠ 0 then b0 (c.getD k default) else if 0 < k∧0 ≤ bA (c.getD (k - 1) default) (c.getD k default) then 14 else 0:=rfl
theorem zU {c:List Spx} (h1:c.length ≤ 4096) (h:∀ s ∈ c,b0 s=0):OkS c:=⟨by omega,fun s hs=>by
 obtain ⟨a1,a2,a3,a4⟩:=cm (h s hs)
 exact ⟨a3,by omega⟩⟩
theorem qF {H:Hp} {b:Nat} {cs:List AV} (h:H b=some cs):Sub (only b cs) H:=fun x c hx=>by
 unfold only at hx
 split at hx
 ·rename_i e; rw [e,h]; exact hx
 ·cases hx
def on2 (b1:Nat) (c1:List AV) (b2:Nat) (c2:List AV):Hp:=fun x=>if x=b1 then some c1 else if x=b2 then some c2 else none
theorem A6 {b1 b2:Nat} {c1 c2:List AV}:on2 b1 c1 b2 c2 b1=some c1:=if_pos rfl
theorem Bg {b1 b2:Nat} {c1 c2:List AV} (h:b2 ≠ b1):on2 b1 c1 b2 c2 b2=some c2:=by unfold on2; rw [if_neg h,if_pos rfl]
theorem ud {b1 b2:Nat} {c1 c2:List AV} {H:Hp} (h1:H b1=some c1) (h2:H b2=some c2):Sub (on2 b1 c1 b2 c2) H:=fun x cs h=>by
 unfold on2 at h
 split at h
 ·rename_i e; rw [e,h1]; exact h
 ·split at h
  ·rename_i e; rw [e,h2]; exact h
  ·cases h
theorem kQ {P:Program} {T:Tm} {H:Hp} {nx:Nat} (b1 b2:Nat) {c1 c2:List AV} {K:CP} {m:Nat} {l:List Op2} {C:List (Nat × Nat)} (h1:H b1=some c1) (h2:H b2=some c2) (hne:b2 ≠ b1) (k:∀ S:Hp,S b1=some c1→S b2=some c2→(∀ H':Hp,H' b1=some c1→H' b2=some c2→Sub S H')→bd P S (C.map fun k=>(l.getD k.1 ⟨none,none,.dead⟩,k.2)) T H nx fun T H nx=>K .normal T H nx):aG P (.mixS m l C) T H nx K :=
 wO (on2 b1 c1 b2 c2) rfl (ud h1 h2) (k _ A6 (Bg hne) fun _ a b=>ud a b)
theorem ny {P:Program} {T:Tm} {H:Hp} {nx:Nat} (b:Nat) {c:List AV} {K:CP} {m:Nat} {l:List Op2} {C:List (Nat × Nat)} (h:H b=some c) (k:∀ S:Hp,S b=some c→(∀ H':Hp,H' b=some c→Sub S H')→bd P S (C.map fun k=>(l.getD k.1 ⟨none,none,.dead⟩,k.2)) T H nx fun T H nx=>K .normal T H nx):aG P (.mixS m l C) T H nx K :=
 wO (only b c) rfl (qF h) (k _ kA fun _ h=>qF h)
attribute [local irreducible] aG al a9 aW aN aP aC aQ aZ bt Go.Abs.Fn aV Go.Abs.Pure ax aL Yl
set_option maxHeartbeats 2000000 in
theorem gz (c:List Spx) (hc:Shn c) (hs:∀ s ∈ c,Shn s):Pure Tryz.prog 29 [ez c] (.int .i64 (aO c)):=by
 refine Pure.of_c2 follows AU (Nat.le_of_ble_eq_true rfl) ?_
 simp only [b29,cO,cG,cN,cM,cD,cF,cB,au,aK]
 have hc':c.length ≤ 17592186044416:=hc
 by_cases h0:4096 < c.length
 ·rw [show aO c=5 by unfold aO; rw [if_pos h0]]
  (have zz:=aI @aB (aI @aD @ar); repeat' (first|refine zW ?_|apply a_n|apply a_r|refine zO ?_|refine vZ ?_|refine bxZ ?_|(refine zGZ ?_ ?_ <;> (intro _hg; try (exfalso; omega)))|refine ai rfl ?_|refine r1Z ?_|fail)) <;> (try clear zz)
  all_goals exact cp rfl
 rw [show aO c=if cE (m9 c) c.length ≠ 0 then cE (m9 c) c.length else if c.any (bx c)=true then 7 else 0 by unfold aO; rw [if_neg h0]]
 refine eL ?_
 (have zz:=aI @aB (aI @aD @ar); repeat' (first|apply a_n|refine zO ?_|refine vZ ?_|refine bxZ ?_|fail)) <;> (try clear zz)
 refine eL (eL ?_)
 (have zz:=aI @aB (aI @aD @ar); repeat' (first|apply a_n|refine zO ?_|refine vZ ?_|(refine zGZ ?_ ?_ <;> (intro _hg; try (exfalso; omega)))|fail)) <;> (try clear zz)
 by_cases hz:cE (m9 c) c.length ≠ 0
 ·rw [if_pos hz]
  (have zz:=aI @aB (aI @aD @ar); repeat' (first|refine zW ?_|apply a_n|refine zO ?_|refine vZ ?_|fail)) <;> (try clear zz)
  refine aR (X:=Nat) (fun k=>[(1,.ptr 0 1 0),(14,aE c),(15,.int .i64 c.length),(16,.int .i64 k)]) (fun k H nx=>k ≤ c.length∧H 0=some [aE c]∧∀ i,i < k→m9 c i=0) (fun k=>c.length - k) 0 ⟨Nat.zero_le _,rfl,fun i h=>absurd h (by omega)⟩ (by (iterate 4 refine And.intro rfl ?_); trivial) ?_
  rintro k H nx ⟨h1,g0,h2⟩
  by_cases hk:k < c.length
  rotate_left
  ·exact absurd (cP fun i hi=>h2 i (by omega)) hz
  have ix:=gS hk
  have hs1:=hs _ (bc hk)
  have hp:=kE (c.getD k default) hs1
  have hsp:=tL (c:=c) (k:=k)
  by_cases he:b0 (c.getD k default) ≠ 0
  ·rw [if_pos he] at hsp
   rw [dw hk h2 (by rw [hsp]; exact he),hsp]
   have z:decide (b0 (c.getD k default) ≠ 0)=true:=decide_eq_true he
   (have zz:=aI @aB (aI @ix @z); repeat' (first|refine zW ?_|apply a_n|apply a_r|refine zO ?_|refine vY ?_|refine cY ?_ (hp:=hp) (hs:=by (first | refine ac ?_ rfl | apply ae); (repeat' (first | exact aa | apply aj | apply af | exact az _)); first | done | fail)|refine cTY ?_|(refine zGY ?_ ?_ <;> (intro _hg; try (exfalso; omega)))|refine ai rfl ?_|refine r1Y ?_|fail)) <;> (try clear zz)
   exact .int _ _
  rw [if_neg he] at hsp
  have he:=Decidable.of_not_not he
  rw [he] at hp
  have z:decide ((0:Int) ≠ 0)=false:=rfl
  by_cases hk0:0 < k
  rotate_left
  ·rw [if_neg (fun h=>hk0 h.1)] at hsp
   have zk:decide (0 < (k:Int))=false:=decide_eq_false (by omega)
   (have zz:=aI @aB (aI @ix (aI @z @zk)); repeat' (first|refine zW ?_|apply a_n|refine zO ?_|refine vY ?_|refine cY ?_ (hp:=hp) (hs:=by (first | refine ac ?_ rfl | apply ae); (repeat' (first | exact aa | apply aj | apply af | exact az _)); first | done | fail)|refine gFY ?_|refine cFY ?_|(refine zGY ?_ ?_ <;> (intro _hg; try (exfalso; omega)))|fail)) <;> (try clear zz)
   exact ⟨k + 1,by omega,⟨by omega,g0,fun i hi=>by
    rcases Nat.lt_succ_iff_lt_or_eq.1 hi with h' | rfl
    ·exact h2 i h'
    ·exact hsp⟩,ag0⟩
  have zk:decide (0 < (k:Int))=true:=decide_eq_true (by omega)
  have iy:eo 1 (aE c) (.int .i64 ((k:Int) - 1))=some (.iptr [av (c.getD (k - 1) default)] 0):=by
   have:=gS (l:=c) (k:=k - 1) (by omega)
   rwa [show ((k - 1:Nat):Int)=(k:Int) - 1 by omega] at this
  have hcm:=gp (c.getD (k - 1) default) (c.getD k default) (hs _ (bc (by omega))) hs1
  by_cases hv:0 ≤ bA (c.getD (k - 1) default) (c.getD k default)
  ·have z2:decide (0 ≤ bA (c.getD (k - 1) default) (c.getD k default))=true:=decide_eq_true hv
   rw [if_pos ⟨hk0,hv⟩] at hsp
   rw [dw hk h2 (by rw [hsp]; decide),hsp]
   (have zz:=aI @aB (aI @ix (aI @iy (aI @z (aI @zk (aI @z2 @g0))))); repeat' (first|refine zW ?_|apply a_n|apply a_r|refine zO ?_|refine vY ?_|refine cY ?_ (hp:=by first | exact hp | exact hcm) (hs:=by (first | refine ac ?_ rfl | apply ae); (repeat' (first | exact aa | apply aj | apply af | exact az _)); first | done | fail)|refine gTY ?_|refine cTY ?_|refine cFY ?_|(refine zGY ?_ ?_ <;> (intro _hg; try (exfalso; omega)))|refine ai rfl ?_|refine r1Y ?_|fail)) <;> (try clear zz)
   exact .int _ _
  ·have z2:decide (0 ≤ bA (c.getD (k - 1) default) (c.getD k default))=false:=decide_eq_false hv
   rw [if_neg (fun h=>hv h.2)] at hsp
   (have zz:=aI @aB (aI @ix (aI @iy (aI @z (aI @zk (aI @z2 @g0))))); repeat' (first|refine zW ?_|apply a_n|refine zO ?_|refine vY ?_|refine cY ?_ (hp:=by first | exact hp | exact hcm) (hs:=by (first | refine ac ?_ rfl | apply ae); (repeat' (first | exact aa | apply aj | apply af | exact az _)); first | done | fail)|refine gTY ?_|refine cFY ?_|(refine zGY ?_ ?_ <;> (intro _hg; try (exfalso; omega)))|fail)) <;> (try clear zz)
   exact ⟨k + 1,by omega,⟨by omega,g0,fun i hi=>by
    rcases Nat.lt_succ_iff_lt_or_eq.1 hi with h' | rfl
    ·exact h2 i h'
    ·exact hsp⟩,ag0⟩
 have hz:=Decidable.of_not_not hz
 rw [if_neg (fun h=>h hz)]
 obtain ⟨a1,a2⟩:=xK hz
 have hall:=fA hz
 have hok:=zU (by omega) a1
 refine aU (fun T H nx=>T 1=.ptr 0 1 0∧H 0=some [aE c]∧1 ≤ nx) ?_ ?_
 ·(have zz:=aI @aB (aI @aD @ar); repeat' (first|refine zW ?_|apply a_n|refine zO ?_|refine vZ ?_|fail)) <;> (try clear zz)
  refine aR (X:=Nat) (fun k=>[(1,.ptr 0 1 0),(14,aE c),(15,.int .i64 c.length),(16,.int .i64 k)]) (fun k H nx=>k ≤ c.length∧H 0=some [aE c]∧1 ≤ nx) (fun k=>c.length - k) 0 ⟨Nat.zero_le _,rfl,by omega⟩ (by (iterate 4 refine And.intro rfl ?_); trivial) ?_
  rintro k H nx ⟨h1,g0,hnx⟩
  by_cases hk:k < c.length
  rotate_left
  ·(have zz:=and_self; repeat' (first|refine zW ?_|apply a_n|apply a_x|refine zO ?_|refine vY ?_|(refine zGY ?_ ?_ <;> (intro _hg; try (exfalso; omega)))|fail)) <;> (try clear zz)
   exact ⟨rfl,g0,hnx⟩
  have ix:=gS hk
  have hs1:=hs _ (bc hk)
  have hp:=kE (c.getD k default) hs1
  rw [a1 _ (bc hk)] at hp
  have z:decide ((0:Int) ≠ 0)=false:=rfl
  by_cases hk0:0 < k
  rotate_left
  ·have zk:decide (0 < (k:Int))=false:=decide_eq_false (by omega)
   (have zz:=aI @aB (aI @ix (aI @z @zk)); repeat' (first|refine zW ?_|apply a_n|refine zO ?_|refine vY ?_|refine cY ?_ (hp:=hp) (hs:=by (first | refine ac ?_ rfl | apply ae); (repeat' (first | exact aa | apply aj | apply af | exact az _)); first | done | fail)|refine gFY ?_|refine cFY ?_|(refine zGY ?_ ?_ <;> (intro _hg; try (exfalso; omega)))|fail)) <;> (try clear zz)
   exact ⟨k + 1,by omega,⟨by omega,g0,hnx⟩,ag0⟩
  have zk:decide (0 < (k:Int))=true:=decide_eq_true (by omega)
  have iy:eo 1 (aE c) (.int .i64 ((k:Int) - 1))=some (.iptr [av (c.getD (k - 1) default)] 0):=by
   have:=gS (l:=c) (k:=k - 1) (by omega)
   rwa [show ((k - 1:Nat):Int)=(k:Int) - 1 by omega] at this
  have hcm:=gp (c.getD (k - 1) default) (c.getD k default) (hs _ (bc (by omega))) hs1
  have z2:decide (0 ≤ bA (c.getD (k - 1) default) (c.getD k default))=false:=decide_eq_false (by have:=cT a2 (i:=k - 1) (j:=k) (by omega) hk; omega)
  (have zz:=aI @aB (aI @ix (aI @iy (aI @z (aI @zk (aI @z2 @g0))))); repeat' (first|refine zW ?_|apply a_n|refine zO ?_|refine vY ?_|refine cY ?_ (hp:=by first | exact hp | exact hcm) (hs:=by (first | refine ac ?_ rfl | apply ae); (repeat' (first | exact aa | apply aj | apply af | exact az _)); first | done | fail)|refine gTY ?_|refine cFY ?_|(refine zGY ?_ ?_ <;> (intro _hg; try (exfalso; omega)))|fail)) <;> (try clear zz)
  exact ⟨k + 1,by omega,⟨by omega,g0,hnx⟩,ag0⟩
 rintro T H nx ⟨t1,g0,hnx⟩
 (have zz:=aI @t1 @g0; repeat' (first|refine zW ?_|apply a_n|refine zO ?_|refine vY ?_|fail)) <;> (try clear zz)
 refine aA ev0 (have zz:=@t1; evZ) (ma c hok.1 (fun s hs=>⟨(hok.2 s hs).1,by have:=(hok.2 s hs).2; omega⟩) _ _) ?_
 rintro _ H1 nx1 ⟨ks,vs,rfl,hinc,hsame,hlt⟩
 have g0':H1 0=some [aE c]:=(hsame 0 (by omega)).trans g0
 (have zz:=aI @t1 (aI @g0' @aB); repeat' (first|refine zW ?_|apply a_n|refine zO ?_|refine vY ?_|fail)) <;> (try clear zz)
 refine aR (X:=Nat) (fun k=>[(1,.ptr 0 1 0),(6,.mp nx),(44,aE c),(45,.int .i64 c.length),(46,.int .i64 k)]) (fun k H' nx'=>k ≤ c.length∧H'=H1∧nx'=nx1∧∀ i,i < k→bx c (c.getD i default)=false) (fun k=>c.length - k) 0 ⟨Nat.zero_le _,rfl,rfl,fun i h=>absurd h (by omega)⟩ (have zz:=@t1; agZ) ?_
 rintro k H' nx' ⟨h1,rfl,rfl,h2⟩
 by_cases hk:k < c.length
 rotate_left
 ·rw [gD fun i hi=>h2 i (by omega),if_neg (by decide)]
  (have zz:=and_self; repeat' (first|refine zW ?_|apply a_n|apply a_x|refine zO ?_|refine vY ?_|(refine zGY ?_ ?_ <;> (intro _hg; try (exfalso; omega)))|refine ai rfl ?_|refine r1Y ?_|fail)) <;> (try clear zz)
  exact .int _ _
 have ix:=gS hk
 obtain ⟨p1,p2,p3,p4⟩:=cm (a1 _ (bc hk))
 have hcv:=pi c (c.getD k default) hok (hok.2 _ (bc hk)) (by omega)
 have iy:=ix2 (l:=c.getD k default) (k:=0) (by omega)
 rw [show ((0:Nat):Int)=0 from rfl] at iy
 have hks:(c.getD k default).getD 0 default ∈ ks:=(hinc.dom _).2 fun e=>by
  have:k ∈ hU c c.length ((c.getD k default).getD 0 default):=List.mem_filter.2 ⟨List.mem_range.2 hk,decide_eq_true (bc (by omega))⟩
  rw [e] at this; cases this
 have hmf:=kL ((c.getD k default).getD 0 default) ks
 rw [if_pos hks] at hmf
 obtain ⟨m1,m2⟩:=jc hks
 have hr:=hinc.row _ m1
 rw [m2] at hr
 have hcb:bx c (c.getD k default)=true→c.any (bx c)=true:=fun h=>List.any_eq_true.2 ⟨_,bc hk,h⟩
 generalize hsk:c.getD k default=s at *
 (have zz:=@ix; repeat' (first|refine zW ?_|apply a_n|refine zO ?_|refine vY ?_|(refine zGY ?_ ?_ <;> (intro _hg; try (exfalso; omega)))|fail)) <;> (try clear zz)
 refine ny 0 g0' fun S hS0 hsub'=>?_
 have hsub:=hsub' H' g0'
 (have zz:=aI @hS0 @iy; repeat' (first|apply a_n|refine zO ?_|refine nvY ?_|fail)) <;> (try clear zz)
 refine gL ?_
 refine iu ev0 hinc.box ev0 (jX _) hmf ?_
 refine nO ⟨hsub,?_⟩
 rw [show mget .esl false (some (ks.idxOf (s.getD 0 default))) vs=vs.getD (ks.idxOf (s.getD 0 default)) .undef from rfl]
 refine jO ?_
 cases hb:bx c s
 ·rw [hb] at hcv
  refine ci ev0 ev0 hcv (ac (an (bh _ _) (an (rD hr) (an (az _ _) aa))) rfl) ?_
  (have zz:=and_self; repeat' (first|apply a_n|refine zO ?_|refine vY ?_|refine cFY ?_|fail)) <;> (try clear zz)
  exact ⟨k + 1,by omega,⟨by omega,rfl,rfl,fun i hi=>by
   rcases Nat.lt_succ_iff_lt_or_eq.1 hi with h' | rfl
   ·exact h2 i h'
   ·rw [hsk]; exact hb⟩,ag0⟩
 ·rw [hb] at hcv
  rw [hcb hb,if_pos rfl]
  refine ci ev0 ev0 hcv (ac (an (bh _ _) (an (rD hr) (an (az _ _) aa))) rfl) ?_
  (have zz:=and_self; repeat' (first|refine zW ?_|apply a_n|apply a_r|refine zO ?_|refine vY ?_|refine cTY ?_|refine ai rfl ?_|refine r1Y ?_|fail)) <;> (try clear zz)
  exact .int _ _
end Go.Proofs.YtbgdcebmgjafjaaGreat
namespace Go.Proofs.YtbgdcebmgjafjaaGreat
open Go Go.Abs
open Nat (reduceEqDiff reduceAdd reduceLeDiff)
attribute [local irreducible] aG al a9 aW aN aP aC aQ aZ bt Go.Abs.Fn aV Go.Abs.Pure ax aL Yl
end Go.Proofs.YtbgdcebmgjafjaaGreat
namespace Go.Proofs.YtbgdcebmgjafjaaGreat
open Go Go.Abs
structure MapV where
 fr:Spx
 to:Spx
 deriving Inhabited,DecidableEq
abbrev iM (m:MapV):AV:=.agg [av m.fr,av m.to]
theorem bC (m:MapV):Dat (iM m):=Dat.agg (DatL.cons (az _) (DatL.cons (az _) DatL.nil))
instance datI_encM {m:MapV}:DatI (iM m):=⟨bC m⟩
abbrev ShM (m:MapV):Prop:=Shn m.fr∧Shn m.to
def q0 (m:MapV) (k:Nat):Int:=if bD (m.fr.getD k default)=false ∨ bD (m.to.getD k default)=false then 2 else if 0 < k∧0 ≤ bB (m.fr.getD (k - 1) default) (m.fr.getD k default) then 14 else 0
def cb (m:MapV):Int:=if 4096 < m.fr.length then 5 else if m.to.length ≠ m.fr.length then 15 else cE (q0 m) m.fr.length
theorem fZ {m:MapV} (h:cb m=0):m.fr.length ≤ 4096∧m.to.length=m.fr.length∧b7 bB m.fr∧(∀ v ∈ m.fr,bD v=true)∧∀ v ∈ m.to,bD v=true:=by
 unfold cb at h
 split at h
 ·exact absurd h (by decide)
 split at h
 ·exact absurd h (by decide)
 rename_i h1 h2
 have h2:=Decidable.of_not_not h2
 have hz:=fA h
 have h3:∀ k,k < m.fr.length→(bD (m.fr.getD k default)=true∧bD (m.to.getD k default)=true)∧(0 < k→bB (m.fr.getD (k - 1) default) (m.fr.getD k default) < 0):=fun k hk=>by
  have:=hz k hk
  unfold q0 at this
  split at this
  ·exact absurd this (by decide)
  rename_i g1
  split at this
  ·exact absurd this (by decide)
  rename_i g2
  exact ⟨⟨by cases hr:bD (m.fr.getD k default) with
   | true=>rfl
   | false=>exact absurd (.inl hr) g1,by cases hr:bD (m.to.getD k default) with
   | true=>rfl
   | false=>exact absurd (.inr hr) g1⟩,fun h0=>by omega⟩
 refine ⟨by omega,h2,?_,fun v hv=>?_,fun v hv=>?_⟩
 ·have step:∀ j i,i < j→j < m.fr.length→bB (m.fr.getD i default) (m.fr.getD j default) < 0:=by
    intro j
    induction j with
    | zero=>intro i h; omega
    | succ j ih =>
     intro i hi hj
     have hs:=(h3 (j + 1) hj).2 (by omega)
     rw [Nat.add_sub_cancel] at hs
     by_cases e:i=j
     ·subst e; exact hs
     ·exact jM.trans (ih i (by omega) (by omega)) hs
  unfold b7
  rw [List.pairwise_iff_getElem]
  intro i j hi hj hij
  have:=step j i hij hj
  simpa [List.getD,hi,hj] using this
 ·obtain ⟨i,hi,rfl⟩:=List.getElem_of_mem hv
  have:=(h3 i hi).1.1
  simpa [List.getD,hi] using this
 ·obtain ⟨i,hi,rfl⟩:=List.getElem_of_mem hv
  have:=(h3 i (by omega)).1.2
  simpa [List.getD,hi] using this
def dA (m:MapV) (v:Vtx):Vtx:=m.to.getD (m.fr.idxOf v) default
def l9 (m:MapV):Bool:=decide (m.fr.length ≤ 40) && decide (m.to.length ≤ 40)
theorem sG {m:MapV} {k:Nat}:q0 m k=if bD (m.fr.getD k default)=false ∨ bD (m.to.getD k default)=false then 2 else if 0 < k∧0 ≤ bB (m.fr.getD (k - 1) default) (m.fr.getD k default) then 14 else 0:=rfl
attribute [local irreducible] aG al a9 aW aN aP aC aQ aZ bt Go.Abs.Fn aV Go.Abs.Pure ax aL Yl
theorem gv (m:MapV) (hm:ShM m):Pure Tryz.prog 34 [iM m] (.int .i64 (cb m)):=by
 refine Pure.of_c2 follows AN (Nat.le_of_ble_eq_true rfl) ?_
 simp only [b34,cO,cG,cN,cM,cD,cF,cB,au,aK]
 obtain ⟨hm1,hm2⟩:=hm
 have hm1':m.fr.length ≤ 17592186044416:=hm1
 have hm2':m.to.length ≤ 17592186044416:=hm2
 by_cases h0:4096 < m.fr.length
 ·rw [show cb m=5 by unfold cb; rw [if_pos h0]]
  (have zz:=aI @aw (aI @aF @ay); repeat' (first|refine zW ?_|apply a_n|apply a_r|refine zO ?_|refine vZ ?_|refine bxZ ?_|(refine zGZ ?_ ?_ <;> (intro _hg; try (exfalso; omega)))|refine ai rfl ?_|refine r1Z ?_|fail)) <;> (try clear zz)
  all_goals exact cp rfl
 by_cases h8:m.to.length ≠ m.fr.length
 ·rw [show cb m=15 by unfold cb; rw [if_neg h0,if_pos h8]]
  have z:decide ((m.to.length:Int) ≠ m.fr.length)=true:=decide_eq_true (by omega)
  (have zz:=aI @aw (aI @aF (aI @ay @z)); repeat' (first|refine zW ?_|apply a_n|apply a_r|refine zO ?_|refine vZ ?_|refine bxZ ?_|refine cTZ ?_|(refine zGZ ?_ ?_ <;> (intro _hg; try (exfalso; omega)))|refine ai rfl ?_|refine r1Z ?_|fail)) <;> (try clear zz)
  all_goals exact cp rfl
 rw [show cb m=cE (q0 m) m.fr.length by unfold cb; rw [if_neg h0,if_neg h8]]
 have h8':=Decidable.of_not_not h8
 have z:decide ((m.to.length:Int) ≠ m.fr.length)=false:=decide_eq_false (by omega)
 (have zz:=aI @aw (aI @aF (aI @ay @z)); repeat' (first|refine zW ?_|apply a_n|refine zO ?_|refine vZ ?_|refine bxZ ?_|refine cFZ ?_|(refine zGZ ?_ ?_ <;> (intro _hg; try (exfalso; omega)))|fail)) <;> (try clear zz)
 refine aR (X:=Nat) (fun k=>[(1,.ptr 0 2 0),(19,av m.fr),(20,.int .i64 m.fr.length),(21,.int .i64 k)]) (fun k H nx=>k ≤ m.fr.length∧H 0=some [av m.fr,av m.to]∧1 ≤ nx∧∀ i,i < k→q0 m i=0) (fun k=>m.fr.length - k) 0 ⟨Nat.zero_le _,rfl,by omega,fun i h=>absurd h (by omega)⟩ (by (iterate 4 refine And.intro rfl ?_); trivial) ?_
 rintro k H nx ⟨h1,g0,hnx,h2⟩
 by_cases hk:k < m.fr.length
 rotate_left
 ·rw [cP fun i hi=>h2 i (by omega)]
  (have zz:=@aw; repeat' (first|refine zW ?_|apply a_n|apply a_x|refine zO ?_|refine vY ?_|(refine zGY ?_ ?_ <;> (intro _hg; try (exfalso; omega)))|refine ai rfl ?_|refine r1Y ?_|fail)) <;> (try clear zz)
  exact .int _ _
 have ix:=ix2 hk
 have it:=ix2 (l:=m.to) (k:=k) (by omega)
 have hp:=sn (m.fr.getD k default)
 have hq:=sn (m.to.getD k default)
 have hs:=sG (m:=m) (k:=k)
 have done:q0 m k=0→∀ i,i < k + 1→q0 m i=0:=fun h i hi=>by
  rcases Nat.lt_succ_iff_lt_or_eq.1 hi with h' | rfl
  ·exact h2 i h'
  ·exact h
 cases hr:bD (m.fr.getD k default)
 ·rw [hr] at hp
  rw [if_pos (.inl hr)] at hs
  rw [dw hk h2 (by rw [hs]; decide),hs]
  (have zz:=aI @aw (aI @ix (aI @it @g0)); repeat' (first|refine zW ?_|apply a_n|apply a_r|refine zO ?_|refine vY ?_|refine cY ?_ (hp:=hp) (hs:=by (first | refine ac ?_ rfl | apply ae); (repeat' (first | exact aa | apply aj | apply af | exact bK _)); first | done | fail)|refine alY ?_|refine stY ?_|refine gFY ?_|refine cTY ?_|(refine zGY ?_ ?_ <;> (intro _hg; try (exfalso; omega)))|refine ai rfl ?_|refine r1Y ?_|fail)) <;> (try clear zz)
  exact .int _ _
 rw [hr] at hp
 cases hr2:bD (m.to.getD k default)
 ·rw [hr2] at hq
  rw [if_pos (.inr hr2)] at hs
  rw [dw hk h2 (by rw [hs]; decide),hs]
  (have zz:=aI @aw (aI @ix (aI @it @g0)); repeat' (first|refine zW ?_|apply a_n|apply a_r|refine zO ?_|refine vY ?_|refine cY ?_ (hp:=by first | exact hp | exact hq) (hs:=by (first | refine ac ?_ rfl | apply ae); (repeat' (first | exact aa | apply aj | apply af | exact bK _)); first | done | fail)|refine alY ?_|refine stY ?_|refine gTY ?_|refine cTY ?_|(refine zGY ?_ ?_ <;> (intro _hg; try (exfalso; omega)))|refine ai rfl ?_|refine r1Y ?_|fail)) <;> (try clear zz)
  exact .int _ _
 rw [hr2] at hq
 rw [if_neg (by rw [hr,hr2]; rintro (h | h) <;> cases h)] at hs
 have gk:∀ {cs:List AV},ak H nx cs 0=some [av m.fr,av m.to]:=fun {cs}=>by rw [ag (by omega)]; exact g0
 by_cases hk0:0 < k
 rotate_left
 ·rw [if_neg (fun h=>hk0 h.1)] at hs
  have zk:decide (0 < (k:Int))=false:=decide_eq_false (by omega)
  (have zz:=aI @aw (aI @ix (aI @it (aI @zk @g0))); repeat' (first|refine zW ?_|refine zM ?_|apply a_n|refine zO ?_|refine vY ?_|refine cY ?_ (hp:=by first | exact hp | exact hq) (hs:=by (first | refine ac ?_ rfl | apply ae); (repeat' (first | exact aa | apply aj | apply af | exact bK _)); first | done | fail)|refine alY ?_|refine stY ?_|refine gTY ?_|refine gFY ?_|refine cFY ?_|(refine zGY ?_ ?_ <;> (intro _hg; try (exfalso; omega)))|fail)) <;> (try clear zz)
  exact ⟨k + 1,by omega,⟨by omega,by (repeat rw [ag (by omega)]); exact g0,by omega,done hs⟩,ag0⟩
 have zk:decide (0 < (k:Int))=true:=decide_eq_true (by omega)
 have iy:eo 2 (av m.fr) (.int .i64 ((k:Int) - 1))=some (.iptr [.int .i64 (m.fr.getD (k - 1) default).color,.int .i64 (m.fr.getD (k - 1) default).label] 0):=by
  have:=ix2 (l:=m.fr) (k:=k - 1) (by omega)
  rwa [show ((k - 1:Nat):Int)=(k:Int) - 1 by omega] at this
 have hc:=oF (m.fr.getD (k - 1) default) (m.fr.getD k default)
 by_cases hv:0 ≤ bB (m.fr.getD (k - 1) default) (m.fr.getD k default)
 ·have z:decide (0 ≤ bB (m.fr.getD (k - 1) default) (m.fr.getD k default))=true:=decide_eq_true hv
  rw [if_pos ⟨hk0,hv⟩] at hs
  rw [dw hk h2 (by rw [hs]; decide),hs]
  (have zz:=aI @aw (aI @ix (aI @it (aI @iy (aI @zk (aI @z @g0))))); repeat' (first|refine zW ?_|refine zM ?_|apply a_n|apply a_r|refine zO ?_|refine vY ?_|refine cY ?_ (hp:=by first | exact hp | exact hq | exact hc) (hs:=by (first | refine ac ?_ rfl | apply ae); (repeat' (first | exact aa | apply aj | apply af | exact bK _)); first | done | fail)|refine alY ?_|refine stY ?_|refine gTY ?_|refine cTY ?_|refine cFY ?_|(refine zGY ?_ ?_ <;> (intro _hg; try (exfalso; omega)))|refine ai rfl ?_|refine r1Y ?_|fail)) <;> (try clear zz)
  exact .int _ _
 ·have z:decide (0 ≤ bB (m.fr.getD (k - 1) default) (m.fr.getD k default))=false:=decide_eq_false hv
  rw [if_neg (fun h=>hv h.2)] at hs
  (have zz:=aI @aw (aI @ix (aI @it (aI @iy (aI @zk (aI @z @g0))))); repeat' (first|refine zW ?_|refine zM ?_|apply a_n|refine zO ?_|refine vY ?_|refine cY ?_ (hp:=by first | exact hp | exact hq | exact hc) (hs:=by (first | refine ac ?_ rfl | apply ae); (repeat' (first | exact aa | apply aj | apply af | exact bK _)); first | done | fail)|refine alY ?_|refine stY ?_|refine gTY ?_|refine cFY ?_|(refine zGY ?_ ?_ <;> (intro _hg; try (exfalso; omega)))|fail)) <;> (try clear zz)
  exact ⟨k + 1,by omega,⟨by omega,by (repeat rw [ag (by omega)]); exact g0,by omega,done hs⟩,ag0⟩
theorem qv (m:MapV) (hm:ShM m):Pure Tryz.prog 9 [iM m] (.bool (l9 m)):=by
 refine Pure.of_c2 follows is9 (Nat.le_of_ble_eq_true rfl) ?_
 simp only [b9,cO,cG,cN,cM,cD,cF,cB,au,aK]
 unfold l9
 (have zz:=aI @aw (aI @aF @ay); repeat' (first|refine zW ?_|apply a_n|refine zO ?_|refine vZ ?_|refine bxZ ?_|refine gTZ ?_|refine gFZ ?_|(refine zGZ ?_ ?_ <;> (intro _hg; try (exfalso; omega)))|refine ai rfl ?_|refine r1Z ?_|fail)) <;> (try clear zz)
 all_goals (refine br ?_; rw [Bool.eq_iff_iff]; simp only [Bool.and_eq_true,decide_eq_true_iff,Bool.false_eq_true,false_iff]; omega)
theorem nM {H:Hp} {a b:Bool} {e f:Int} (h1:a=b) (h2:e=f):Snap H (.tup [.bool a,.int .i64 e]) (.tup [.bool b,.int .i64 f]):=by
 subst h1 h2; exact eT (an (.bool _) (an (.int _ _) aa))
def bo (m:MapV) (l:Spx):Bool:=l.all fun v=>decide (v ∈ m.fr)
end Go.Proofs.YtbgdcebmgjafjaaGreat
namespace Go.Proofs.YtbgdcebmgjafjaaGreat
open Go Go.Abs
def bq (m:MapV) (l:Spx):Spx:=eY bB (l.map (dA m))
theorem nY {m:MapV} {v:Vtx} (h:m.to.length=m.fr.length) (hv:v ∈ m.fr):dA m v ∈ m.to:=by
 have:=(jc hv).1
 exact bc (by omega)
attribute [local irreducible] aG al a9 aW aN aP aC aQ aZ bt Go.Abs.Fn aV Go.Abs.Pure ax aL Yl
end Go.Proofs.YtbgdcebmgjafjaaGreat
namespace Go.Proofs.YtbgdcebmgjafjaaGreat
open Go Go.Abs
open Nat (reduceEqDiff reduceAdd reduceLeDiff)
theorem xa {l:Spx} (ha:b7 bB l) {k:Nat} (hk:k < l.length):l.getD k default ∉ l.take k:=fun hm=>by
 obtain ⟨i,hi,e⟩:=List.getElem_of_mem hm
 rw [List.length_take] at hi
 rw [List.getElem_take] at e
 have:=cT ha (i:=i) (j:=k) (by omega) hk
 rw [show l.getD i default=l[i] by simp [List.getD,show i < l.length by omega],e] at this
 exact jM.ord.irr _ this
theorem qW {m:MapV} {v:Vtx} (h:m.to.length=m.fr.length) (hv:v ∈ m.fr):(m.to.map bk).getD (m.fr.idxOf v) .undef=bk (dA m v):=by
 have:=(jc hv).1
 unfold dA
 simp [List.getD,show m.fr.idxOf v < m.to.length by omega]
theorem sZ {H:Hp} {B n len:Nat} {C:List AV} {l:Spx} (hB:H B=some C) (hn:C.length=n) (hf:len * 2 ≤ n) (hl:l.length=len) (ht:C.take (len * 2)=cX l):Snap H (.msl B n 2 0 len) (av l):=by
 refine .msl B n 2 0 len C (l.map bk) hB hn (by omega) (by simp [hl]) (fun y hy=>?_) (fun i j y a c hy hc ha=>?_)
 ·obtain ⟨v,_,rfl⟩:=List.mem_map.1 hy; rfl
 ·have hi:i < l.length:=by
    have:=(List.getElem?_eq_some_iff.1 hy).1
    simpa using this
  have hy':y=bk (l.getD i default):=by
   rw [List.getElem?_map,List.getElem?_eq_getElem hi] at hy
   simp at hy
   rw [← hy]; simp [List.getD,hi]
  subst hy'
  have hj:j < 2:=(List.getElem?_eq_some_iff.1 hc).1
  have h1:C[0 + i * 2 + j]?=(cX l)[i * 2 + j]?:=by
   rw [← ht,List.getElem?_take,if_pos (by omega)]; congr 1; omega
  have h2:(cX l)[i * 2 + j]?=(((cX l).drop (i * 2)).take 2)[j]?:=by
   rw [List.getElem?_take,if_pos hj,List.getElem?_drop]
  rw [h1,h2,rdX hi] at ha
  have:[AV.int .i64 (l.getD i default).color,AV.int .i64 (l.getD i default).label][j]?=some c:=hc
  rw [this] at ha
  cases ha
  match j,hj with
  | 0,_=>cases this; exact .int _ _
  | 1,_=>cases this; exact .int _ _
attribute [local irreducible] aG al a9 aW aN aP aC aQ aZ bt Go.Abs.Fn aV Go.Abs.Pure ax aL Yl
set_option maxHeartbeats 1000000 in
theorem qb (m:MapV) (hm:ShM m) (H:Hp) (nx:Nat):Abs.Fn Tryz.prog 41 [iM m] H nx fun r H' nx'=>(∀ x,x < nx→H' x=H x)∧nx ≤ nx'∧((cb m=0∧∃ b,r=.tup [.mp b,.int .i64 0]∧nx ≤ b∧b < nx'∧H' b=some [.omap (m.fr.map bk) (m.to.map bk)]) ∨ (cb m ≠ 0∧r=.tup [.undef,.int .i64 (cb m)])):=by
 refine Abs.Fn.of_c2 follows B0 (Nat.le_of_ble_eq_true rfl) ?_
 simp only [b41,cO,cG,cN,cM,cD,cF,cB,au,aK]
 have hc:=gv m hm
 have hm1':m.fr.length ≤ 17592186044416:=hm.1
 by_cases he:cb m=0
 rotate_left
 ·have z:decide (cb m ≠ 0)=true:=decide_eq_true he
  (have zz:=aI @aw (aI @aF (aI @ay @z)); repeat' (first|refine zW ?_|apply a_n|apply a_r|refine zO ?_|refine vY ?_|refine cY ?_ (hp:=hc) (hs:=by (first | refine ac ?_ rfl | apply ae); (repeat' (first | exact aa | apply aj | apply af | exact bC _)); first | done | fail)|refine bxY ?_|refine cTY ?_|refine ai rfl ?_|refine r2Y ?_|fail)) <;> (try clear zz)
  exact ⟨fun x hx=>ag (by omega),by omega,.inr ⟨he,rfl⟩⟩
 rw [he] at hc
 obtain ⟨q1,q2,q3,q4,q5⟩:=fZ he
 have z:decide ((0:Int) ≠ 0)=false:=rfl
 (have zz:=aI @aw (aI @aF (aI @ay @z)); repeat' (first|refine zW ?_|apply a_n|refine zO ?_|refine vY ?_|refine cY ?_ (hp:=hc) (hs:=by (first | refine ac ?_ rfl | apply ae); (repeat' (first | exact aa | apply aj | apply af | exact bC _)); first | done | fail)|refine bxY ?_|refine cFY ?_|fail)) <;> (try clear zz)
 refine wy ?_
 (have zz:=@aw; repeat' (first|refine zW ?_|apply a_n|refine zO ?_|refine vY ?_|fail)) <;> (try clear zz)
 refine aR (X:=Nat) (fun k=>[(1,.ptr nx 2 0),(5,.mp (nx + 1)),(15,av m.fr),(16,.int .i64 m.fr.length),(17,.int .i64 k)]) (fun k H' nx'=>k ≤ m.fr.length∧H' nx=some [av m.fr,av m.to]∧H' (nx + 1)=some [.omap ((m.fr.take k).map bk) ((m.to.take k).map bk)]∧(∀ x,x < nx→H' x=H x)∧nx + 2 ≤ nx') (fun k=>m.fr.length - k) 0 ⟨Nat.zero_le _,by rw [ag (by omega),ah],ah,fun x hx=>by rw [ag (by omega),ag (by omega)],by omega⟩ (by simp (disch:=omega) only [agr,ZG,reduceEqDiff,↓reduceIte,List.length_cons,List.length_nil,Nat.zero_add,reduceAdd]) ?_
 rintro k H1 nx1 ⟨h1,g0,g1,h2,hnx⟩
 by_cases hk:k < m.fr.length
 rotate_left
 ·obtain rfl:k=m.fr.length:=by omega
  rw [List.take_length,List.take_of_length_le (by omega)] at g1
  (have zz:=and_self; repeat' (first|refine zW ?_|apply a_n|apply a_x|refine zO ?_|refine vY ?_|(refine zGY ?_ ?_ <;> (intro _hg; try (exfalso; omega)))|refine ai rfl ?_|refine r2Y ?_|fail)) <;> (try clear zz)
  exact ⟨h2,by omega,.inl ⟨he,nx + 1,rfl,by omega,by omega,g1⟩⟩
 have ix:=ix2 hk
 have it:=ix2 (l:=m.to) (k:=k) (by omega)
 have hnt:=xa q3 hk
 have hmf:=kL (m.fr.getD k default) (m.fr.take k)
 rw [if_neg hnt] at hmf
 have e1:(m.fr.take (k + 1)).map bk=(m.fr.take k).map bk ++ [bk (m.fr.getD k default)]:=by rw [bG hk,List.map_append]; rfl
 have e2:(m.to.take (k + 1)).map bk=(m.to.take k).map bk ++ [bk (m.to.getD k default)]:=by rw [bG (by omega),List.map_append]; rfl
 generalize m.fr.getD k default=v at *
 generalize m.to.getD k default=w at *
 (have zz:=@ix; repeat' (first|refine zW ?_|apply a_n|refine zO ?_|refine vY ?_|refine alY ?_|refine stY ?_|(refine zGY ?_ ?_ <;> (intro _hg; try (exfalso; omega)))|fail)) <;> (try clear zz)
 refine kQ (c2:=[.int .i64 v.color,.int .i64 v.label]) nx nx1 (by rw [ag (by omega),ag (by omega)]; exact g0) (by rw [ah]; rfl) (by omega) fun S hS0 hS1 _=>?_
 (have zz:=aI @hS0 (aI @hS1 @it); repeat' (first|apply a_n|refine zO ?_|refine nvY ?_|apply jO|fail)) <;> (try clear zz)
 refine wh ev0 (by rw [ag (by omega),ag (by omega)]; exact g1) ev0 ev0 (jX v) hmf ?_
 (have zz:=and_self; repeat' (first|apply a_n|refine zO ?_|refine vY ?_|fail)) <;> (try clear zz)
 refine ⟨k + 1,by omega,⟨by omega,by (repeat rw [ag (by omega)]); exact g0,?_,fun x hx=>by (repeat rw [ag (by omega)]); exact h2 x hx,by omega⟩,ag0⟩
 rw [ah,e1,e2]; rfl
theorem CY:Cmp2 Tryz.prog bk bB (fun _=>True) 74 [] where
 len _:=rfl
 agg _:=rfl
 ones _:=rfl
 dat x:=bK x
 dcaps x hx:=by cases hx
 run x y _ _:=oF x y
 ord:=jM.ord
theorem Au (m:MapV) (l:Spx) (hlen:m.to.length=m.fr.length) (hl:l.length ≤ 100000) (hl0:l ≠ []) (b:Nat) (H:Hp) (nx:Nat) (hb:H b=some [.omap (m.fr.map bk) (m.to.map bk)]) (hbn:b < nx):Abs.Fn Tryz.prog 57 [.mp b,av l] H nx fun r H' nx'=>nx ≤ nx'∧((bo m l=false∧r=.tup [.esl,.bool false]∧∀ x,x < nx→H' x=H x) ∨ (bo m l=true∧∃ sv Hf H2,r=.tup [sv,.bool true]∧sv.one=true∧Fz Hf H' H2∧Snap Hf sv (av (bq m l))∧∀ x,x < nx→H2 x=H x)):=by
 refine Abs.Fn.of_c2 follows B6 (Nat.le_of_ble_eq_true rfl) ?_
 simp only [b57,cO,cG,cN,cM,cD,cF,cB,au,aK]
 (have zz:=@aw; repeat' (first|refine zW ?_|apply a_n|refine zO ?_|refine vY ?_|fail)) <;> (try clear zz)
 refine aR (X:=AV × Nat) (fun x=>[(0,.mp b),(6,x.1),(11,av l),(12,.int .i64 l.length),(13,.int .i64 x.2)]) (fun x H' nx'=>x.2 ≤ l.length∧(∀ y,y < nx→H' y=H y)∧nx ≤ nx'∧Row H' 2 x.1 (cX ((l.take x.2).map (dA m)))∧(∀ B,di x.1=some B→nx ≤ B∧B < nx')∧∀ i,i < x.2→decide (l.getD i default ∈ m.fr)=true) (fun x=>l.length - x.2) (.esl,0) ⟨Nat.zero_le _,fun _ _=>rfl,Nat.le_refl _,Row.nil,fun B h=>(by cases h),fun i h=>absurd h (by omega)⟩ ag0 ?_
 rintro ⟨sv,k⟩ H1 nx1 ⟨h1,h2,h3,hrow,hbd,hz⟩
 dsimp only at h1 hrow hbd hz ⊢
 by_cases hk:k < l.length
 rotate_left
 ·rw [List.take_of_length_le (by omega)] at hrow
  have ht:bo m l=true:=iw fun i hi=>hz i (by omega)
  have hpos:0 < l.length:=List.length_pos_iff.2 hl0
  generalize hM:l.map (dA m)=M at *
  have hMl:M.length=l.length:=by rw [← hM,List.length_map]
  have himg:bq m l=eY bB M:=by unfold bq; rw [hM]
  obtain ⟨B,rfl,hB⟩:∃ B,sv=.msl B (M.length * 2) 2 0 M.length∧H1 B=some (cX M):=by
   generalize hcs:cX M=cs at hrow
   have hcl:=eZ M
   cases hrow with
   | nil=>rw [hcs] at hcl; simp at hcl; omega
   | box B len cs g1 g2 =>
    obtain rfl:len=M.length:=by rw [← hcs,hcl] at g2; omega
    exact ⟨B,rfl,g1⟩
  have hBb:=hbd B rfl
  (have zz:=and_self; repeat' (first|refine zW ?_|apply a_n|apply a_x|refine zO ?_|refine vY ?_|(refine zGY ?_ ?_ <;> (intro _hg; try (exfalso; omega)))|fail)) <;> (try clear zz)
  refine aA ev0 ev0 (xS CY (L:=M) (b:=B) (nx:=nx1) (n:=M.length) hB (by omega) rfl (by omega) (fun _ _=>trivial) (by omega)) ?_
  rintro _ H3 nx3 ⟨L,ps,hperm,hsort⟩
  have hLl:L.length=M.length:=hperm.length_eq
  have hL0:L ≠ []:=fun e=>by rw [e] at hLl; simp at hLl; omega
  have hB3:H3 B=some (cX L):=ps.at_
  rw [← hLl]
  (have zz:=and_self; repeat' (first|refine zW ?_|apply a_n|refine zO ?_|refine vY ?_|fail)) <;> (try clear zz)
  refine aA ev0 ev0 (sJ L (show _ ≤ _ by omega) hL0 H3 B nx3 hB3 (by have:=ps.le; omega)) ?_
  rintro _ H4 nx4 ⟨rfl,⟨C,rfl,c1,c2⟩,rfl⟩
  have hd:cV L L.length=eY bB M:=pC jM hperm (by rw [hLl]; exact hsort)
  rw [hd] at c2
  have hle:=rP L L.length
  have hdl:=pm L L.length
  rw [hd] at hdl
  (have zz:=and_self; repeat' (first|apply a_n|refine zO ?_|refine vY ?_|refine ai rfl ?_|refine r2Y ?_|fail)) <;> (try clear zz)
  refine ⟨by have:=ps.le; omega,.inr ⟨ht,.msl B (L.length * 2) 2 0 (bu L L.length),only B C,bL (ak H3 B C) B,rfl,rfl,Fz.one ah,?_,fun x hx=>?_⟩⟩
  ·rw [himg]
   exact sZ kA c1 (by omega) hdl c2
  ·rw [eI (by omega),ag (by omega),ps.fr x (by omega) (by omega)]; exact h2 x hx
 have ix:=ix2 hk
 have hb1:H1 b=some [.omap (m.fr.map bk) (m.to.map bk)]:=(h2 b hbn).trans hb
 have hmf:=kL (l.getD k default) m.fr
 have hcl:(cX ((l.take k).map (dA m))).length=k * 2:=by rw [eZ,List.length_map,List.length_take]; omega
 have e1:(l.take (k + 1)).map (dA m)=(l.take k).map (dA m) ++ [dA m (l.getD k default)]:=by rw [bG hk,List.map_append]; rfl
 by_cases hv:l.getD k default ∈ m.fr
 rotate_left
 ·have ht:bo m l=false:=gm hk (decide_eq_false hv)
  rw [if_neg hv] at hmf
  generalize l.getD k default=v at *
  (have zz:=@ix; repeat' (first|refine zW ?_|apply a_n|refine zO ?_|refine vY ?_|refine alY ?_|refine stY ?_|(refine zGY ?_ ?_ <;> (intro _hg; try (exfalso; omega)))|fail)) <;> (try clear zz)
  refine iu ev0 (by rw [ag (by omega),ag (by omega)]; exact hb1) ev0 (jX v) hmf ?_
  rw [show mget (.agg [.int .i64 0,.int .i64 0]) true none (m.to.map bk)=.tup [.agg [.int .i64 0,.int .i64 0],.bool false] from rfl]
  (have zz:=and_self; repeat' (first|refine zW ?_|apply a_n|apply a_r|refine zO ?_|refine vY ?_|refine alY ?_|refine stY ?_|refine cTY ?_|refine ai rfl ?_|refine r2Y ?_|fail)) <;> (try clear zz)
  exact ⟨by omega,.inl ⟨ht,rfl,fun x hx=>by (repeat rw [ag (by omega)]); exact h2 x hx⟩⟩
 rw [if_pos hv] at hmf
 have hmg:=qW hlen hv
 have hzz:∀ i,i < k + 1→decide (l.getD i default ∈ m.fr)=true:=fun i hi=>by
  rcases Nat.lt_succ_iff_lt_or_eq.1 hi with h' | rfl
  ·exact hz i h'
  ·exact decide_eq_true hv
 generalize l.getD k default=v at *
 generalize dA m v=w at *
 (have zz:=@ix; repeat' (first|refine zW ?_|apply a_n|refine zO ?_|refine vY ?_|refine alY ?_|refine stY ?_|(refine zGY ?_ ?_ <;> (intro _hg; try (exfalso; omega)))|fail)) <;> (try clear zz)
 refine iu ev0 (by rw [ag (by omega),ag (by omega)]; exact hb1) ev0 (jX v) hmf ?_
 rw [show mget (.agg [.int .i64 0,.int .i64 0]) true (some (m.fr.idxOf v)) (m.to.map bk)=.tup [(m.to.map bk).getD (m.fr.idxOf v) .undef,.bool true] from rfl,hmg]
 (have zz:=and_self; repeat' (first|refine zW ?_|apply a_n|refine zO ?_|refine vY ?_|refine alY ?_|refine stY ?_|refine blY ?_|refine cFY ?_|fail)) <;> (try clear zz)
 refine jk rfl ev0 (hrow.same fun B hB=>?_) ev0 lB rfl rfl (by omega) (by omega) (by omega) ?_
 ·have:=hbd B hB; (repeat rw [ag (by omega)])
 rintro s2 H2 nx2 hr2 i1 i2 i3 i4
 (have zz:=and_self; repeat' (first|apply a_n|refine zO ?_|refine vY ?_|fail)) <;> (try clear zz)
 refine ⟨(s2,k + 1),by dsimp only; omega,⟨by dsimp only; omega,fun y hy=>?_,by omega,?_,fun B hB=>?_,hzz⟩,ag0⟩
 ·rw [i3 y (by omega) (fun h=>by have:=hbd y h; omega)]
  (repeat rw [ag (by omega)]); exact h2 y hy
 ·dsimp only
  rw [e1,iX]; exact hr2
 ·rcases i4 B hB with h | h
  ·have:=hbd B h; omega
  ·omega
end Go.Proofs.YtbgdcebmgjafjaaGreat
namespace Go.Proofs.YtbgdcebmgjafjaaGreat
open Go Go.Abs
def dK (m:MapV) (a b:List Spx):Bool × Int:=if cb m ≠ 0 then (false,cb m) else if aO a ≠ 0 then (false,aO a) else if aO b ≠ 0 then (false,aO b) else if a.all (bo m)=false then (false,6) else ((a.map (bq m)).all fun s=>b.any fun t=>cz s t,0)
theorem uA {α:Type} {l:List α} {p:α→Bool}:(!l.any fun x=>!p x)=l.all p:=by
 rw [List.any_eq_not_all_not]; simp
attribute [local irreducible] aG al a9 aW aN aP aC aQ aZ bt Go.Abs.Fn aV Go.Abs.Pure ax aL Yl
set_option maxHeartbeats 1000000 in
theorem sg (m:MapV) (c:List Spx) (hlen:m.to.length=m.fr.length) (hc:c.length ≤ 5000) (hs:∀ s ∈ c,s.length ≤ 1000∧s ≠ []) (b:Nat) (H:Hp) (nx:Nat) (hb:H b=some [.omap (m.fr.map bk) (m.to.map bk)]) (hbn:b < nx):Abs.Fn Tryz.prog 42 [.mp b,ez c] H nx fun r H' nx'=>nx ≤ nx'∧(∀ x,x < nx→H' x=H x)∧((c.all (bo m)=false∧r=.tup [.esl,.bool false]) ∨ (c.all (bo m)=true∧∃ sv,r=.tup [sv,.bool true]∧Row H' 1 sv ((c.map (bq m)).map av)∧∀ B,di sv=some B→nx ≤ B∧B < nx')):=by
 refine Abs.Fn.of_c2 follows Co (Nat.le_of_ble_eq_true rfl) ?_
 simp only [b42,cO,cG,cN,cM,cD,cF,cB,au,aK]
 (have zz:=aI @aB (aI @aD @ar); repeat' (first|refine zW ?_|apply a_n|refine zO ?_|refine vY ?_|refine bxY ?_|fail)) <;> (try clear zz)
 refine aR (X:=AV × Nat) (fun x=>[(0,.mp b),(6,x.1),(12,aE c),(13,.int .i64 c.length),(14,.int .i64 x.2)]) (fun x H' nx'=>x.2 ≤ c.length∧(∀ y,y < nx→H' y=H y)∧nx ≤ nx'∧Row H' 1 x.1 (((c.take x.2).map (bq m)).map av)∧(∀ B,di x.1=some B→nx ≤ B∧B < nx')∧∀ i,i < x.2→bo m (c.getD i default)=true) (fun x=>c.length - x.2) (.esl,0) ⟨Nat.zero_le _,fun y hy=>ag (by omega),by omega,Row.nil,fun B h=>(by cases h),fun i h=>absurd h (by omega)⟩ ag0 ?_
 rintro ⟨svo,k⟩ H1 nx1 ⟨h1,h2,h3,hrow,hbd,hz⟩
 dsimp only at h1 hrow hbd hz ⊢
 by_cases hk:k < c.length
 rotate_left
 ·rw [List.take_of_length_le (by omega)] at hrow
  (have zz:=and_self; repeat' (first|refine zW ?_|apply a_n|apply a_x|refine zO ?_|refine vY ?_|(refine zGY ?_ ?_ <;> (intro _hg; try (exfalso; omega)))|refine ai rfl ?_|refine r2Y ?_|fail)) <;> (try clear zz)
  exact ⟨h3,h2,.inr ⟨iw fun i hi=>hz i (by omega),svo,rfl,hrow,hbd⟩⟩
 have ix:=gS hk
 obtain ⟨s1,s2⟩:=hs _ (bc hk)
 have hcl:(((c.take k).map (bq m)).map av).length=k:=by rw [List.length_map,List.length_map,List.length_take]; omega
 have e1:(c.take (k + 1)).map (bq m)=(c.take k).map (bq m) ++ [bq m (c.getD k default)]:=by rw [bG hk,List.map_append]; rfl
 have hall:bo m (c.getD k default)=false→c.all (bo m)=false:=fun h=>gm hk h
 have hzz:bo m (c.getD k default)=true→∀ i,i < k + 1→bo m (c.getD i default)=true:=fun h i hi=>by
  rcases Nat.lt_succ_iff_lt_or_eq.1 hi with h' | rfl
  ·exact hz i h'
  ·exact h
 have ho:=Au m (c.getD k default) hlen (by omega) s2 b H1 nx1 ((h2 b hbn).trans hb) (by omega)
 obtain ⟨o1,o2⟩:=hrow.one
 generalize c.getD k default=s at *
 (have zz:=@ix; repeat' (first|refine zW ?_|apply a_n|refine zO ?_|refine vY ?_|(refine zGY ?_ ?_ <;> (intro _hg; try (exfalso; omega)))|fail)) <;> (try clear zz)
 refine aA ev0 ev0 ho ?_
 rintro _ H2 nx2 ⟨hle,h⟩
 rcases h with ⟨ht,rfl,hsm⟩ | ⟨ht,sv2,Hf,H3,rfl,hone,hfz,hsn,hsm⟩
 ·(have zz:=and_self; repeat' (first|refine zW ?_|apply a_n|apply a_r|refine zO ?_|refine vY ?_|refine cTY ?_|refine ai rfl ?_|refine r2Y ?_|fail)) <;> (try clear zz)
  exact ⟨by omega,fun x hx=>(hsm x (by omega)).trans (h2 x hx),.inl ⟨hall ht,rfl⟩⟩
 (have zz:=and_self; repeat' (first|apply a_n|refine zO ?_|refine vY ?_|fail)) <;> (try clear zz)
 refine eL (eL ?_)
 refine kH Hf H3 [(0,.mp b),(6,svo),(9,av (bq m s)),(10,.bool true),(12,aE c),(13,.int .i64 c.length),(14,.int .i64 k)] hfz ⟨.inl rfl,.inl rfl,.inr hsn,.inl rfl,.inl rfl,.inl rfl,.inl rfl,trivial⟩ ?_
 (have zz:=aI @aF @ay; repeat' (first|apply a_n|refine zO ?_|refine vY ?_|refine blY ?_|refine cFY ?_|fail)) <;> (try clear zz)
 refine jk rfl ev0 (hrow.same fun B hB=>?_) ev0 ec rfl rfl Nat.one_pos (by omega) (by omega) ?_
 ·have:=hbd B hB; rw [ag (by omega)]; exact hsm B (by omega)
 rintro s3 H4 nx4 hr4 i1 i2 i3 i4
 (have zz:=and_self; repeat' (first|apply a_n|refine zO ?_|refine vY ?_|fail)) <;> (try clear zz)
 refine ⟨(s3,k + 1),by dsimp only; omega,⟨by dsimp only; omega,fun y hy=>?_,by omega,?_,fun B hB=>?_,hzz ht⟩,ag0⟩
 ·rw [i3 y (by omega) (fun h=>by have:=hbd y h; omega),ag (by omega),hsm y (by omega)]; exact h2 y hy
 ·dsimp only
  rw [e1,List.map_append]; exact hr4
 ·rcases i4 B hB with h | h
  ·have:=hbd B h; omega
  ·omega
theorem Ah (v:Vtx) (t:Spx) (ht:Shn t):Pure Tryz.prog 45 [bk v,.iptr [av t] 0] (.bool (!decide (v ∈ t))):=by
 refine Pure.of_c2 follows Ax (Nat.le_of_ble_eq_true rfl) ?_
 simp only [b45,cO,cG,cN,cM,cD,cF,cB,au,aK]
 have h:=so t v ht
 (have zz:=and_self; repeat' (first|refine zW ?_|apply a_n|refine zO ?_|refine vZ ?_|refine cZ ?_ (hp:=h) (hs:=by (first | refine ac ?_ rfl | apply ae); (repeat' (first | exact aa | apply aj | apply af | exact az _ | exact bK _)); first | done | fail)|refine bxZ ?_|refine ai rfl ?_|refine r1Z ?_|fail)) <;> (try clear zz)
 exact .bool _
theorem CJ (s t:Spx) (hs:Shn s) (ht:Shn t):Pure Tryz.prog 43 [av s,av t] (.bool (cz s t)):=by
 refine Pure.of_c2 follows AR (Nat.le_of_ble_eq_true rfl) ?_
 simp only [b43,cO,cG,cN,cM,cD,cF,cB,au,aK]
 have h:=qr s (fun v=>!decide (v ∈ t)) 45 [.iptr [av t] 0] (DatL.cons (Dat.iptr (DatL.cons (az _) DatL.nil)) DatL.nil) (fun v _=>Ah v t ht) hs
 (have zz:=aI @aF @ay; repeat' (first|refine zW ?_|apply a_n|refine zO ?_|refine vZ ?_|refine bxZ ?_|fail)) <;> (try clear zz)
 refine ci ev0 ev0 h (ac (an (az _ _) (an (i9 (an (gn rfl rfl (an (az _ _) aa)) aa)) aa)) rfl) ?_
 (have zz:=and_self; repeat' (first|apply a_n|refine zO ?_|refine vZ ?_|refine ai rfl ?_|refine r1Z ?_|fail)) <;> (try clear zz)
 exact br uA
theorem zN (s t:Spx) (hs:Shn s) (ht:Shn t):Pure Tryz.prog 49 [av t,.iptr [.func 43 []] 0,.iptr [av s] 0] (.bool (cz s t)):=by
 refine Pure.of_c2 follows B9 (Nat.le_of_ble_eq_true rfl) ?_
 simp only [b49,cO,cG,cN,cM,cD,cF,cB,au,aK]
 have h:=CJ s t hs ht
 (have zz:=and_self; repeat' (first|refine zW ?_|apply a_n|refine zO ?_|refine vZ ?_|refine cZ ?_ (hp:=h) (hs:=by (first | refine ac ?_ rfl | apply ae); (repeat' (first | exact aa | apply aj | apply af | exact az _)); first | done | fail)|refine ai rfl ?_|refine r1Z ?_|fail)) <;> (try clear zz)
 exact .bool _
theorem AO (b:List Spx) (s:Spx) (hb:Shn b) (hbs:∀ t ∈ b,Shn t) (hs:Shn s):Pure Tryz.prog 48 [av s,.iptr [aE b] 0,.iptr [.func 43 []] 0] (.bool (!b.any fun t=>cz s t)):=by
 refine Pure.of_c2 follows CM (Nat.le_of_ble_eq_true rfl) ?_
 simp only [b48,cO,cG,cN,cM,cD,cF,cB,au,aK]
 have h:=kw b (fun t=>cz s t) 49 [.iptr [.func 43 []] 0,.iptr [av s] 0] (DatL.cons (Dat.iptr (DatL.cons (Dat.func DatL.nil) DatL.nil)) (DatL.cons (Dat.iptr (DatL.cons (az _) DatL.nil)) DatL.nil)) (fun t ht=>zN s t hs (hbs t ht)) hb
 (have zz:=aI @aF @ay; repeat' (first|refine zW ?_|apply a_n|refine zO ?_|refine vZ ?_|refine bxZ ?_|fail)) <;> (try clear zz)
 refine ci ev0 ev0 h (ac (an (bh _ _) (an (i9 (an (Dat.iptr (DatL.cons (Dat.func DatL.nil) DatL.nil) _) (an (gn rfl rfl (an (az _ _) aa)) aa))) aa)) rfl) ?_
 (have zz:=and_self; repeat' (first|apply a_n|refine zO ?_|refine vZ ?_|refine ai rfl ?_|refine r1Z ?_|fail)) <;> (try clear zz)
 exact .bool _
set_option maxHeartbeats 2000000 in
theorem pV (m:MapV) (a b:List Spx) (hm:ShM m) (ha:Shn a) (has:∀ s ∈ a,Shn s) (hb:Shn b) (hbs:∀ s ∈ b,Shn s):Pure Tryz.prog 12 [iM m,ez a,ez b] (.tup [.bool (dK m a b).1,.int .i64 (dK m a b).2]):=by
 refine Pure.of_c2 follows Cc (Nat.le_of_ble_eq_true rfl) ?_
 simp only [b12,cO,cG,cN,cM,cD,cF,cB,au,aK]
 have hca:=gz a ha has
 have hcb:=gz b hb hbs
 unfold dK
 (have zz:=aI @aF (aI @ay (aI @aD @ar)); repeat' (first|refine zW ?_|apply a_n|refine zO ?_|refine vZ ?_|refine bxZ ?_|fail)) <;> (try clear zz)
 refine aA ev0 ev0 (qb m hm _ _) ?_
 rintro _ H1 nx1 ⟨hsm,hle,h⟩
 rcases h with ⟨he,B,rfl,hB1,hB2,hB3⟩ | ⟨he,rfl⟩
 rotate_left
 ·rw [if_pos he]
  have z:decide (cb m ≠ 0)=true:=decide_eq_true he
  (have zz:=@z; repeat' (first|refine zW ?_|apply a_n|apply a_r|refine zO ?_|refine vY ?_|refine cTY ?_|refine ai rfl ?_|refine r2Y ?_|fail)) <;> (try clear zz)
  exact nM rfl rfl
 rw [if_neg (fun h=>h he)]
 obtain ⟨q1,q2,q3,q4,q5⟩:=fZ he
 have g1:H1 1=some [aE a]:=hsm 1 (by omega)
 have g2:H1 2=some [aE b]:=hsm 2 (by omega)
 have z0:decide ((0:Int) ≠ 0)=false:=rfl
 (have zz:=aI @g1 (aI @g2 @z0); repeat' (first|apply a_n|refine zO ?_|refine vY ?_|fail)) <;> (try clear zz)
 refine eL (eL ?_)
 (have zz:=aI @g1 (aI @g2 @z0); repeat' (first|apply a_n|refine zO ?_|refine vY ?_|refine cFY ?_|fail)) <;> (try clear zz)
 by_cases hea:aO a=0
 rotate_left
 ·rw [if_pos hea]
  have z:decide (aO a ≠ 0)=true:=decide_eq_true hea
  (have zz:=aI @g1 (aI @g2 (aI @aD @ar)); repeat' (first|refine zW ?_|apply a_n|refine zO ?_|refine vY ?_|refine blY ?_|fail)) <;> (try clear zz)
  refine aR (X:=Nat) (fun k=>[(4,.ptr 1 1 0),(26,.msl nx1 2 1 0 2),(27,.int .i64 2),(28,.int .i64 k)]) (fun k H nx=>k=0∧H nx1=some [aE a,aE b]) (fun _=>0) 0 ⟨rfl,ah⟩ (by (iterate 4 refine And.intro rfl ?_); trivial) ?_
  rintro k H nx ⟨rfl,g⟩
  (have zz:=aI @g (aI @z (aI @Nat.zero_mul (aI @aD @ar))); repeat' (first|refine zW ?_|apply a_n|apply a_r|refine zO ?_|refine vY ?_|refine cY ?_ (hp:=hca) (hs:=by (first | refine ac ?_ rfl | apply ae); (repeat' (first | exact aa | apply aj | apply af | exact bi _)); first | done | fail)|refine alY ?_|refine stY ?_|refine cTY ?_|(refine zGY ?_ ?_ <;> (intro _hg; try (exfalso; omega)))|refine ai rfl ?_|refine r2Y ?_|fail)) <;> (try clear zz)
  exact nM rfl rfl
 rw [if_neg (fun h=>h hea)]
 rw [hea] at hca
 by_cases heb:aO b=0
 rotate_left
 ·rw [if_pos heb]
  have z:decide (aO b ≠ 0)=true:=decide_eq_true heb
  (have zz:=aI @g1 (aI @g2 (aI @aD @ar)); repeat' (first|refine zW ?_|apply a_n|refine zO ?_|refine vY ?_|refine blY ?_|fail)) <;> (try clear zz)
  refine aR (X:=Nat) (fun k=>[(26,.msl nx1 2 1 0 2),(27,.int .i64 2),(28,.int .i64 k)]) (fun k H nx=>k ≤ 1∧H nx1=some [aE a,aE b]∧nx1 < nx) (fun k=>2 - k) 0 ⟨by omega,ah,by omega⟩ (by (iterate 3 refine And.intro rfl ?_); trivial) ?_
  rintro k H nx ⟨hk,g,hnx⟩
  rcases (by omega:k=0 ∨ k=1) with rfl | rfl
  ·(have zz:=aI @g (aI @z0 (aI @Nat.zero_mul (aI @aD @ar))); repeat' (first|refine zW ?_|apply a_n|refine zO ?_|refine vY ?_|refine cY ?_ (hp:=hca) (hs:=by (first | refine ac ?_ rfl | apply ae); (repeat' (first | exact aa | apply aj | apply af | exact bi _)); first | done | fail)|refine alY ?_|refine stY ?_|refine cFY ?_|(refine zGY ?_ ?_ <;> (intro _hg; try (exfalso; omega)))|fail)) <;> (try clear zz)
   exact ⟨1,by omega,⟨by omega,by (repeat rw [ag (by omega)]); exact g,by omega⟩,by (iterate 3 refine And.intro rfl ?_); trivial⟩
  ·(have zz:=aI @g (aI @z (aI @Nat.one_mul (aI @aD @ar))); repeat' (first|refine zW ?_|apply a_n|apply a_r|refine zO ?_|refine vY ?_|refine cY ?_ (hp:=hcb) (hs:=by (first | refine ac ?_ rfl | apply ae); (repeat' (first | exact aa | apply aj | apply af | exact bi _)); first | done | fail)|refine alY ?_|refine stY ?_|refine cTY ?_|(refine zGY ?_ ?_ <;> (intro _hg; try (exfalso; omega)))|refine ai rfl ?_|refine r2Y ?_|fail)) <;> (try clear zz)
   exact nM rfl rfl
 rw [if_neg (fun h=>h heb)]
 rw [heb] at hcb
 obtain ⟨a1,a2,a3,a4⟩:=cr hea
 refine aU (fun T H nx=>T 4=.ptr 1 1 0∧T 5=.ptr 2 1 0∧T 8=.mp B∧H 1=some [aE a]∧H 2=some [aE b]∧H B=some [.omap (m.fr.map bk) (m.to.map bk)]∧B < nx∧3 ≤ nx) ?_ ?_
 ·(have zz:=aI @g1 (aI @g2 (aI @aD @ar)); repeat' (first|refine zW ?_|apply a_n|refine zO ?_|refine vY ?_|refine blY ?_|fail)) <;> (try clear zz)
  refine aR (X:=Nat) (fun k=>[(4,.ptr 1 1 0),(5,.ptr 2 1 0),(8,.mp B),(26,.msl nx1 2 1 0 2),(27,.int .i64 2),(28,.int .i64 k)]) (fun k H nx=>k ≤ 2∧H nx1=some [aE a,aE b]∧nx1 < nx∧H 1=some [aE a]∧H 2=some [aE b]∧H B=some [.omap (m.fr.map bk) (m.to.map bk)]) (fun k=>2 - k) 0 ⟨by omega,ah,by omega,by rw [ag (by omega)]; exact g1,by rw [ag (by omega)]; exact g2,by rw [ag (by omega)]; exact hB3⟩ (by (iterate 6 refine And.intro rfl ?_); trivial) ?_
  rintro k H nx ⟨hk,g,hnx,g1,g2,g3⟩
  rcases (by omega:k=0 ∨ k=1 ∨ k=2) with rfl | rfl | rfl
  ·(have zz:=aI @g (aI @z0 (aI @Nat.zero_mul (aI @aD @ar))); repeat' (first|refine zW ?_|apply a_n|refine zO ?_|refine vY ?_|refine cY ?_ (hp:=hca) (hs:=by (first | refine ac ?_ rfl | apply ae); (repeat' (first | exact aa | apply aj | apply af | exact bi _)); first | done | fail)|refine alY ?_|refine stY ?_|refine cFY ?_|(refine zGY ?_ ?_ <;> (intro _hg; try (exfalso; omega)))|fail)) <;> (try clear zz)
   exact ⟨1,by omega,⟨by omega,by (repeat rw [ag (by omega)]); exact g,by omega,by (repeat rw [ag (by omega)]); exact g1,by (repeat rw [ag (by omega)]); exact g2,by (repeat rw [ag (by omega)]); exact g3⟩,by (iterate 6 refine And.intro rfl ?_); trivial⟩
  ·(have zz:=aI @g (aI @z0 (aI @Nat.one_mul (aI @aD @ar))); repeat' (first|refine zW ?_|apply a_n|refine zO ?_|refine vY ?_|refine cY ?_ (hp:=hcb) (hs:=by (first | refine ac ?_ rfl | apply ae); (repeat' (first | exact aa | apply aj | apply af | exact bi _)); first | done | fail)|refine alY ?_|refine stY ?_|refine cFY ?_|(refine zGY ?_ ?_ <;> (intro _hg; try (exfalso; omega)))|fail)) <;> (try clear zz)
   exact ⟨2,by omega,⟨by omega,by (repeat rw [ag (by omega)]); exact g,by omega,by (repeat rw [ag (by omega)]); exact g1,by (repeat rw [ag (by omega)]); exact g2,by (repeat rw [ag (by omega)]); exact g3⟩,by (iterate 6 refine And.intro rfl ?_); trivial⟩
  ·(have zz:=and_self; repeat' (first|refine zW ?_|apply a_n|apply a_x|refine zO ?_|refine vY ?_|(refine zGY ?_ ?_ <;> (intro _hg; try (exfalso; omega)))|fail)) <;> (try clear zz)
   exact ⟨rfl,rfl,rfl,g1,g2,g3,by omega,by omega⟩
 clear g1 g2 hB3 hsm
 rintro T H nx ⟨t4,t5,t8,g1,g2,g3,hBn,hnx⟩
 (have zz:=aI @t4 (aI @t5 (aI @t8 @g1)); repeat' (first|refine zW ?_|apply a_n|refine zO ?_|refine vY ?_|fail)) <;> (try clear zz)
 refine aA ev0 (have zz:=@t8; evZ) (sg m a q2 (by omega) (fun s hs=>by obtain ⟨p1,p2,p3,p4⟩:=cm (a2 s hs); exact ⟨by omega,fun e=>by rw [e] at p1; simp at p1⟩) B H nx g3 hBn) ?_
 rintro _ H3 nx3 ⟨hle3,hsm3,h⟩
 rcases h with ⟨ht,rfl⟩ | ⟨ht,sv,rfl,hrow,hbd⟩
 ·rw [if_pos ht]
  (have zz:=and_self; repeat' (first|refine zW ?_|apply a_n|apply a_r|refine zO ?_|refine vY ?_|refine cTY ?_|refine ai rfl ?_|refine r2Y ?_|fail)) <;> (try clear zz)
  exact nM rfl rfl
 rw [if_neg (by rw [ht]; decide)]
 have g2':H3 2=some [aE b]:=(hsm3 2 (by omega)).trans g2
 have hcs:=kw (a.map (bq m)) (fun s=>!b.any fun t=>cz s t) 48 [.iptr [aE b] 0,.iptr [.func 43 []] 0] (DatL.cons (Dat.iptr (DatL.cons (bh _) DatL.nil)) (DatL.cons (Dat.iptr (DatL.cons (Dat.func DatL.nil) DatL.nil)) DatL.nil)) (fun s hs=>by
  obtain ⟨s0,hs0,rfl⟩:=List.mem_map.1 hs
  refine AO b _ hb hbs ?_
  obtain ⟨p1,p2,p3,p4⟩:=cm (a2 s0 hs0)
  have:=iB (K:=bB) (l:=s0.map (dA m))
  rw [List.length_map] at this
  show (bq m s0).length ≤ _
  unfold bq; omega) (by show _ ≤ _; rw [List.length_map]; omega)
 (have zz:=@t5; repeat' (first|refine zW ?_|apply a_n|refine zO ?_|refine vY ?_|refine alY ?_|refine stY ?_|refine cFY ?_|fail)) <;> (try clear zz)
 refine ci ev0 (have zz:=@t5; evZ) hcs (ac (an (iW (hrow.same fun B hB=>by have:=hbd B hB; (repeat rw [ag (by omega)]))) (an (i9 (an (gn (by (repeat rw [ag (by omega)]); exact g2') rfl (an (bh _ _) aa)) (an (gn (by rw [ah]; rfl) rfl (an (Dat.func DatL.nil _) aa)) aa))) aa)) rfl) ?_
 (have zz:=and_self; repeat' (first|apply a_n|refine zO ?_|refine vY ?_|refine ai rfl ?_|refine r2Y ?_|fail)) <;> (try clear zz)
 exact nM uA rfl
end Go.Proofs.YtbgdcebmgjafjaaGreat
namespace Go.Proofs.YtbgdcebmgjafjaaGreat
open Go Go.Abs
theorem nC {c:List Spx}:fL c=true ↔ c.length ≤ 30∧∀ s ∈ c,s.length ≤ 10:=by
 unfold fL
 rw [Bool.and_eq_true,decide_eq_true_iff,List.all_eq_true]
 simp only [decide_eq_true_iff]
attribute [local irreducible] aG al a9 aW aN aP aC aQ aZ bt Go.Abs.Fn aV Go.Abs.Pure ax aL Yl
end Go.Proofs.YtbgdcebmgjafjaaGreat
namespace Go.Proofs.YtbgdcebmgjafjaaGreat
open Go Go.Abs
def bU:Spx→Nat→List Spx
 | _,0=>[[]]
 | [],_ + 1=>[]
 | x :: l,k + 1=>(bU l k).map (x :: ·) ++ bU l (k + 1)
theorem ql {l:Spx}:bU l 0=[[]]:=by cases l <;> rfl
theorem rN {k:Nat}:bU [] (k + 1)=[]:=rfl
theorem lC {x:Vtx} {l:Spx} {k:Nat}:bU (x :: l) (k + 1)=(bU l k).map (x :: ·) ++ bU l (k + 1):=rfl
theorem cW:∀ {l:Spx} {k:Nat} {s:Spx},s ∈ bU l k ↔ s.Sublist l∧s.length=k
 | l,0,s=>by
  rw [ql,List.mem_singleton]
  exact ⟨fun h=>by subst h; exact ⟨List.nil_sublist _,rfl⟩,fun h=>List.length_eq_zero_iff.1 h.2⟩
 | [],k + 1,s=>by
  rw [rN]
  refine ⟨fun h=>(by cases h),fun ⟨h1,h2⟩=>?_⟩
  rw [List.sublist_nil] at h1
  subst h1; simp at h2
 | x :: l,k + 1,s=>by
  rw [lC,List.mem_append,List.mem_map,cW]
  constructor
  ·rintro (⟨t,ht,rfl⟩ | ⟨h1,h2⟩)
   ·have:=cW.1 ht
    exact ⟨this.1.cons_cons x,by simp [this.2]⟩
   ·exact ⟨h1.cons x,h2⟩
  ·rintro ⟨h1,h2⟩
   cases h1 with
   | cons _ h=>exact .inr ⟨h,h2⟩
   | cons_cons _ h=>exact .inl ⟨_,cW.2 ⟨h,by simpa using h2⟩,rfl⟩
theorem tB {l:Spx} {k:Nat} (h:l.length < k):bU l k=[]:=by
 cases e:bU l k with
 | nil=>rfl
 | cons a r =>
  have:=cW.1 (show a ∈ bU l k by rw [e]; exact List.mem_cons_self)
  have:=this.1.length_le
  omega
def chK:Nat→Nat→Nat
 | _,0=>1
 | 0,_ + 1=>0
 | n + 1,k + 1=>chK n k + chK n (k + 1)
theorem A4 {n:Nat}:chK n 0=1:=by cases n <;> rfl
theorem oI:∀ {l:Spx} {k:Nat},(bU l k).length=chK l.length k
 | l,0=>by rw [ql,A4]; rfl
 | [],k + 1=>rfl
 | x :: l,k + 1=>by
  rw [lC,List.length_append,List.length_map,oI,oI]; rfl
theorem zt {n k:Nat} (hn:n ≤ 8):chK n k ≤ 70:=by
 by_cases hk:k ≤ 8
 ·have:∀ n,n < 9→∀ k,k < 9→chK n k ≤ 70:=by decide
  exact this n (by omega) k (by omega)
 ·have:∀ n k,n < k→chK n k=0:=by
    intro n
    induction n with
    | zero=>intro k h; match k,h with | k + 1,_=>rfl
    | succ n ih=>intro k h; match k,h with | k + 1,h=>show chK n k + chK n (k + 1)=0; rw [ih k (by omega),ih (k + 1) (by omega)]
  rw [this n k (by omega)]; omega
theorem ug {l:Spx} {k:Nat} (h:l.length ≤ 8):(bU l k).length ≤ 70:=by rw [oI]; exact zt h
theorem uN {l:Spx} {i k:Nat} (hi:i < l.length):bU (l.drop i) (k + 1)=(bU (l.drop (i + 1)) k).map (l.getD i default :: ·) ++ bU (l.drop (i + 1)) (k + 1):=by
 rw [List.drop_eq_getElem_cons hi,lC]
 simp [List.getD,hi]
end Go.Proofs.YtbgdcebmgjafjaaGreat
namespace Go.Proofs.YtbgdcebmgjafjaaGreat
open Go Go.Abs
open Nat (reduceEqDiff reduceAdd reduceLeDiff)
attribute [local irreducible] aG al a9 aW aN aP aC aQ aZ bt Go.Abs.Fn aV Go.Abs.Pure ax aL Yl
theorem wt (s:AV) (l:Spx) (hl:l.length ≤ 1000000) (h0:l ≠ []) (H:Hp) (nx:Nat) (hn:ey s=some l.length) (hs:∀ H',(∀ x,x < nx→H' x=H x)→cU 2 H' s=some (l.length,cX l)):Abs.Fn Tryz.prog 31 [s] H nx fun r H' nx'=>r=.msl nx (l.length * 2) 2 0 l.length∧H'=ak H nx (cX l)∧nx'=nx + 1:=by
 have hpos:=List.length_pos_iff.2 h0
 refine Abs.Fn.of_c2 follows Ae (Nat.le_of_ble_eq_true rfl) ?_
 simp only [b31,cO,cG,cN,cM,cD,cF,cB,au,aK]
 (have zz:=and_self; repeat' (first|refine zW ?_|apply a_n|refine zO ?_|refine vY ?_|fail)) <;> (try clear zz)
 refine sI (k:=l.length) (by ((try simp only [bS,ZA,reduceEqDiff,↓reduceIte,reduceAdd,reduceLeDiff]); (try with_reducible rfl)); exact hn) (fun h=>?_) (fun h=>by omega) (fun h=>by omega)
 (have zz:=and_self; repeat' (first|refine zW ?_|apply a_n|refine zO ?_|refine vY ?_|refine b0Y ?_|refine cFY ?_|fail)) <;> (try clear zz)
 refine lj rfl ev0 ev0 (hs _ fun x _=>rfl) (mt _) (by omega) (by omega) ?_
 (have zz:=and_self; repeat' (first|apply a_n|refine zO ?_|refine vY ?_|refine ai rfl ?_|refine r1Y ?_|fail)) <;> (try clear zz)
 exact ⟨rfl,rfl,rfl⟩
theorem Aj {y lo kb sb k N:Nat} {s:Spx} (hs:s.length ≤ 1000) (hk:k ≤ 1000) (I:List Spx→Hp→Nat→Prop)
    (hp:∀ S H nx,I S H nx→H kb=some [.int .i64 k]∧H sb=some [av s]∧lo + 3 ≤ nx∧kb < lo∧sb < lo)
    (stab:∀ S H H' nx nx',I S H nx→nx ≤ nx'→(∀ i,i < nx→¬ (lo ≤ i∧i < lo + 3)→H' i=H i)→I S H' nx')
    (rnd:∀ S f H nx,I S H nx→f.length=k→f ≠ []→S.length < N→Yl Tryz.prog y [.msl nx (k * 2) 2 0 k] (ak H nx (cX f)) (nx + 1) fun r H' nx'=>r=.bool true∧I (S ++ [f]) H' nx'∧nx ≤ nx'∧∀ i,lo ≤ i→i < lo + 3→H' i=H i) :
    ∀ (j:Nat) (ch:Spx) (at_:Nat) (S:List Spx) (H:Hp) (nx:Nat),0 < k→ch.length + j=k→S.length + (bU (s.drop at_) j).length ≤ N→at_ ≤ s.length→I S H nx→H lo=some [.yld y]→H (lo + 1)=some [.func 114 [.ptr kb 1 0,.ptr lo 1 0,.ptr sb 1 0,.ptr (lo + 1) 1 0]]→(∃ C,H (lo + 2)=some C∧C.length=k * 2∧C.take (ch.length * 2)=cX ch) →
     Abs.Fn Tryz.prog 114 [.int .i64 at_,.msl (lo + 2) (k * 2) 2 0 ch.length,.ptr kb 1 0,.ptr lo 1 0,.ptr sb 1 0,.ptr (lo + 1) 1 0] H nx fun r H' nx'=>r=.bool true∧I (S ++ (bU (s.drop at_) j).map (ch ++ ·)) H' nx'∧nx ≤ nx'∧H' lo=H lo∧H' (lo + 1)=H (lo + 1)∧∃ C,H' (lo + 2)=some C∧C.length=k * 2∧C.take (ch.length * 2)=cX ch:=by
 intro j
 induction j with
 | zero =>
  intro ch at_ S H nx hk0 hj hN hat hI h1 h2 ⟨C,h3,hc1,hc2⟩
  obtain ⟨g1,g2,g3,g4,g5⟩:=hp _ _ _ hI
  have hlen:ch.length=k:=by omega
  have hne:ch ≠ []:=fun e=>by rw [e] at hlen; simp at hlen; omega
  obtain rfl:C=cX ch:=by rw [← hc2,List.take_of_length_le (by omega)]
  refine Abs.Fn.of_c2 follows xz (Nat.le_of_ble_eq_true rfl) ?_
  simp only [yh,cO,cG,cN,cM,cD,cF,cB,au,aK]
  have hcl:=wt (.msl (lo + 2) (k * 2) 2 0 k) ch (by omega) hne H nx (by rw [hlen]; rfl) (fun H' hH'=>by rw [hlen]; exact (iP (n:=k * 2) (off:=0) (len:=k) ((hH' (lo + 2) (by omega)).trans h3) hc1 (by omega)).trans (by rw [List.drop_zero,List.take_of_length_le (by omega)]))
  rw [hlen] at hcl
  rw [hlen]
  have z:decide ((k:Int)=k)=true:=decide_eq_true rfl
  (have zz:=aI @g1 (aI @g2 (aI @h1 (aI @h2 @z))); repeat' (first|refine zW ?_|apply a_n|refine zO ?_|refine vY ?_|(refine zGY ?_ ?_ <;> (intro _hg; try (exfalso; omega)))|fail)) <;> (try clear zz)
  refine ny lo h1 fun S0 hS hsub=>?_
  (have zz:=@hS; repeat' (first|apply a_n|refine zO ?_|refine nvY ?_|fail)) <;> (try clear zz)
  refine gL ?_
  refine aA ev0 ev0 hcl ?_
  rintro _ H2 nx2 ⟨rfl,rfl,rfl⟩
  refine nO ⟨hsub _ (by rw [ag (by omega)]; exact h1),?_⟩
  refine jO ?_
  refine uC ev0 ev0 (Yl.mono (rnd S ch H nx hI hlen hne (by rw [ql] at hN; exact hN)) ?_)
  rintro r H3 nx3 ⟨rfl,e1,e2,e3⟩
  (have zz:=and_self; repeat' (first|apply a_n|apply a_r|refine zO ?_|refine nvY ?_|refine ai rfl ?_|refine r1Y ?_|fail)) <;> (try clear zz)
  refine ⟨rfl,?_,e2,e3 _ (by omega) (by omega),e3 _ (by omega) (by omega),cX ch,(e3 _ (by omega) (by omega)).trans h3,hc1,by rw [← hlen]; exact hc2⟩
  rw [ql,List.map_cons,List.map_nil,List.append_nil]
  exact e1
 | succ j ih =>
  intro ch at_ S H nx hk0 hj hN hat hI h1 h2 ⟨C,h3,hc1,hc2⟩
  obtain ⟨g1,g2,g3,g4,g5⟩:=hp _ _ _ hI
  refine Abs.Fn.of_c2 follows xz (Nat.le_of_ble_eq_true rfl) ?_
  simp only [yh,cO,cG,cN,cM,cD,cF,cB,au,aK]
  have z:decide ((ch.length:Int)=k)=false:=decide_eq_false (by omega)
  (have zz:=aI @g1 (aI @g2 (aI @h1 (aI @h2 @z))); repeat' (first|refine zW ?_|apply a_n|refine zO ?_|refine vY ?_|refine cFY ?_|fail)) <;> (try clear zz)
  refine aR (X:=Nat × List Spx) (fun x=>[(1,.msl (lo + 2) (k * 2) 2 0 ch.length),(4,.ptr sb 1 0),(5,.ptr (lo + 1) 1 0),(9,.int .i64 x.1)]) (fun x H' nx'=>x.1 ≤ s.length∧I x.2 H' nx'∧nx ≤ nx'∧H' lo=H lo∧H' (lo + 1)=H (lo + 1)∧(∃ C,H' (lo + 2)=some C∧C.length=k * 2∧C.take (ch.length * 2)=cX ch)∧x.2 ++ (bU (s.drop x.1) (j + 1)).map (ch ++ ·)=S ++ (bU (s.drop at_) (j + 1)).map (ch ++ ·)) (fun x=>s.length - x.1) (at_,S) ⟨hat,hI,Nat.le_refl _,rfl,rfl,⟨C,h3,hc1,hc2⟩,rfl⟩ ag0 ?_
  rintro ⟨i,S1⟩ H1 nx1 ⟨i1,hI1,i2,i3,i4,⟨C1,k3,d1,d2⟩,htot⟩
  dsimp only at i1 hI1 htot ⊢
  obtain ⟨q1,q2,q3,q4,q5⟩:=hp _ _ _ hI1
  have w1:=i3.trans h1
  have w2:=i4.trans h2
  by_cases hi:i < s.length
  rotate_left
  ·(have zz:=aI @q1 (aI @q2 @aw); repeat' (first|refine zW ?_|apply a_n|apply a_x|refine zO ?_|refine vY ?_|(refine zGY ?_ ?_ <;> (intro _hg; try (exfalso; omega)))|refine ai rfl ?_|refine r1Y ?_|fail)) <;> (try clear zz)
   rw [show s.drop i=[] from List.drop_eq_nil_of_le (by omega),rN,List.map_nil,List.append_nil] at htot
   exact ⟨rfl,by rw [← htot]; exact hI1,i2,i3,i4,C1,k3,d1,d2⟩
  have ix:=ix2 hi
  rw [uN hi,List.map_append,List.map_map,← List.append_assoc] at htot
  have hmm:(bU (s.drop (i + 1)) j).map ((fun x=>ch ++ x) ∘ fun x=>s.getD i default :: x)=(bU (s.drop (i + 1)) j).map ((ch ++ [s.getD i default]) ++ ·):=List.map_congr_left fun x _=>by simp
  rw [hmm] at htot
  generalize s.getD i default=v at *
  (have zz:=aI @q1 (aI @q2 @aw); repeat' (first|refine zW ?_|apply a_n|refine zO ?_|refine vY ?_|(refine zGY ?_ ?_ <;> (intro _hg; try (exfalso; omega)))|fail)) <;> (try clear zz)
  refine kQ sb (lo + 1) q2 w2 (by omega) fun S0 hS1 hS2 hsub=>?_
  (have zz:=aI @hS1 (aI @hS2 @ix); repeat' (first|apply a_n|refine zO ?_|refine nvY ?_|fail)) <;> (try clear zz)
  refine gL ?_
  (have zz:=and_self; repeat' (first|apply a_n|refine zO ?_|refine blY ?_|fail)) <;> (try clear zz)
  refine ⟨hsub _ (by rw [ag (by omega)]; exact q2) (by rw [ag (by omega)]; exact w2),?_⟩
  refine gL ?_
  refine xc (b:=lo + 2) (m:=k * 2) (off:=0) (len:=ch.length) (n:=1) rfl ev0 (by rw [ag (by omega)]; exact k3) ev0 lB rfl d1 (fun _=>by omega) (by omega) (by omega) ?_
  refine nO ⟨hsub _ (by rw [ag (by omega),ag (by omega)]; exact q2) (by rw [ag (by omega),ag (by omega)]; exact w2),?_⟩
  refine jO ?_
  have hl1:(ch ++ [v]).length=ch.length + 1:=by simp
  have hcc:=eZ ch
  have hput:(bf C1 (0 + ch.length * 2) [.int .i64 v.color,.int .i64 v.label]).length=k * 2∧(bf C1 (0 + ch.length * 2) [.int .i64 v.color,.int .i64 v.label]).take ((ch.length + 1) * 2)=cX (ch ++ [v]):=by
   rw [Nat.zero_add]
   simp only [bf]
   refine ⟨by simp [d1]; omega,?_⟩
   rw [d2,iX,zl,List.take_append_of_le_length (by simp [hcc]; omega),List.take_of_length_le (by simp [hcc]; omega)]
  have hN1:S1.length + (bU (s.drop (i + 1)) j).length ≤ N:=by
   have:=congrArg List.length htot
   simp only [List.length_append,List.length_map] at this
   omega
  have hih:=ih (ch ++ [v]) (i + 1) S1 (ak (ak H1 nx1 [.int .i64 v.color,.int .i64 v.label]) (lo + 2) (bf C1 (0 + ch.length * 2) [.int .i64 v.color,.int .i64 v.label])) (nx1 + 1) hk0 (by omega) hN1 (by omega) (stab _ _ _ _ _ hI1 (by omega) (fun x hx hn=>by rw [ag (by omega),ag (by omega)])) (by rw [ag (by omega),ag (by omega)]; exact w1) (by rw [ag (by omega),ag (by omega)]; exact w2) ⟨_,ah,hput.1,by rw [hl1]; exact hput.2⟩
  rw [hl1,show ((i + 1:Nat):Int)=(i:Int) + 1 by omega] at hih
  refine aA ev0 ev0 hih ?_
  rintro r H4 nx4 ⟨rfl,f1,f2,f3,f4,C4,f5,f6,f7⟩
  (have zz:=and_self; repeat' (first|apply a_n|refine zO ?_|refine vY ?_|refine nvY ?_|refine cFY ?_|fail)) <;> (try clear zz)
  refine ⟨(i + 1,S1 ++ (bU (s.drop (i + 1)) j).map ((ch ++ [v]) ++ ·)),by dsimp only; omega,⟨by dsimp only; omega,f1,by omega,f3.trans ?_,f4.trans ?_,⟨C4,f5,f6,?_⟩,htot⟩,ag0⟩
  ·rw [ag (by omega),ag (by omega)]; exact i3
  ·rw [ag (by omega),ag (by omega)]; exact i4
  ·have:=congrArg (List.take (ch.length * 2)) f7
   rw [List.take_take,Nat.min_eq_left (by omega),iX,List.take_append_of_le_length (by omega)] at this
   rw [this]
   exact List.take_of_length_le (by omega)
end Go.Proofs.YtbgdcebmgjafjaaGreat
namespace Go.Proofs.YtbgdcebmgjafjaaGreat
open Go Go.Abs
open Nat (reduceEqDiff reduceAdd reduceLeDiff)
attribute [local irreducible] aG al a9 aW aN aP aC aQ aZ bt Go.Abs.Fn aV Go.Abs.Pure ax aL Yl
theorem wK {y kb sb k:Nat} {s:Spx} {H:Hp} {nx:Nat} (hs:s.length ≤ 1000) (hk0:0 < k) (hk:k ≤ 1000) (I:List Spx→Hp→Nat→Prop)
    (hp:∀ S H nx',I S H nx'→H kb=some [.int .i64 k]∧H sb=some [av s]∧nx + 3 ≤ nx'∧kb < nx∧sb < nx)
    (stab:∀ S H H' nx1 nx',I S H nx1→nx1 ≤ nx'→(∀ i,i < nx1→¬ (nx ≤ i∧i < nx + 3)→H' i=H i)→I S H' nx')
    (rnd:∀ S f H nx1,I S H nx1→f.length=k→f ≠ []→S.length < (bU s k).length→Yl Tryz.prog y [.msl nx1 (k * 2) 2 0 k] (ak H nx1 (cX f)) (nx1 + 1) fun r H' nx'=>r=.bool true∧I (S ++ [f]) H' nx'∧nx1 ≤ nx'∧∀ i,nx ≤ i→i < nx + 3→H' i=H i)
    (gk:H kb=some [.int .i64 k]) (lk:kb < nx) (h0:∀ H',(∀ i,i < nx→H' i=H i)→I [] H' (nx + 3)) :
    Abs.Fn Tryz.prog 113 [.yld y,.ptr kb 1 0,.ptr sb 1 0] H nx fun _ H' nx'=>I (bU s k) H' nx':=by
 refine Abs.Fn.of_c2 follows zb (Nat.le_of_ble_eq_true rfl) ?_
 simp only [zu,cO,cG,cN,cM,cD,cF,cB,au,aK]
 (have zz:=@gk; repeat' (first|refine zW ?_|apply a_n|refine zO ?_|refine vY ?_|refine alY ?_|refine bxY ?_|refine stY ?_|fail)) <;> (try clear zz)
 generalize hH:ak (ak (ak H nx [.yld y]) (nx + 1) [.nilf]) (nx + 1) (bf [.nilf] 0 [.func 114 [.ptr kb 1 0,.ptr nx 1 0,.ptr sb 1 0,.ptr (nx + 1) 1 0]])=H1
 have hfn:H1 (nx + 1)=some [.func 114 [.ptr kb 1 0,.ptr nx 1 0,.ptr sb 1 0,.ptr (nx + 1) 1 0]]:=by rw [← hH,ah]; rfl
 have hfk:H1 kb=some [.int .i64 k]:=by rw [← hH,ag (by omega),ag (by omega),ag (by omega)]; exact gk
 have hfy:H1 nx=some [.yld y]:=by rw [← hH,ag (by omega),ag (by omega),ah]
 have hfo:∀ i,i < nx→H1 i=H i:=fun i hi=>by rw [← hH,ag (by omega),ag (by omega),ag (by omega)]
 clear hH
 refine kQ kb (nx + 1) hfk hfn (by omega) fun S0 hS1 hS2 hsub=>?_
 (have zz:=aI @hS1 @hS2; repeat' (first|apply a_n|refine zO ?_|refine nvY ?_|fail)) <;> (try clear zz)
 refine gL ?_
 refine wd (k1:=.i64) (k2:=.i64) (n:=0) (m:=k) rfl ev0 ev0 (Int.le_refl _) (by omega) (by omega) (by omega) ?_
 refine nO ⟨hsub _ (by rw [ag (by omega)]; exact hfk) (by rw [ag (by omega)]; exact hfn),?_⟩
 refine jO ?_
 have hz:(aY (AV.agg [AV.int .i64 0,AV.int .i64 0]) k).length=k * 2:=by simp [aY,AV.cells]
 have hih:=Aj (y:=y) (N:=(bU s k).length) (lo:=nx) (kb:=kb) (sb:=sb) (k:=k) (s:=s) hs hk I hp stab rnd k [] 0 [] (ak H1 (nx + 2) (aY (AV.agg [AV.int .i64 0,AV.int .i64 0]) k)) (nx + 3) hk0 (by simp) (by simp) (Nat.zero_le _) (h0 _ (fun i hi=>by rw [ag (by omega)]; exact hfo i hi)) (by rw [ag (by omega)]; exact hfy) (by rw [ag (by omega)]; exact hfn) ⟨_,ah,hz,rfl⟩
 refine aA ev0 (by ((try simp only [bS,ZA,reduceEqDiff,↓reduceIte,reduceAdd,reduceLeDiff]); (try with_reducible rfl)); rfl) hih ?_
 rintro r H4 nx4 ⟨rfl,f1,-⟩
 (have zz:=and_self; repeat' (first|apply a_n|refine zO ?_|apply yK|refine ai rfl ?_|fail)) <;> (try clear zz)
 rw [List.drop_zero,List.nil_append,show (fun x:Spx=>([]:Spx) ++ x)=id from rfl,List.map_id] at f1
 exact f1
theorem rZ {kb sb k:Nat} {s:Spx} {H:Hp} {nx:Nat} (hs:s.length ≤ 8) (hk0:0 < k) (hk:k ≤ 1000) (gk:H kb=some [.int .i64 k]) (gs:H sb=some [av s]) (lk:kb < nx) (ls:sb < nx) :
    Abs.Fn Tryz.prog 112 [.esl,.func 113 [.ptr kb 1 0,.ptr sb 1 0]] H nx fun r H' nx'=>Row H' 1 r ((bU s k).map av)∧nx ≤ nx'∧∀ b',di r=some b'→nx ≤ b'∧b' < nx':=by
 refine Abs.Fn.of_c2 follows yQ (Nat.le_of_ble_eq_true rfl) ?_
 simp only [zG,cO,cG,cN,cM,cD,cF,cB,au,aK]
 (have zz:=and_self; repeat' (first|refine zW ?_|apply a_n|refine zO ?_|refine vY ?_|refine bxY ?_|fail)) <;> (try clear zz)
 refine pg (nx + 1) (nx + 2) rfl rfl ev0 (fun c0 cj hy=>?_)
 refine Abs.Fn.mono (wK (nx:=nx + 2) (kb:=kb) (sb:=sb) (k:=k) (s:=s) (by omega) hk0 hk (fun S H' nx'=>nx + 5 ≤ nx'∧H' kb=some [.int .i64 k]∧H' sb=some [av s]∧H' (nx + 1)=some [c0]∧∃ sv,H' nx=some [sv]∧Row H' 1 sv (S.map av)∧∀ b',di sv=some b'→nx + 5 ≤ b'∧b' < nx') ?_ ?_ ?_ ?_ ?_ ?_) ?_
 ·rintro S H' nx' ⟨h1,h2,h3,h4,h5⟩
  exact ⟨h2,h3,by omega,by omega,by omega⟩
 ·rintro S H1 H2 a c ⟨h1,h2,h3,h4,sv,h5,h6,h7⟩ hac hs'
  refine ⟨by omega,(hs' _ (by omega) (by omega)).trans h2,(hs' _ (by omega) (by omega)).trans h3,(hs' _ (by omega) (by omega)).trans h4,sv,(hs' _ (by omega) (by omega)).trans h5,h6.same (fun b' hb'=>hs' _ (h7 b' hb').2 (by have:=h7 b' hb'; omega)),fun b' hb'=>⟨(h7 b' hb').1,by have:=h7 b' hb'; omega⟩⟩
 ·rintro S f H' nx' ⟨h1,h2,h3,h4,sv,h5,h6,h7⟩ hfl hf0 hSN
  have h4':ak H' nx' (cX f) (nx + 1)=some [c0]:=by rw [ag (by omega)]; exact h4
  refine hy _ _ _ _ h4' rfl ?_
  clear hy
  (have zz:=and_self; repeat' (first|apply a_n|refine zO ?_|refine vZ ?_|fail)) <;> (try clear zz)
  refine ⟨h4',?_⟩
  have hS70:=Nat.lt_of_lt_of_le hSN (ug (k:=k) hs)
  have hd:bL (ak H' nx' (cX f)) (nx + 1) nx'=some (cX f):=by rw [eI (by omega),ah]
  have hdo:∀ x,x < nx'→x ≠ nx + 1→bL (ak H' nx' (cX f)) (nx + 1) x=H' x:=fun x a b=>by rw [eI b,ag (by omega)]
  generalize bL (ak H' nx' (cX f)) (nx + 1)=H1 at *
  refine dE ?_
  refine kH (only nx' (cX f)) (bL H1 nx') [(2,.ptr nx 1 0),(5,av f)] (Fz.one hd) ⟨.inl rfl,.inr (xR (s:=.msl nx' (k * 2) 2 0 k) (by rw [← hfl]; exact Row.box nx' f.length (cX f) kA (eZ f))),trivial⟩ ?_
  have he:∀ x,x < nx'→x ≠ nx + 1→bL H1 nx' x=H' x:=fun x a b=>by rw [eI (by omega)]; exact hdo x a b
  have g5:bL H1 nx' nx=some [sv]:=(he nx (by omega) (by omega)).trans h5
  clear hd hdo
  generalize bL H1 nx'=H2 at *
  (have zz:=aI @g5 (aI @aF @ay); repeat' (first|apply a_n|refine zO ?_|refine vY ?_|refine blY ?_|fail)) <;> (try clear zz)
  refine jk rfl ev0 (h6.same fun b' hb'=>?_) ev0 ec rfl rfl Nat.one_pos (by rw [List.length_map]; omega) (by rw [List.length_map]; omega) ?_
  ·have:=h7 b' hb'
   rw [ag (by omega)]; exact he _ (by omega) (by omega)
  rintro sv' H3 nx3 r1 r2 r3 r4 r5
  have zs:∀ x,x < nx + 5→di sv ≠ some x:=fun x hx e=>by have:=h7 x e; omega
  have z:∀ x,x < nx'→x ≠ nx + 1→di sv ≠ some x→H3 x=H' x:=fun x a1 a2 a3=>(r4 x (by omega) a3).trans (by rw [ag (by omega)]; exact he x a1 a2)
  have g6:H3 nx=some [sv]:=(z nx (by omega) (by omega) (zs _ (by omega))).trans h5
  obtain ⟨q1,q2⟩:=r1.one
  (have zz:=aI @g6 (aI @q1 @q2); repeat' (first|apply a_n|refine zO ?_|refine stY ?_|fail)) <;> (try clear zz)
  have w:∀ x,x ≠ nx→x ≠ nx + 1→ak (ak H3 nx (bf [sv] 0 [sv'])) (nx + 1) [c0] x=H3 x:=fun x a1 a2=>by rw [ag a2,ag a1]
  have u7:∀ b',di sv'=some b'→nx + 5 ≤ b'∧b' < nx3:=fun b' hb'=>by
   rcases r5 b' hb' with e | ⟨e1,e2⟩
   ·have:=h7 b' e; omega
   ·omega
  refine ⟨rfl,⟨by omega,?_,?_,ah,sv',?_,?_,u7⟩,by omega,fun x x1 x2=>?_⟩
  ·rw [w _ (by omega) (by omega),z _ (by omega) (by omega) (zs _ (by omega)),h2]
  ·rw [w _ (by omega) (by omega),z _ (by omega) (by omega) (zs _ (by omega)),h3]
  ·rw [ag (by omega),ah]; rfl
  ·rw [List.map_append]
   exact r1.same (fun b' hb'=>w b' (by have:=u7 b' hb'; omega) (by have:=u7 b' hb'; omega))
  ·rw [w _ (by omega) (by omega),z _ (by omega) (by omega) (zs _ (by omega))]
 ·rw [ag (by omega),ag (by omega)]; exact gk
 ·omega
 ·intro H' hH'
  refine ⟨by omega,?_,?_,?_,.esl,?_,.nil,fun b' hb'=>(by cases hb')⟩
  ·rw [hH' _ (by omega),ag (by omega),ag (by omega),gk]
  ·rw [hH' _ (by omega),ag (by omega),ag (by omega),gs]
  ·rw [hH' _ (by omega),ah]
  ·rw [hH' _ (by omega),ag (by omega),ah]
 ·rintro r H' nx' ⟨h1,h2,h3,h4,sv,h5,h6,h7⟩
  refine .inl ⟨h4,?_⟩
  (have zz:=@h5; repeat' (first|refine zW ?_|apply a_n|refine zO ?_|refine vY ?_|refine ai rfl ?_|refine r1Y ?_|fail)) <;> (try clear zz)
  exact ⟨h6.same (fun b' hb'=>eI (by have:=h7 b' hb'; omega)),by omega,fun b' hb'=>by have:=h7 b' hb'; omega⟩
end Go.Proofs.YtbgdcebmgjafjaaGreat
namespace Go.Proofs.YtbgdcebmgjafjaaGreat
open Go Go.Abs
def dp (l:List Spx):List Spx:=(eY bA l).filter fun s=>!bx (eY bA l) s
theorem iR {l:List Spx} {s:Spx}:s ∈ dp l ↔ s ∈ l∧bx l s=false:=by
 unfold dp
 rw [List.mem_filter,eh]
 refine and_congr_right fun _=>?_
 cases h:bx l s
 ·refine ⟨fun _=>rfl,fun _=>?_⟩
  cases h2:bx (eY bA l) s
  ·rfl
  ·obtain ⟨t,t1,t2⟩:=bE.1 h2
   rw [bE.2 ⟨t,eh.1 t1,t2⟩] at h; cases h
 ·refine ⟨fun h2=>?_,fun h2=>by cases h2⟩
  obtain ⟨t,t1,t2⟩:=bE.1 h
  rw [bE.2 ⟨t,eh.2 t1,t2⟩] at h2; cases h2
theorem mY {l:List Spx}:b7 bA (dp l):=(gg mq l).sublist List.filter_sublist
theorem jY {l:List Spx} {s:Spx} (h:s ∈ dp l):s ∈ l:=(iR.1 h).1
theorem oH {l:List Spx}:(dp l).length ≤ l.length:=Nat.le_trans (List.length_filter_le _ _) iB
theorem qq {l:List Spx} (h1:l.length ≤ 4096) (h2:∀ s ∈ l,b0 s=0):aO (dp l)=0:=by
 refine rE (Nat.le_trans oH h1) (fun s hs=>h2 s (jY hs)) mY fun s hs=>?_
 cases h:bx (dp l) s
 ·rfl
 ·obtain ⟨t,t1,t2⟩:=bE.1 h
  have:=(iR.1 hs).2
  rw [bE.2 ⟨t,jY t1,t2⟩] at this; cases this
theorem eV {m:MapV} {l:Spx} {w:Vtx}:w ∈ bq m l ↔ ∃ v ∈ l,dA m v=w:=by
 unfold bq; rw [eh,List.mem_map]
theorem iz {m:MapV} {l:Spx}:b7 bB (bq m l):=gg jM _
theorem i6 {m:MapV} {l:Spx}:(bq m l).length ≤ l.length:=by
 unfold bq
 have:=iB (K:=bB) (l:=l.map (dA m))
 rwa [List.length_map] at this
theorem yq {m:MapV} {l:Spx} (h:l ≠ []):bq m l ≠ []:=fun e=>h (by unfold bq at e; rwa [nA,List.map_eq_nil_iff] at e)
theorem ca {m:MapV} {l:Spx}:bo m l=true ↔ ∀ v ∈ l,v ∈ m.fr:=by
 unfold bo; simp [List.all_eq_true]
theorem o6 {m:MapV} {l:Spx} (hm:cb m=0) (hl:b0 l=0) (ht:bo m l=true):b0 (bq m l)=0:=by
 obtain ⟨q1,q2,q3,q4,q5⟩:=fZ hm
 obtain ⟨p1,p2,p3,p4⟩:=cm hl
 have hne:l ≠ []:=fun e=>by rw [e] at p1; simp at p1
 refine wI ⟨List.length_pos_iff.2 (yq hne),Nat.le_trans i6 p2⟩ iz fun w hw=>?_
 obtain ⟨v,v1,rfl⟩:=eV.1 hw
 exact q5 _ (nY q2 (ca.1 ht v v1))
def fx (m:MapV) (c:List Spx):List Spx × Int:=if cb m ≠ 0 then ([],cb m) else if aO c ≠ 0 then ([],aO c) else if c.all (bo m)=false then ([],6) else (dp (c.map (bq m)),0)
end Go.Proofs.YtbgdcebmgjafjaaGreat
namespace Go.Proofs.YtbgdcebmgjafjaaGreat
open Go Go.Abs
theorem oz {H:Hp} {s:AV} {l:List Spx} {e f:Int} (h:Snap H s (aE l)) (he:e=f):Snap H (.tup [.agg [s],.int .i64 e]) (.tup [ez l,.int .i64 f]):=by
 subst he; exact eT (an (kJ (an h aa)) (an (.int _ _) aa))
attribute [local irreducible] aG al a9 aW aN aP aC aQ aZ bt Go.Abs.Fn aV Go.Abs.Pure ax aL Yl
end Go.Proofs.YtbgdcebmgjafjaaGreat
namespace Go.Proofs.YtbgdcebmgjafjaaGreat
open Go Go.Abs
def mP (s:Spx) (k:Int):List Spx × Int:=if b0 s ≠ 0 then ([],b0 s) else if k < 1 ∨ (s.length:Int) < k then ([],2) else (bU s k.toNat,0)
theorem jA {H:Hp} {s:AV} {l:List Spx} {e f:Int} (h:Snap H s (aE l)) (he:e=f):Snap H (.tup [s,.int .i64 e]) (.tup [aE l,.int .i64 f]):=by
 subst he; exact eT (an h (an (.int _ _) aa))
attribute [local irreducible] aG al a9 aW aN aP aC aQ aZ bt Go.Abs.Fn aV Go.Abs.Pure ax aL Yl
theorem wU (s:Spx) (k:Nat) (H:Hp) (nx:Nat):Abs.Fn Tryz.prog 76 [av s,.int .i64 k] H nx fun r H' nx'=>r=.func 113 [.ptr (nx + 1) 1 0,.ptr nx 1 0]∧H'=ak (ak H nx [av s]) (nx + 1) [.int .i64 k]∧nx'=nx + 2:=by
 refine Abs.Fn.of_c2 follows BH (Nat.le_of_ble_eq_true rfl) ?_
 simp only [b76,cO,cG,cN,cM,cD,cF,cB,au,aK]
 (have zz:=aI @aF @ay; repeat' (first|refine zW ?_|apply a_n|refine zO ?_|refine vY ?_|refine bxY ?_|refine ai rfl ?_|refine r1Y ?_|fail)) <;> (try clear zz)
 exact ⟨rfl,rfl,rfl⟩
theorem vV {kb sb k:Nat} {s:Spx} {H:Hp} {nx:Nat} (hs:s.length ≤ 8) (hk0:0 < k) (hk:k ≤ 1000) (gk:H kb=some [.int .i64 k]) (gs:H sb=some [av s]) (lk:kb < nx) (ls:sb < nx) :
    Abs.Fn Tryz.prog 75 [.func 113 [.ptr kb 1 0,.ptr sb 1 0]] H nx fun r H' nx'=>Row H' 1 r ((bU s k).map av)∧nx ≤ nx':=by
 refine Abs.Fn.of_c2 follows AF (Nat.le_of_ble_eq_true rfl) ?_
 simp only [b75,cO,cG,cN,cM,cD,cF,cB,au,aK]
 (have zz:=and_self; repeat' (first|refine zW ?_|apply a_n|refine zO ?_|refine vY ?_|fail)) <;> (try clear zz)
 refine aA ev0 ev0 (rZ hs hk0 hk gk gs lk ls) ?_
 rintro r H1 nx1 ⟨r1,r2,r3⟩
 obtain ⟨q1,q2⟩:=r1.one
 (have zz:=aI @q1 @q2; repeat' (first|apply a_n|refine zO ?_|refine vY ?_|refine ai rfl ?_|refine r1Y ?_|fail)) <;> (try clear zz)
 exact ⟨r1,r2⟩
theorem ww (s:Spx) (k:Int) (hs:Shn s):Pure Tryz.prog 35 [av s,.int .i64 k] (.tup [aE (mP s k).1,.int .i64 (mP s k).2]):=by
 refine Pure.of_c2 follows A8 (Nat.le_of_ble_eq_true rfl) ?_
 simp only [b35,cO,cG,cN,cM,cD,cF,cB,au,aK]
 have hc:=kE s hs
 unfold mP
 by_cases he:b0 s=0
 rotate_left
 ·rw [if_pos he]
  have z:decide (b0 s ≠ 0)=true:=decide_eq_true he
  (have zz:=@z; repeat' (first|refine zW ?_|apply a_n|apply a_r|refine zO ?_|refine vY ?_|refine cY ?_ (hp:=hc) (hs:=by (first | refine ac ?_ rfl | apply ae); (repeat' (first | exact aa | apply aj | apply af | exact az _)); first | done | fail)|refine cTY ?_|refine ai rfl ?_|refine r2Y ?_|fail)) <;> (try clear zz)
  exact jA (.eslsl _) rfl
 rw [if_neg (fun h=>h he)]
 rw [he] at hc
 obtain ⟨p1,p2,p3,p4⟩:=cm he
 have z0:decide ((0:Int) ≠ 0)=false:=rfl
 by_cases hk:k < 1 ∨ (s.length:Int) < k
 ·rw [if_pos hk]
  (have zz:=aI @z0 @aw; repeat' (first|refine zW ?_|apply a_n|apply a_r|refine zO ?_|refine vY ?_|refine cY ?_ (hp:=hc) (hs:=by (first | refine ac ?_ rfl | apply ae); (repeat' (first | exact aa | apply aj | apply af | exact az _)); first | done | fail)|refine gTY ?_|refine gFY ?_|refine cTY ?_|refine cFY ?_|(refine zGY ?_ ?_ <;> (intro _hg; try (exfalso; omega)))|refine ai rfl ?_|refine r2Y ?_|fail)) <;> (try clear zz)
  all_goals first | exact jA (.eslsl _) rfl | (exfalso; omega)
 rw [if_neg hk]
 obtain ⟨n,rfl⟩:∃ n:Nat,k=n:=⟨k.toNat,by omega⟩
 rw [Int.toNat_natCast]
 (have zz:=aI @z0 @aw; repeat' (first|refine zW ?_|apply a_n|refine zO ?_|refine vY ?_|refine cY ?_ (hp:=hc) (hs:=by (first | refine ac ?_ rfl | apply ae); (repeat' (first | exact aa | apply aj | apply af | exact az _)); first | done | fail)|refine gTY ?_|refine cFY ?_|(refine zGY ?_ ?_ <;> (intro _hg; try (exfalso; omega)))|fail)) <;> (try clear zz)
 refine aA ev0 ev0 (wU s n _ _) ?_
 rintro _ H1 nx1 ⟨rfl,rfl,rfl⟩
 refine aA ev0 ev0 (vV (kb:=0 + 1) (sb:=0) (k:=n) (s:=s) p2 (by omega) (by omega) ah (by rw [ag (by omega),ah]) (by omega) (by omega)) ?_
 rintro r H2 nx2 ⟨r1,r2⟩
 obtain ⟨q1,q2⟩:=r1.one
 (have zz:=aI @q1 @q2; repeat' (first|apply a_n|refine zO ?_|refine vY ?_|refine ai rfl ?_|refine r2Y ?_|fail)) <;> (try clear zz)
 exact jA (iW r1) rfl
end Go.Proofs.YtbgdcebmgjafjaaGreat
namespace Go.Proofs.YtbgdcebmgjafjaaGreat
open Go Go.Abs
attribute [local irreducible] aG al a9 aW aN aP aC aQ aZ bt Go.Abs.Fn aV Go.Abs.Pure ax aL Yl
end Go.Proofs.YtbgdcebmgjafjaaGreat
namespace Go.Proofs.YtbgdcebmgjafjaaGreat
open Go Go.Abs
attribute [local irreducible] aG al a9 aW aN aP aC aQ aZ bt Go.Abs.Fn aV Go.Abs.Pure ax aL Yl
end Go.Proofs.YtbgdcebmgjafjaaGreat
namespace Go.Proofs.YtbgdcebmgjafjaaGreat
open Go Go.Abs
attribute [local irreducible] aG al a9 aW aN aP aC aQ aZ bt Go.Abs.Fn aV Go.Abs.Pure ax aL Yl
end Go.Proofs.YtbgdcebmgjafjaaGreat
namespace Go.Proofs.YtbgdcebmgjafjaaGreat
open Go Go.Abs
open Nat (reduceEqDiff reduceAdd reduceLeDiff)
def dl (c:List Spx) (k:Nat):List Spx:=eY bA (c.flatMap fun s=>bU s k)
theorem vB {c:List Spx} {k i:Nat} (hi:i < c.length):(c.take (i + 1)).flatMap (fun s=>bU s k)=(c.take i).flatMap (fun s=>bU s k) ++ bU (c.getD i default) k:=by
 rw [bG hi,List.flatMap_append]; simp
theorem jR {k:Nat}:∀ {c:List Spx},(∀ s ∈ c,s.length ≤ 8)→(c.flatMap fun s=>bU s k).length ≤ 70 * c.length
 | [],_=>by simp
 | s :: c,h=>by
  rw [List.flatMap_cons,List.length_append,List.length_cons]
  have:=ug (l:=s) (k:=k) (h s List.mem_cons_self)
  have:=jR (k:=k) (c:=c) (fun t ht=>h t (List.mem_cons_of_mem _ ht))
  omega
theorem j4 {c:List Spx} {k:Nat} {s:Spx}:s ∈ c.flatMap (fun s=>bU s k) ↔ ∃ t ∈ c,s ∈ bU t k:=by rw [List.mem_flatMap]
def gP (c:List Spx) (k:Int):List Spx × Int:=if aO c ≠ 0 then ([],aO c) else if k < 1 ∨ 8 < k then ([],2) else (dl c k.toNat,0)
attribute [local irreducible] aG al a9 aW aN aP aC aQ aZ bt Go.Abs.Fn aV Go.Abs.Pure ax aL Yl
end Go.Proofs.YtbgdcebmgjafjaaGreat
namespace Go.Proofs.YtbgdcebmgjafjaaGreat
open Go Go.Abs
open Nat (reduceEqDiff reduceAdd reduceLeDiff)
def eN:Nat→Spx→List Int
 | 0,_=>[]
 | n + 1,[]=>(-1) :: 0 :: eN n []
 | n + 1,v :: l=>v.color :: v.label :: eN n l
theorem ky:∀ {n:Nat} {s:Spx},(eN n s).length=2 * n
 | 0,_=>rfl
 | n + 1,[]=>by show (eN n []).length + 1 + 1=_; rw [ky]; omega
 | n + 1,v :: l=>by show (eN n l).length + 1 + 1=_; rw [ky]; omega
theorem qI:∀ {n:Nat} {s t:Spx},s.length ≤ n→t.length ≤ n→(∀ v ∈ s,0 ≤ v.color)→(∀ v ∈ t,0 ≤ v.color)→eN n s=eN n t→s=t
 | 0,[],[],_,_,_,_,_=>rfl
 | 0,_ :: _,_,h,_,_,_,_=>absurd h (by simp)
 | 0,[],_ :: _,_,h,_,_,_=>absurd h (by simp)
 | n + 1,[],[],_,_,_,_,_=>rfl
 | n + 1,[],w :: m,_,_,_,h2,e=>by
  have:(-1:Int)=w.color:=(List.cons.inj e).1
  have:=h2 w List.mem_cons_self
  omega
 | n + 1,v :: l,[],_,_,h1,_,e=>by
  have:v.color=(-1:Int):=(List.cons.inj e).1
  have:=h1 v List.mem_cons_self
  omega
 | n + 1,v :: l,w :: m,hl,hm,h1,h2,e=>by
  obtain ⟨e1,e2⟩:=List.cons.inj e
  obtain ⟨e2,e3⟩:=List.cons.inj e2
  have:=qI (n:=n) (by simp at hl; omega) (by simp at hm; omega) (fun x hx=>h1 x (List.mem_cons_of_mem _ hx)) (fun x hx=>h2 x (List.mem_cons_of_mem _ hx)) e3
  rw [this,ms.2 ⟨e1,e2⟩]
def xM (x:List Int):AV:=.agg (x.map (AV.int .i64))
theorem wi (x:List Int):Dat (xM x):=Dat.agg (by
 induction x with
 | nil=>exact DatL.nil
 | cons a l ih=>exact DatL.cons .int ih)
theorem ua:∀ {n:Nat} {s:Spx},s.length ≤ n→cX s ++ ((eN n []).map (AV.int .i64)).drop (s.length * 2)=(eN n s).map (AV.int .i64)
 | n,[],_=>by simp [cX]
 | 0,_ :: _,h=>absurd h (by simp)
 | n + 1,v :: l,h=>by
  have:=ua (n:=n) (s:=l) (by simp at h; omega)
  show [AV.int .i64 v.color,AV.int .i64 v.label] ++ cX l ++ _=AV.int .i64 v.color :: AV.int .i64 v.label :: (eN n l).map (AV.int .i64)
  rw [← this,List.length_cons,show (l.length + 1) * 2=l.length * 2 + 1 + 1 by omega]
  rfl
def kc (k:Nat):List AV:=(eN k [] ++ List.replicate (2 * (8 - k)) 0).map (AV.int .i64)
attribute [local irreducible] aG al a9 aW aN aP aC aQ aZ bt Go.Abs.Fn aV Go.Abs.Pure ax aL Yl
theorem yn (s:Spx) (h1:1 ≤ s.length) (hs:s.length ≤ 8):Pure Tryz.prog 108 [av s] (xM (eN 8 s)):=by
 refine Pure.of_c2 follows zc (Nat.le_of_ble_eq_true rfl) ?_
 simp only [zn,cO,cG,cN,cM,cD,cF,cB,au,aK]
 have hn:ey (av s)=some s.length:=by unfold av hZ; simp [ey]
 have hput:=ua (n:=8) (s:=s) hs
 (have zz:=and_self; repeat' (first|refine zW ?_|apply a_n|refine zO ?_|refine vY ?_|refine alY ?_|fail)) <;> (try clear zz)
 refine aR (X:=Nat) (fun k=>[(0,av s),(2,.ptr 0 16 0),(3,.ptr 1 16 0),(5,.int .i64 k)]) (fun k H nx=>k ≤ 8∧H 0=some (kc 0)∧H 1=some (kc k)) (fun k=>8 - k) 0 ⟨Nat.zero_le _,by rw [ag (by omega),ah]; rfl,ah⟩ (by (iterate 4 refine And.intro rfl ?_); trivial) ?_
 rintro k H nx ⟨hk,g0,g1⟩
 rcases (by omega:k=8 ∨ k=0 ∨ k=1 ∨ k=2 ∨ k=3 ∨ k=4 ∨ k=5 ∨ k=6 ∨ k=7) with rfl | rfl | rfl | rfl | rfl | rfl | rfl | rfl | rfl
 ·(have zz:=aI @g0 @g1; repeat' (first|refine zW ?_|apply a_n|apply a_x|refine zO ?_|refine vY ?_|(refine zGY ?_ ?_ <;> (intro _hg; try (exfalso; omega)))|fail)) <;> (try clear zz)
  refine Cp rfl g1 rfl rfl ?_
  (have zz:=and_self; repeat' (first|apply a_n|refine zO ?_|refine vY ?_|fail)) <;> (try clear zz)
  refine BI (n:=s.length) (H':=ak H 1 ((eN 8 s).map (AV.int .i64))) ?_ ?_
  ·((try simp only [bS,ZA,reduceEqDiff,↓reduceIte,reduceAdd,reduceLeDiff]); (try with_reducible rfl))
   have htr:uk s.length (av s)=av s:=by unfold av hZ; simp [uk]; exact List.take_of_length_le (by simp)
   have hmin:min s.length 8=s.length:=Nat.min_eq_left hs
   have hal:ey (.msl 1 16 2 0 8)=some 8:=rfl
   simp only [jo,hal,hn,hmin,if_neg (show ¬ s.length=0 by omega),g1,htr,wF]
   rw [if_pos (by refine ⟨?_,?_,?_,?_⟩ <;> first | rfl | trivial | omega | exact mt s)]
   have:bf (kc 8) 0 (cX s)=(eN 8 s).map (AV.int .i64):=by
    rw [← hput]
    simp only [bf,List.take_zero,List.nil_append,Nat.zero_add,eZ]
    rfl
   rw [this]
  ·have hl:((eN 8 s).map (AV.int .i64)).length=16:=by rw [List.length_map,ky]
   have g1':ak H 1 ((eN 8 s).map (AV.int .i64)) 1=some ((eN 8 s).map (AV.int .i64)):=ah
   have g0':ak H 1 ((eN 8 s).map (AV.int .i64)) 0=some (kc 0):=by rw [ag (by omega)]; exact g0
   have hl0:(kc 0).length=16:=rfl
   unfold xM
   have ht:((eN 8 s).map (AV.int .i64)).take 16=(eN 8 s).map (AV.int .i64):=List.take_of_length_le (by omega)
   have hd:=wi (eN 8 s)
   unfold xM at hd
   have hfl:AV.ones ((eN 8 s).map (AV.int .i64))=true:=by
    unfold AV.ones
    rw [List.all_eq_true]
    intro x hx
    obtain ⟨y,_,rfl⟩:=List.mem_map.1 hx
    rfl
   have hlp:bf (kc 0) 0 ((eN 8 s).map (AV.int .i64))=(eN 8 s).map (AV.int .i64):=by
    simp only [bf,List.take_zero,List.nil_append,Nat.zero_add,hl]
    rw [List.drop_of_length_le (by decide),List.append_nil]
   generalize (eN 8 s).map (AV.int .i64)=K at *
   (have zz:=aI @g0' (aI @g1' (aI @hl (aI @hl0 @ht))); repeat' (first|refine zW ?_|apply a_n|refine zO ?_|refine vY ?_|fail)) <;> (try clear zz)
   refine zS (v:=.agg K) (cs:=kc 0) (vs:=K) (b:=0) (n:=16) (off:=0) rfl ev0 ev0 g0' rfl hfl hl0 hl (by omega) ?_
   rw [hlp]
   (have zz:=aI @hl @ht; repeat' (first|apply a_n|refine zO ?_|refine ai rfl ?_|refine r1Y ?_|fail)) <;> (try clear zz)
   exact hd _
 ·(have zz:=aI @g0 @g1; repeat' (first|refine zW ?_|apply a_n|refine zO ?_|refine vY ?_|(refine zGY ?_ ?_ <;> (intro _hg; try (exfalso; omega)))|fail)) <;> (try clear zz)
  refine js (r:=.ptr 1 16 0) rfl rfl rfl ?_
  have hl:(kc 0).length=16:=rfl
  (have zz:=aI @g1 @hl; repeat' (first|apply a_n|refine zO ?_|refine vY ?_|refine stY ?_|fail)) <;> (try clear zz)
  exact ⟨1,by omega,⟨by omega,by rw [ag (by omega)]; exact g0,by rw [ah]; rfl⟩,by (iterate 4 refine And.intro rfl ?_); trivial⟩
 ·(have zz:=aI @g0 @g1; repeat' (first|refine zW ?_|apply a_n|refine zO ?_|refine vY ?_|(refine zGY ?_ ?_ <;> (intro _hg; try (exfalso; omega)))|fail)) <;> (try clear zz)
  refine js (r:=.ptr 1 16 2) rfl rfl rfl ?_
  have hl:(kc 1).length=16:=rfl
  (have zz:=aI @g1 @hl; repeat' (first|apply a_n|refine zO ?_|refine vY ?_|refine stY ?_|fail)) <;> (try clear zz)
  exact ⟨2,by omega,⟨by omega,by rw [ag (by omega)]; exact g0,by rw [ah]; rfl⟩,by (iterate 4 refine And.intro rfl ?_); trivial⟩
 ·(have zz:=aI @g0 @g1; repeat' (first|refine zW ?_|apply a_n|refine zO ?_|refine vY ?_|(refine zGY ?_ ?_ <;> (intro _hg; try (exfalso; omega)))|fail)) <;> (try clear zz)
  refine js (r:=.ptr 1 16 4) rfl rfl rfl ?_
  have hl:(kc 2).length=16:=rfl
  (have zz:=aI @g1 @hl; repeat' (first|apply a_n|refine zO ?_|refine vY ?_|refine stY ?_|fail)) <;> (try clear zz)
  exact ⟨3,by omega,⟨by omega,by rw [ag (by omega)]; exact g0,by rw [ah]; rfl⟩,by (iterate 4 refine And.intro rfl ?_); trivial⟩
 ·(have zz:=aI @g0 @g1; repeat' (first|refine zW ?_|apply a_n|refine zO ?_|refine vY ?_|(refine zGY ?_ ?_ <;> (intro _hg; try (exfalso; omega)))|fail)) <;> (try clear zz)
  refine js (r:=.ptr 1 16 6) rfl rfl rfl ?_
  have hl:(kc 3).length=16:=rfl
  (have zz:=aI @g1 @hl; repeat' (first|apply a_n|refine zO ?_|refine vY ?_|refine stY ?_|fail)) <;> (try clear zz)
  exact ⟨4,by omega,⟨by omega,by rw [ag (by omega)]; exact g0,by rw [ah]; rfl⟩,by (iterate 4 refine And.intro rfl ?_); trivial⟩
 ·(have zz:=aI @g0 @g1; repeat' (first|refine zW ?_|apply a_n|refine zO ?_|refine vY ?_|(refine zGY ?_ ?_ <;> (intro _hg; try (exfalso; omega)))|fail)) <;> (try clear zz)
  refine js (r:=.ptr 1 16 8) rfl rfl rfl ?_
  have hl:(kc 4).length=16:=rfl
  (have zz:=aI @g1 @hl; repeat' (first|apply a_n|refine zO ?_|refine vY ?_|refine stY ?_|fail)) <;> (try clear zz)
  exact ⟨5,by omega,⟨by omega,by rw [ag (by omega)]; exact g0,by rw [ah]; rfl⟩,by (iterate 4 refine And.intro rfl ?_); trivial⟩
 ·(have zz:=aI @g0 @g1; repeat' (first|refine zW ?_|apply a_n|refine zO ?_|refine vY ?_|(refine zGY ?_ ?_ <;> (intro _hg; try (exfalso; omega)))|fail)) <;> (try clear zz)
  refine js (r:=.ptr 1 16 10) rfl rfl rfl ?_
  have hl:(kc 5).length=16:=rfl
  (have zz:=aI @g1 @hl; repeat' (first|apply a_n|refine zO ?_|refine vY ?_|refine stY ?_|fail)) <;> (try clear zz)
  exact ⟨6,by omega,⟨by omega,by rw [ag (by omega)]; exact g0,by rw [ah]; rfl⟩,by (iterate 4 refine And.intro rfl ?_); trivial⟩
 ·(have zz:=aI @g0 @g1; repeat' (first|refine zW ?_|apply a_n|refine zO ?_|refine vY ?_|(refine zGY ?_ ?_ <;> (intro _hg; try (exfalso; omega)))|fail)) <;> (try clear zz)
  refine js (r:=.ptr 1 16 12) rfl rfl rfl ?_
  have hl:(kc 6).length=16:=rfl
  (have zz:=aI @g1 @hl; repeat' (first|apply a_n|refine zO ?_|refine vY ?_|refine stY ?_|fail)) <;> (try clear zz)
  exact ⟨7,by omega,⟨by omega,by rw [ag (by omega)]; exact g0,by rw [ah]; rfl⟩,by (iterate 4 refine And.intro rfl ?_); trivial⟩
 ·(have zz:=aI @g0 @g1; repeat' (first|refine zW ?_|apply a_n|refine zO ?_|refine vY ?_|(refine zGY ?_ ?_ <;> (intro _hg; try (exfalso; omega)))|fail)) <;> (try clear zz)
  refine js (r:=.ptr 1 16 14) rfl rfl rfl ?_
  have hl:(kc 7).length=16:=rfl
  (have zz:=aI @g1 @hl; repeat' (first|apply a_n|refine zO ?_|refine vY ?_|refine stY ?_|fail)) <;> (try clear zz)
  exact ⟨8,by omega,⟨by omega,by rw [ag (by omega)]; exact g0,by rw [ah]; rfl⟩,by (iterate 4 refine And.intro rfl ?_); trivial⟩
end Go.Proofs.YtbgdcebmgjafjaaGreat
namespace Go.Proofs.YtbgdcebmgjafjaaGreat
open Go Go.Abs
open Nat (reduceEqDiff reduceAdd reduceLeDiff)
theorem vD {L:List Spx} {h:Nat} {x:Spx} (hh:h < L.length):(L.set h x).take (h + 1)=L.take h ++ [x]:=by
 rw [bG (by simpa using hh),List.take_set_of_le (Nat.le_refl h)]
 simp [List.getD,hh]
theorem mH {B n len k:Nat} (h:k < len) (hn:n ≠ 0):jx 1 (.msl B n 1 0 len) (some (.int .i64 k)) none none=some (.msl B n 1 k (len - k)):=by
 simp only [jx,bg,Int.natCast_nonneg,if_true,Int.toNat_natCast]
 rw [if_pos ⟨trivial,by omega,Nat.le_refl _,hn⟩,if_pos (.inr h),Nat.zero_add,Nat.mul_one]
theorem tw {B n len k:Nat} (h:k ≤ len) (hn:n ≠ 0):jx 1 (.msl B n 1 0 len) none (some (.int .i64 k)) none=some (.msl B n 1 0 k):=by
 simp only [jx,bg,Int.natCast_nonneg,if_true,Int.toNat_natCast]
 rw [if_pos ⟨trivial,by omega,h,hn⟩,if_pos (.inl trivial),Nat.zero_mul,Nat.sub_zero]
attribute [local irreducible] aG al a9 aW aN aP aC aQ aZ bt Go.Abs.Fn aV Go.Abs.Pure ax aL Yl
theorem rp (l:List Spx) (hl:Shn l) (hls:∀ s ∈ l,Shn s) (h0:l ≠ []) (H:Hp) (B nx:Nat) (hH:H B=some (l.map av)) (hB:B < nx) :
    Abs.Fn Tryz.prog 126 [.msl B l.length 1 0 l.length,.func 40 []] H nx fun r H' nx'=>r=.msl B l.length 1 0 (bu l l.length)∧(∃ C,H'=ak H B C∧C.length=l.length∧C.take (bu l l.length)=(cV l l.length).map av)∧nx'=nx:=by
 refine Abs.Fn.of_c2 follows yH (Nat.le_of_ble_eq_true rfl) ?_
 simp only [zq,cO,cG,cN,cM,cD,cF,cB,au,aK]
 have hl':l.length ≤ 17592186044416:=hl
 have hpos:=List.length_pos_iff.2 h0
 have hid:H=ak H B (l.map av):=dF hH
 (have zz:=and_self; repeat' (first|refine zW ?_|apply a_n|apply a_r|refine zO ?_|refine vZ ?_|(refine zGZ ?_ ?_ <;> (intro _hg; try (exfalso; omega)))|refine ai rfl ?_|refine r1Z ?_|fail)) <;> (try clear zz)
 ·have e1:l.length=1:=by omega
  have e2:cV l l.length=l:=by
   match l,e1 with
   | [a],_=>rfl
  refine ⟨?_,⟨_,hid,by simp,?_⟩,rfl⟩
  ·rw [show bu l l.length=l.length by rw [e1]; rfl]
  ·rw [e2,show bu l l.length=l.length by rw [e1]; rfl,List.take_of_length_le (by simp)]
 refine aR (X:=Nat) (fun k=>[(0,.msl B l.length 1 0 l.length),(1,.func 40 []),(5,.int .i64 k)]) (fun k H' nx'=>H'=H∧nx'=nx∧1 ≤ k∧k ≤ l.length∧bu l k=k∧cV l k=l.take k) (fun k=>l.length - k) 1 ⟨rfl,rfl,Nat.le_refl _,hpos,rfl,by match l,h0 with | a :: r,_=>rfl⟩ ag0 ?_
 rintro k H' nx' ⟨rfl,rfl,k1,k2,k3,k4⟩
 by_cases hk:k < l.length
 ·have tk:(k:Int) - 1=(k - 1:Nat):=by omega
  have heq:=rJ (l.getD k default) (l.getD (k - 1) default) (hls _ (bc hk)) (hls _ (bc (by omega)))
  by_cases he:l.getD k default=l.getD (k - 1) default
  ·have hs:=mH (B:=B) (n:=l.length) hk (Nat.ne_of_gt hpos)
   rw [decide_eq_true he] at heq
   (have zz:=aI @tk (aI @hH (aI @Int.toNat_natCast (aI @hs (aI @aF @ay)))); repeat' (first|refine zW ?_|refine zM ?_|apply a_n|refine zO ?_|refine vZ ?_|refine cZ ?_ (hp:=heq) (hs:=by (first | refine ac ?_ rfl | apply ae); (repeat' (first | exact aa | apply aj | apply af | exact az _)); first | done | fail)|refine cTZ ?_|(refine zGZ ?_ ?_ <;> (intro _hg; try (exfalso; omega)))|fail)) <;> (try clear zz)
   refine aR (X:=Nat × List Spx) (fun x=>[(0,.msl B l.length 1 0 l.length),(1,.func 40 []),(5,.int .i64 (bu l (k + x.1):Nat)),(6,.msl B l.length 1 k (l.length - k)),(7,.int .i64 x.1)]) (fun x H2 nx2=>x.2.length=l.length∧1 ≤ x.1∧k + x.1 ≤ l.length∧bu l (k + x.1) + 1 ≤ k + x.1∧H2=ak H' B (x.2.map av)∧nx2=nx'∧(∀ p,k + x.1 ≤ p + 1→x.2.getD p default=l.getD p default)∧x.2.take (bu l (k + x.1))=cV l (k + x.1)) (fun x=>l.length - x.1) (1,l)
    ⟨rfl,Nat.le_refl _,hk,by dsimp only; rw [dv (by omega) he]; omega,hid,rfl,fun _ _=>rfl,by dsimp only; rw [dv (by omega) he,gR (by omega) he,k3,k4]⟩ (by simp (disch:=omega) only [agr,ZG,reduceEqDiff,↓reduceIte,dv (show k ≠ 0 by omega) he,k3]) ?_
   rintro ⟨j,L⟩ H2 nx2 ⟨a1,a2,a3,a4,rfl,rfl,a5,a6⟩
   dsimp only at a1 a2 a3 a4 a5 a6 ⊢
   by_cases hj:k + j < l.length
   ·have tj:(j:Int) - 1=(j - 1:Nat):=by omega
    have r1:=a5 (k + j) (by omega)
    have r2:=a5 (k + (j - 1)) (by omega)
    have heq2:=rJ (l.getD (k + j) default) (l.getD (k + (j - 1)) default) (hls _ (bc hj)) (hls _ (bc (by omega)))
    by_cases hd:l.getD (k + j) default=l.getD (k + (j - 1)) default
    ·have hq:bu l (k + (j + 1))=bu l (k + j):=dv (l:=l) (k:=k + j) (by omega) (by rw [hd,show k + j - 1=k + (j - 1) by omega])
     rw [decide_eq_true hd] at heq2
     (have zz:=aI @tj (aI @Int.toNat_natCast (aI @r1 (aI @r2 (aI @aF @ay)))); repeat' (first|refine zW ?_|refine zM ?_|apply a_n|refine zO ?_|refine vZ ?_|refine cZ ?_ (hp:=heq2) (hs:=by (first | refine ac ?_ rfl | apply ae); (repeat' (first | exact aa | apply aj | apply af | exact az _)); first | done | fail)|refine cFZ ?_|(refine zGZ ?_ ?_ <;> (intro _hg; try (exfalso; omega)))|fail)) <;> (try clear zz)
     refine ⟨(j + 1,L),by dsimp only; omega,⟨a1,by dsimp only; omega,by dsimp only; omega,?_,rfl,rfl,fun p hp=>a5 p (by dsimp only at hp; omega),by dsimp only; rw [hq,show k + (j + 1)=k + j + 1 from rfl,gR (by omega) (by rw [hd,show k + j - 1=k + (j - 1) by omega])]; exact a6⟩,(have zz:=@hq; agZ)⟩
     dsimp only
     rw [hq]
     omega
    ·have hq:bu l (k + (j + 1))=bu l (k + j) + 1:=gK (l:=l) (k:=k + j) (by rw [show k + j - 1=k + (j - 1) by omega]; exact hd)
     have hlm:=ga (f:=av) (l:=L) (k:=bu l (k + j)) (x:=l.getD (k + j) default) (by omega)
     rw [decide_eq_false hd] at heq2
     (have zz:=aI @tj (aI @Int.toNat_natCast (aI @r1 (aI @r2 (aI @aF @ay)))); repeat' (first|refine zW ?_|refine zM ?_|apply a_n|refine zO ?_|refine vZ ?_|refine cZ ?_ (hp:=heq2) (hs:=by (first | refine ac ?_ rfl | apply ae); (repeat' (first | exact aa | apply aj | apply af | exact az _)); first | done | fail)|refine stZ ?_|refine cTZ ?_|(refine zGZ ?_ ?_ <;> (intro _hg; try (exfalso; omega)))|fail)) <;> (try clear zz)
     refine ⟨(j + 1,L.set (bu l (k + j)) (l.getD (k + j) default)),by dsimp only; omega,⟨by simp [a1],by dsimp only; omega,by dsimp only; omega,?_,?_,rfl,fun p hp=>?_,by dsimp only; rw [hq,vD (by omega),a6,show k + (j + 1)=k + j + 1 from rfl,gZ (by rw [show k + j - 1=k + (j - 1) by omega]; exact hd)]⟩,(have zz:=@hq; agZ)⟩
     ·dsimp only
      rw [hq]
      omega
     ·dsimp only
      rw [am,hlm]
     ·dsimp only at hp ⊢
      rw [List.getD_eq_getElem?_getD,List.getElem?_set_ne (by omega),← List.getD_eq_getElem?_getD]
      exact a5 p (by omega)
   ·have hn:k + j=l.length:=by omega
    have hl1:=mH (B:=B) (n:=l.length) (show bu l (k + j) < l.length by omega) (Nat.ne_of_gt hpos)
    have hl2:=tw (B:=B) (n:=l.length) (show bu l (k + j) ≤ l.length by omega) (Nat.ne_of_gt hpos)
    (have zz:=aI @hl1 @hl2; repeat' (first|refine zW ?_|apply a_n|apply a_x|refine zO ?_|refine vZ ?_|(refine zGZ ?_ ?_ <;> (intro _hg; try (exfalso; omega)))|fail)) <;> (try clear zz)
    refine yS (H':=ak (ak H' B (L.map av)) B (bf (L.map av) (bu l (k + j)) (aY .esl (l.length - bu l (k + j))))) ?_ ?_
    ·((try simp only [bS,ZA,reduceEqDiff,↓reduceIte,reduceAdd,reduceLeDiff]); (try with_reducible rfl))
     simp only [fG]
     rw [if_neg (by omega),ah]
     dsimp only
     rw [if_pos ⟨by simp [a1],trivial,rfl,rfl,by omega⟩]
     rfl
    ·(have zz:=@hl2; repeat' (first|refine zW ?_|apply a_n|apply a_r|refine zO ?_|refine vZ ?_|refine ai rfl ?_|refine r1Z ?_|fail)) <;> (try clear zz)
     refine ⟨by rw [hn],⟨_,am _ _ _ _,?_,?_⟩,rfl⟩
     ·have hz:(aY AV.esl (l.length - bu l (k + j))).length=l.length - bu l (k + j):=by simp [aY,show AV.esl.cells.length=1 from rfl]
      simp [bf,hz]
      omega
     ·rw [← hn,← a6,List.map_take]
      simp only [bf]
      rw [List.append_assoc,List.take_append_of_le_length (by simp; omega),List.take_of_length_le (by simp; omega)]
  ·rw [decide_eq_false he] at heq
   (have zz:=aI @tk (aI @hH (aI @Int.toNat_natCast (aI @aF @ay))); repeat' (first|refine zW ?_|refine zM ?_|apply a_n|refine zO ?_|refine vZ ?_|refine cZ ?_ (hp:=heq) (hs:=by (first | refine ac ?_ rfl | apply ae); (repeat' (first | exact aa | apply aj | apply af | exact az _)); first | done | fail)|refine cFZ ?_|(refine zGZ ?_ ?_ <;> (intro _hg; try (exfalso; omega)))|fail)) <;> (try clear zz)
   exact ⟨k + 1,by omega,⟨rfl,rfl,by omega,by omega,by rw [gK he,k3],by rw [gZ he,k4,bG hk]⟩,ag0⟩
 ·(have zz:=and_self; repeat' (first|refine zW ?_|apply a_n|apply a_x|refine zO ?_|refine vZ ?_|(refine zGZ ?_ ?_ <;> (intro _hg; try (exfalso; omega)))|refine ai rfl ?_|refine r1Z ?_|fail)) <;> (try clear zz)
  have e:l.length=k:=by omega
  refine ⟨by rw [e,k3],⟨_,hid,by simp,?_⟩,rfl⟩
  rw [e,k3,k4,← List.map_take]
end Go.Proofs.YtbgdcebmgjafjaaGreat
namespace Go.Proofs.YtbgdcebmgjafjaaGreat
open Go Go.Abs
open Nat (reduceEqDiff reduceAdd reduceLeDiff)
theorem uO {H:Hp} {sz:Nat} {s:AV} {elems:List AV} (h:Row H sz s (elems.flatMap AV.cells)) (hc:∀ y ∈ elems,y.cells.length=sz) (hz:0 < sz) (hd:∀ y ∈ elems,∀ c ∈ y.cells,SnapF H c c):SnapF H s (.sl sz elems):=by
 obtain ⟨f1,f2⟩:=co elems hc
 generalize he:elems.flatMap AV.cells=cs at h
 cases h with
 | nil =>
  have:elems.length * sz=0:=by rw [← f1,he]; rfl
  have:elems=[]:=List.length_eq_zero_iff.1 (by
   rcases Nat.mul_eq_zero.1 this with h | h
   ·exact h
   ·omega)
  subst this; exact .eslsl sz
 | box b len cs hb hl =>
  have hlen:elems.length=len:=Nat.eq_of_mul_eq_mul_right hz (by rw [← f1,he,hl])
  refine .msl b (len * sz) sz 0 len cs elems hb hl (by omega) hlen hc (fun i j y a c hy hc' ha=>?_)
  have hj:j < sz:=by rw [← hc y (List.mem_of_getElem? hy)]; exact (List.getElem?_eq_some_iff.1 hc').1
  have key:∀ (l:List AV) (i j:Nat) (y c:AV),(∀ z ∈ l,z.cells.length=sz)→l[i]?=some y→y.cells[j]?=some c→j < sz→(l.flatMap AV.cells)[i * sz + j]?=some c:=by
   intro l
   induction l with
   | nil=>intro i j y c _ h; simp at h
   | cons x l ih =>
    intro i j y c hl hy hc hj
    rw [List.flatMap_cons]
    cases i with
    | zero =>
     simp at hy; subst hy
     rw [Nat.zero_mul,Nat.zero_add,List.getElem?_append_left (by rw [hl x (by simp)]; exact hj)]; exact hc
    | succ i =>
     rw [List.getElem?_append_right (by rw [hl x (by simp),Nat.add_mul]; omega),hl x (by simp)]
     have:=ih i j y c (fun z hz=>hl z (by simp [hz])) (by simpa using hy) hc hj
     rw [← this]; congr 1; rw [Nat.add_mul]; omega
  have:=key elems i j y c hc hy hc' hj
  rw [he,← Nat.zero_add (i * sz)] at this
  rw [this] at ha; cases ha
  exact hd y (List.mem_of_getElem? hy) a (List.mem_of_getElem? hc')
theorem t7 {H:Hp} {s:AV} {l:Spx} (h:Row H 2 s (cX l)):SnapF H s (av l):=by
 refine uO (elems:=l.map bk) (by rw [tR]; exact h) (fun y hy=>?_) (by omega) (fun y hy c hx=>?_)
 ·obtain ⟨n,_,rfl⟩:=List.mem_map.1 hy; rfl
 ·obtain ⟨n,_,rfl⟩:=List.mem_map.1 hy
  simp only [bk,AV.cells,List.mem_cons,List.not_mem_nil,or_false] at hx
  rcases hx with rfl | rfl <;> exact .int _ _
attribute [local irreducible] aG al a9 aW aN aP aC aQ aZ bt Go.Abs.Fn aV Go.Abs.Pure ax aL Yl
theorem pq (l:Spx) (hl:l.length ≤ 1000000):fT Tryz.prog 31 [av l] (av l):=by
 refine fT.of_c2 follows Ae (Nat.le_of_ble_eq_true rfl) ?_
 simp only [b31,cO,cG,cN,cM,cD,cF,cB,au,aK]
 (have zz:=and_self; repeat' (first|refine zW ?_|apply a_n|refine zO ?_|refine vY ?_|fail)) <;> (try clear zz)
 have hn:ey (av l)=some l.length:=by unfold av hZ; simp [ey]
 refine sI (k:=l.length) (by ((try simp only [bS,ZA,reduceEqDiff,↓reduceIte,reduceAdd,reduceLeDiff]); (try with_reducible rfl)); exact hn) (fun h=>?_) (fun h=>?_) (fun h=>?_)
 ·(have zz:=and_self; repeat' (first|refine zW ?_|apply a_n|refine zO ?_|refine vY ?_|refine b0Y ?_|refine cFY ?_|fail)) <;> (try clear zz)
  refine lj rfl ev0 ev0 wF (mt _) (by omega) (by omega) ?_
  (have zz:=and_self; repeat' (first|apply a_n|refine zO ?_|refine vY ?_|refine ai rfl ?_|refine r1Y ?_|fail)) <;> (try clear zz)
  exact t7 (Row.box _ l.length (cX l) ah (eZ l))
 ·(have zz:=and_self; repeat' (first|refine zW ?_|apply a_n|apply a_r|refine zO ?_|refine vY ?_|refine cTY ?_|refine ai rfl ?_|refine r1Y ?_|fail)) <;> (try clear zz)
  obtain rfl:=List.length_eq_zero_iff.1 h
  exact .eslsl 2
 ·(have zz:=and_self; repeat' (first|refine zW ?_|apply a_n|refine zO ?_|refine vY ?_|refine b0Y ?_|refine cFY ?_|fail)) <;> (try clear zz)
  refine lj rfl ev0 ev0 wF (mt _) (by omega) (by omega) ?_
  (have zz:=and_self; repeat' (first|apply a_n|refine zO ?_|refine vY ?_|refine ai rfl ?_|refine r1Y ?_|fail)) <;> (try clear zz)
  exact t7 (Row.box _ l.length (cX l) ah (eZ l))
theorem vh (s:AV) (l:List Spx) (hl:l.length ≤ 1000000) (H:Hp) (nx:Nat) (hn:ey s=some l.length) (hs:∀ H',(∀ x,x < nx→H' x=H x)→cU 1 H' s=some (l.length,l.map av)):Abs.Fn Tryz.prog 125 [s] H nx fun r H' nx'=>nx' ≤ nx + 1∧nx ≤ nx'∧(∀ x,x < nx→H' x=H x)∧if l=[] then cw r=some (.int .i64 0)∧∀ H'',Snap H'' r (aE []) else r=.msl nx l.length 1 0 l.length∧H'=ak H nx (l.map av)∧nx'=nx + 1:=by
 refine Abs.Fn.of_c2 follows AS (Nat.le_of_ble_eq_true rfl) ?_
 simp only [Bx,cO,cG,cN,cM,cD,cF,cB,au,aK]
 have hones:AV.ones (l.map av)=true:=by
  unfold AV.ones
  rw [List.all_eq_true]
  intro x hx
  obtain ⟨y,_,rfl⟩:=List.mem_map.1 hx
  rfl
 (have zz:=and_self; repeat' (first|refine zW ?_|apply a_n|refine zO ?_|refine vY ?_|fail)) <;> (try clear zz)
 refine sI (k:=l.length) (by ((try simp only [bS,ZA,reduceEqDiff,↓reduceIte,reduceAdd,reduceLeDiff]); (try with_reducible rfl)); exact hn) (fun h=>?_) (fun h=>?_) (fun h=>?_)
 ·(have zz:=and_self; repeat' (first|refine zW ?_|apply a_n|refine zO ?_|refine vY ?_|refine b0Y ?_|refine cFY ?_|fail)) <;> (try clear zz)
  refine lj rfl ev0 ev0 (hs _ fun x _=>rfl) hones (by omega) (by omega) ?_
  (have zz:=and_self; repeat' (first|apply a_n|refine zO ?_|refine vY ?_|refine ai rfl ?_|refine r1Y ?_|fail)) <;> (try clear zz)
  refine ⟨Nat.le_refl _,by omega,fun x hx=>ag (by omega),?_⟩
  rw [if_neg (by rintro rfl; exact absurd h (by simp))]
  exact ⟨rfl,rfl,rfl⟩
 ·(have zz:=and_self; repeat' (first|refine zW ?_|apply a_n|apply a_r|refine zO ?_|refine vY ?_|refine cTY ?_|refine ai rfl ?_|refine r1Y ?_|fail)) <;> (try clear zz)
  refine ⟨by omega,Nat.le_refl _,fun x hx=>rfl,?_⟩
  rw [if_pos (List.length_eq_zero_iff.1 h)]
  exact ⟨rfl,fun _=>.eslsl 1⟩
 ·(have zz:=and_self; repeat' (first|refine zW ?_|apply a_n|refine zO ?_|refine vY ?_|refine b0Y ?_|refine cFY ?_|fail)) <;> (try clear zz)
  refine lj rfl ev0 ev0 (hs _ fun x _=>rfl) hones (by omega) (by omega) ?_
  (have zz:=and_self; repeat' (first|apply a_n|refine zO ?_|refine vY ?_|refine ai rfl ?_|refine r1Y ?_|fail)) <;> (try clear zz)
  refine ⟨Nat.le_refl _,by omega,fun x hx=>ag (by omega),?_⟩
  obtain rfl:=List.length_eq_zero_iff.1 h
  rw [if_pos rfl]
  exact ⟨rfl,fun _=>.mslnil _ _ _ _ _⟩
section
variable {g:Nat} {caps:List AV} {s:AV}
theorem Af (hs:cw s=some (.int .i64 0)) {H:Hp} {nx:Nat}:Abs.Fn Tryz.prog 142 [s,.int .i64 0,.int .i64 0,.func g caps] H nx fun r H' nx'=>nx'=nx∧H'=H:=by
 refine Abs.Fn.of_c2 follows wo (Nat.le_of_ble_eq_true rfl) ?_
 simp only [xX,cO,cG,cN,cM,cD,cF,cB,au,aK]
 (have zz:=and_self; repeat' (first|refine zW ?_|apply a_n|refine zO ?_|refine vZ ?_|fail)) <;> (try clear zz)
 refine aR (X:=Unit) (fun x=>[(0,s),(1,.int .i64 0),(2,.int .i64 0),(3,.func g caps),(8,.int .i64 1)]) (fun x H' nx'=>H'=H∧nx'=nx) (fun x=>0) () ⟨rfl,rfl⟩ (by simp (disch:=omega) only [agr,ZG,reduceEqDiff,↓reduceIte,Int.zero_add,true_and]) ?_
 rintro _ _ _ ⟨rfl,rfl⟩
 (have zz:=and_self; repeat' (first|refine zW ?_|apply a_n|apply a_x|refine zO ?_|refine vZ ?_|(refine zGZ ?_ ?_ <;> (intro _hg; try (exfalso; omega)))|refine ai rfl ?_|fail)) <;> (try clear zz)
 exact ⟨rfl,rfl⟩
theorem zL (hs:cw s=some (.int .i64 0)) {H:Hp} {nx:Nat}:Abs.Fn Tryz.prog 129 [s,.int .i64 0,.int .i64 0,.int .i64 0,.func g caps] H nx fun r H' nx'=>nx'=nx∧H'=H:=by
 refine Abs.Fn.of_c2 follows wk (Nat.le_of_ble_eq_true rfl) ?_
 simp only [yd,cO,cG,cN,cM,cD,cF,cB,au,aK]
 (have zz:=and_self; repeat' (first|refine zW ?_|apply a_n|refine zO ?_|refine vZ ?_|fail)) <;> (try clear zz)
 refine aR (X:=Unit) (fun x=>[(0,s),(1,.int .i64 0),(2,.int .i64 0),(3,.int .i64 0),(4,.func g caps)]) (fun x H' nx'=>H'=H∧nx'=nx) (fun x=>0) () ⟨rfl,rfl⟩ ag0 ?_
 rintro _ _ _ ⟨rfl,rfl⟩
 (have zz:=and_self; repeat' (first|refine zW ?_|apply a_n|refine zO ?_|refine vZ ?_|(refine zGZ ?_ ?_ <;> (intro _hg; try (exfalso; omega)))|fail)) <;> (try clear zz)
 refine aA ev0 ev0 (Af hs) ?_
 rintro _ _ _ ⟨rfl,rfl⟩
 (have zz:=and_self; repeat' (first|apply a_n|apply a_r|refine zO ?_|refine ai rfl ?_|fail)) <;> (try clear zz)
 exact ⟨rfl,rfl⟩
theorem nQ (hs:cw s=some (.int .i64 0)) {H:Hp} {nx:Nat}:Abs.Fn Tryz.prog 109 [s,.func g caps] H nx fun r H' nx'=>nx'=nx∧H'=H:=by
 refine Abs.Fn.of_c2 follows wA (Nat.le_of_ble_eq_true rfl) ?_
 simp only [yg,cO,cG,cN,cM,cD,cF,cB,au,aK]
 have w8:IntKind.wrap .u64 0=0:=by decide
 (have zz:=aI @w8 @hs; repeat' (first|refine zW ?_|apply a_n|refine zO ?_|refine vZ ?_|fail)) <;> (try clear zz)
 refine aA ev0 (have zz:=@w8; evZ) As ?_
 rintro _ _ _ ⟨rfl,rfl,rfl⟩
 (have zz:=and_self; repeat' (first|apply a_n|refine zO ?_|refine vZ ?_|fail)) <;> (try clear zz)
 refine aA ev0 ev0 (zL hs) ?_
 rintro _ _ _ ⟨rfl,rfl⟩
 (have zz:=and_self; repeat' (first|apply a_n|refine zO ?_|refine ai rfl ?_|fail)) <;> (try clear zz)
 exact ⟨rfl,rfl⟩
theorem th (hs:cw s=some (.int .i64 0)) {H:Hp} {nx:Nat}:Abs.Fn Tryz.prog 126 [s,.func g caps] H nx fun r H' nx'=>r=s∧nx'=nx∧H'=H:=by
 refine Abs.Fn.of_c2 follows yH (Nat.le_of_ble_eq_true rfl) ?_
 simp only [zq,cO,cG,cN,cM,cD,cF,cB,au,aK]
 (have zz:=@hs; repeat' (first|refine zW ?_|apply a_n|apply a_r|refine zO ?_|refine vZ ?_|(refine zGZ ?_ ?_ <;> (intro _hg; try (exfalso; omega)))|refine ai rfl ?_|refine r1Z ?_|fail)) <;> (try clear zz)
 exact ⟨rfl,rfl,rfl⟩
end
end Go.Proofs.YtbgdcebmgjafjaaGreat
namespace Go.Proofs.YtbgdcebmgjafjaaGreat
open Go Go.Abs
theorem uW {D:List Spx} {k:Nat} {v:Vtx} (hk:k < D.length) (hv:v ∈ D.getD k default):hU D D.length v ≠ []:=fun e=>by
 have:k ∈ hU D D.length v:=List.mem_filter.2 ⟨List.mem_range.2 hk,decide_eq_true hv⟩
 rw [e] at this; cases this
theorem qg {l:List Spx} {p:Spx→Bool} {k:Nat} (hk:k < l.length):(l.take (k + 1)).filter p=(l.take k).filter p ++ if p (l.getD k default)=true then [l.getD k default] else []:=by
 rw [bG hk,List.filter_append]
 cases h:p (l.getD k default)
 ·rw [List.filter_cons_of_neg (by rw [h]; decide),List.filter_nil,if_neg (by decide)]
 ·rw [List.filter_cons_of_pos h,List.filter_nil,if_pos rfl]
attribute [local irreducible] aG al a9 aW aN aP aC aQ aZ bt Go.Abs.Fn aV Go.Abs.Pure ax aL Yl
theorem Ap:Cmp Tryz.prog av bA (fun s=>Shn s) 59 [] where
 cells _:=rfl
 one _:=rfl
 dat x:=az x
 dcaps x hx:=by cases hx
 run x y hx hy:=gp x y hx hy
 ord:=mq.ord
theorem rg (l:List Spx) (hl:l.length ≤ 100000) (hs:∀ s ∈ l,b7 bB s∧s.length ≤ 1000∧s ≠ []):Pure Tryz.prog 100 [aE l] (ez (dp l)):=by
 refine Pure.of_c2 follows Bu (Nat.le_of_ble_eq_true rfl) ?_
 simp only [Bv,cO,cG,cN,cM,cD,cF,cB,au,aK]
 have hn:ey (aE l)=some l.length:=by unfold aE hZ; simp [ey]
 (have zz:=@aB; repeat' (first|refine zW ?_|apply a_n|refine zO ?_|refine vY ?_|refine alY ?_|fail)) <;> (try clear zz)
 refine aA ev0 ev0 (vh _ l (by omega) _ _ hn (fun H' _=>zh)) ?_
 rintro r H1 nx1 ⟨c1,c2,c3,c4⟩
 have hD:∀ s ∈ eY bA l,b7 bB s∧s.length ≤ 1000∧s ≠ []:=fun s h=>hs s (eh.1 h)
 have hDl:(eY bA l).length ≤ 100000:=Nat.le_trans iB hl
 have g0:H1 0=some [.esl]:=(c3 0 (by omega)).trans ah
 have hsort:Abs.Fn Tryz.prog 109 [r,.func 59 []] H1 nx1 fun _ H' nx'=>nx1 ≤ nx'∧H' 0=some [.esl]∧((l=[]∧cw r=some (.int .i64 0)∧∀ H'',Snap H'' r (aE [])) ∨ (l ≠ []∧r=.msl 1 l.length 1 0 l.length∧2 ≤ nx'∧∃ L':List Spx,H' 1=some (L'.map av)∧L'.Perm l∧aM bA 0 l.length L')):=by
  by_cases h0:l=[]
  ·rw [if_pos h0] at c4
   refine Abs.Fn.mono (nQ c4.1) ?_
   rintro _ _ _ ⟨rfl,rfl⟩
   exact ⟨Nat.le_refl _,g0,.inl ⟨h0,c4⟩⟩
  ·rw [if_neg h0] at c4
   obtain ⟨rfl,rfl,rfl⟩:=c4
   have hpos:=List.length_pos_iff.2 h0
   refine Abs.Fn.mono (uo Ap (L:=l) (b:=0 + 1) (n:=l.length) ah (by omega) rfl hpos (fun s h=>show s.length ≤ _ by have:=(hs s h).2.1; omega) (by omega)) ?_
   rintro _ H' nx' ⟨L',ps,p1,p2⟩
   exact ⟨ps.le,by rw [ps.fr 0 (by omega) (by omega)]; exact g0,.inr ⟨h0,rfl,ps.le,L',ps.at_,p1,p2⟩⟩
 have hnx1:1 ≤ nx1:=c2
 clear c4
 (have zz:=and_self; repeat' (first|refine zW ?_|apply a_n|refine zO ?_|refine vY ?_|fail)) <;> (try clear zz)
 refine aA ev0 ev0 hsort ?_
 rintro _ H2 nx2 ⟨d1,g2,d3⟩
 have hcmp:Abs.Fn Tryz.prog 126 [r,.func 40 []] H2 nx2 fun r' H' nx'=>nx2 ≤ nx'∧∃ Hf H3,Fz Hf H' H3∧Snap Hf r' (aE (eY bA l))∧H3 0=some [.esl]:=by
  rcases d3 with ⟨h0,e1,e2⟩ | ⟨h0,rfl,e0,L',e1,e2,e3⟩
  ·refine Abs.Fn.mono (th e1) ?_
   rintro _ _ _ ⟨rfl,rfl,rfl⟩
   refine ⟨Nat.le_refl _,bn,_,Fz.none,?_,g2⟩
   rw [h0]; exact e2 _
  ·have hlen:=e2.length_eq
   have hL0:L' ≠ []:=fun e=>by rw [e] at hlen; simp at hlen; exact h0 (List.length_eq_zero_iff.1 hlen.symm)
   rw [← hlen]
   refine Abs.Fn.mono (rp L' (show _ ≤ _ by omega) (fun s h=>show s.length ≤ _ by have:=(hs s (e2.mem_iff.1 h)).2.1; omega) hL0 H2 1 nx2 e1 (by omega)) ?_
   rintro _ _ _ ⟨rfl,⟨C,rfl,f1,f2⟩,rfl⟩
   have hd:cV L' L'.length=eY bA l:=pC mq e2 (by rw [hlen]; exact e3)
   rw [hd] at f2
   have hle:=rP L' L'.length
   have hdl:=pm L' L'.length
   rw [hd] at hdl
   refine ⟨Nat.le_refl _,only 1 C,bL (ak H2 1 C) 1,Fz.one ah,?_,by rw [eI (by omega),ag (by omega)]; exact g2⟩
   refine j6 (l:=(eY bA l).map av) kA f1 (by omega) (by rw [List.length_map]; exact hdl) (fun y hy=>?_) (fun i a c ha hc=>?_)
   ·obtain ⟨z,_,rfl⟩:=List.mem_map.1 hy; rfl
   ·rw [← f2,List.getElem?_take] at hc
    split at hc
    ·rw [Nat.zero_add,hc] at ha; cases ha
     have hm:a ∈ (eY bA l).map av:=by
      rw [← f2]
      exact List.mem_of_getElem? (i:=i) (by rw [List.getElem?_take,if_pos (by assumption)]; exact hc)
     obtain ⟨z,_,rfl⟩:=List.mem_map.1 hm
     exact az _ _
    ·cases hc
 clear d3 hsort
 (have zz:=and_self; repeat' (first|refine zW ?_|apply a_n|refine zO ?_|refine vY ?_|fail)) <;> (try clear zz)
 refine aA ev0 ev0 hcmp ?_
 rintro r2 H3 nx3 ⟨f1,Hf,H4,hfz,hsn,g4⟩
 have hmx:dp l=(eY bA l).filter fun s=>!bx (eY bA l) s:=rfl
 rw [hmx]
 have hasc:=gg mq l
 generalize eY bA l=D at *
 (have zz:=and_self; repeat' (first|apply a_n|refine zO ?_|refine vY ?_|fail)) <;> (try clear zz)
 refine eL ?_
 refine kH Hf H4 [(0,aE D),(2,.ptr 0 1 0)] hfz ⟨.inr hsn,.inl rfl,trivial⟩ ?_
 clear hfz hsn
 (have zz:=and_self; repeat' (first|apply a_n|refine zO ?_|refine vY ?_|fail)) <;> (try clear zz)
 refine aA ev0 ev0 (ma D hDl (fun s h=>⟨(hD s h).1,by have:=(hD s h).2.1; omega⟩) _ _) ?_
 rintro _ H5 nx5 ⟨ks,vs,rfl,hinc,hsame,hlt⟩
 have g5:H5 0=some [.esl]:=(hsame 0 (by omega)).trans g4
 have hOk:OkS D:=⟨hDl,fun s h=>⟨(hD s h).1,(hD s h).2.1⟩⟩
 (have zz:=@aB; repeat' (first|refine zW ?_|apply a_n|refine zO ?_|refine vY ?_|refine alY ?_|fail)) <;> (try clear zz)
 refine aR (X:=Nat × AV) (fun x=>[(0,aE D),(2,.ptr 0 1 0),(3,.mp nx3),(4,.ptr nx5 1 0),(15,aE D),(16,.int .i64 D.length),(17,.int .i64 x.1)]) (fun x H' nx'=>x.1 ≤ D.length∧nx5 < nx'∧(∀ y,y < nx5→H' y=H5 y)∧H' nx5=some [x.2]∧Row H' 1 x.2 (((D.take x.1).filter fun s=>!bx D s).map av)∧∀ B,di x.2=some B→nx5 < B∧B < nx') (fun x=>D.length - x.1) (0,.esl) ⟨Nat.zero_le _,by omega,fun y hy=>ag (by omega),ah,Row.nil,fun B h=>(by cases h)⟩ (by (iterate 7 refine And.intro rfl ?_); trivial) ?_
 rintro ⟨k,sv⟩ H' nx' ⟨h1,hnx',hsm,gb,hrow,hbd⟩
 dsimp only at h1 gb hrow hbd ⊢
 by_cases hk:k < D.length
 rotate_left
 ·rw [List.take_of_length_le (by omega)] at hrow
  obtain ⟨o1,o2⟩:=hrow.one
  have g6:H' 0=some [.esl]:=(hsm 0 (by omega)).trans g5
  (have zz:=aI @gb (aI @g6 (aI @o1 @o2)); repeat' (first|refine zW ?_|apply a_n|apply a_x|refine zO ?_|refine vY ?_|refine stY ?_|(refine zGY ?_ ?_ <;> (intro _hg; try (exfalso; omega)))|refine ai rfl ?_|refine r1Y ?_|fail)) <;> (try clear zz)
  exact kJ (an (iW (hrow.same fun B hB=>ag (by have:=hbd B hB; omega))) aa)
 have ix:=gS hk
 have hDk:=hD _ (bc hk)
 have hpos:0 < (D.getD k default).length:=List.length_pos_iff.2 hDk.2.2
 have hcv:=pi D (D.getD k default) hOk (hOk.2 _ (bc hk)) hpos
 have iy:=ix2 (l:=D.getD k default) (k:=0) hpos
 rw [show ((0:Nat):Int)=0 from rfl] at iy
 have hks:(D.getD k default).getD 0 default ∈ ks:=(hinc.dom _).2 (uW hk (bc hpos))
 have hmf:=kL ((D.getD k default).getD 0 default) ks
 rw [if_pos hks] at hmf
 obtain ⟨m1,m2⟩:=jc hks
 have hr:=hinc.row _ m1
 rw [m2] at hr
 have hr':=hr.same (H':=H') (fun B hB=>hsm B (hinc.bnd _ B m1 hB).2.1)
 have hbox:=(hsm nx3 hinc.lt).trans hinc.box
 have hft:=qg (p:=fun s=>!bx D s) hk
 have hfl:(((D.take k).filter fun s=>!bx D s).map av).length ≤ 100000:=by
  rw [List.length_map]
  have:=List.length_filter_le (fun s=>!bx D s) (D.take k)
  rw [List.length_take] at this; omega
 generalize hsk:D.getD k default=s at *
 (have zz:=aI @ix @iy; repeat' (first|refine zW ?_|apply a_n|refine zO ?_|refine vY ?_|(refine zGY ?_ ?_ <;> (intro _hg; try (exfalso; omega)))|fail)) <;> (try clear zz)
 refine iu ev0 hbox ev0 (jX _) hmf ?_
 rw [show mget .esl false (some (ks.idxOf (s.getD 0 default))) vs=vs.getD (ks.idxOf (s.getD 0 default)) .undef from rfl]
 (have zz:=and_self; repeat' (first|apply a_n|refine zO ?_|refine vY ?_|fail)) <;> (try clear zz)
 cases hb:bx D s
 ·rw [hb] at hcv hft
  rw [if_pos (by decide)] at hft
  refine ci ev0 ev0 hcv (ac (an (bh _ _) (an (rD hr') (an (az _ _) aa))) rfl) ?_
  (have zz:=and_self; repeat' (first|apply a_n|refine zO ?_|refine vY ?_|refine cTY ?_|fail)) <;> (try clear zz)
  refine ny nx5 gb fun S0 hS hsub=>?_
  (have zz:=@hS; repeat' (first|apply a_n|refine zO ?_|refine nvY ?_|fail)) <;> (try clear zz)
  refine gL ?_
  refine uK ev0 ev0 (pq s (by omega)) (an (az _ _) aa) ?_
  refine nO ⟨hsub _ gb,?_⟩
  refine gL ?_
  (have zz:=aI @aF @ay; repeat' (first|apply a_n|refine zO ?_|refine blY ?_|fail)) <;> (try clear zz)
  refine ⟨hsub _ (by rw [ag (by omega)]; exact gb),?_⟩
  refine jO ?_
  refine jk rfl ev0 (hrow.same fun B hB=>?_) ev0 ec rfl rfl Nat.one_pos (by omega) (by omega) ?_
  ·have:=hbd B hB; rw [ag (by omega)]
  rintro s2 H2 nx2 hr2 i1 i2 i3 i4
  have gb2:H2 nx5=some [sv]:=(i3 nx5 (by omega) (fun h=>by have:=hbd _ h; omega)).trans (by rw [ag (by omega)]; exact gb)
  obtain ⟨o1,o2⟩:=hr2.one
  (have zz:=aI @gb2 (aI @o1 @o2); repeat' (first|apply a_n|refine zO ?_|refine vY ?_|refine nvY ?_|apply jO|refine stY ?_|fail)) <;> (try clear zz)
  refine ⟨(k + 1,s2),by dsimp only; omega,⟨by dsimp only; omega,by omega,fun y hy=>?_,by rw [ah]; rfl,?_,fun B hB=>?_⟩,ag0⟩
  ·rw [ag (by omega),i3 y (by omega) (fun h=>by have:=hbd _ h; omega),ag (by omega)]; exact hsm y hy
  ·dsimp only
   rw [hft,List.map_append]
   refine hr2.same fun B hB=>ag ?_
   rcases i4 B hB with h | h
   ·have:=hbd B h; omega
   ·omega
  ·rcases i4 B hB with h | h
   ·have:=hbd B h; omega
   ·omega
 ·rw [hb] at hcv hft
  rw [if_neg (by decide),List.append_nil] at hft
  refine ci ev0 ev0 hcv (ac (an (bh _ _) (an (rD hr') (an (az _ _) aa))) rfl) ?_
  (have zz:=and_self; repeat' (first|apply a_n|refine zO ?_|refine vY ?_|refine cFY ?_|fail)) <;> (try clear zz)
  exact ⟨(k + 1,sv),by dsimp only; omega,⟨by dsimp only; omega,hnx',hsm,gb,by dsimp only; rw [hft]; exact hrow,hbd⟩,ag0⟩
end Go.Proofs.YtbgdcebmgjafjaaGreat
namespace Go.Proofs.YtbgdcebmgjafjaaGreat
open Go Go.Abs
def K16:Type:={x:List Int // x.length=16}
instance:DecidableEq K16:=inferInstanceAs (DecidableEq {x:List Int // x.length=16})
def kK (s:Spx):K16:=⟨eN 8 s,by rw [ky]⟩
def eK (x:K16):AV:=xM x.1
theorem mL:∀ {n:Nat} {xs ys:List Int},xs.length=n→ys.length=n→bV (List.replicate n .int) (xs.map (AV.int .i64)) (ys.map (AV.int .i64))=some (decide (xs=ys))
 | 0,[],[],_,_=>rfl
 | 0,_ :: _,_,h,_=>absurd h (by simp)
 | 0,[],_ :: _,_,h=>absurd h (by simp)
 | n + 1,[],_,h,_=>absurd h (by simp)
 | n + 1,_ :: _,[],_,h=>absurd h (by simp)
 | n + 1,x :: xs,y :: ys,h1,h2=>by
  have ih:=mL (n:=n) (xs:=xs) (ys:=ys) (by simpa using h1) (by simpa using h2)
  have e:(x == y)=decide (x=y):=rfl
  rw [List.replicate_succ,List.map_cons,List.map_cons]
  by_cases hxy:x=y
  ·subst hxy
   simp only [bV,fB,if_true,e,decide_true,ih]
   simp
  ·simp only [bV,fB,if_true,e,decide_eq_false hxy]
   simp [hxy]
theorem zj (a b:K16):kp (.st [.int,.int,.int,.int,.int,.int,.int,.int,.int,.int,.int,.int,.int,.int,.int,.int]) (eK a) (eK b)=some (decide (a=b)):=by
 show bV (List.replicate 16 .int) (a.1.map (AV.int .i64)) (b.1.map (AV.int .i64))=_
 rw [mL a.2 b.2]
 congr 1
 exact decide_eq_decide.2 ⟨Subtype.ext,fun h=>congrArg Subtype.val h⟩
theorem Am (v:K16) (ks:List K16):bX (.st [.int,.int,.int,.int,.int,.int,.int,.int,.int,.int,.int,.int,.int,.int,.int,.int]) (eK v) (ks.map eK)=some (if v ∈ ks then some (ks.idxOf v) else none):=lf _ eK zj v ks
theorem xj (v:K16):f0 (.st [.int,.int,.int,.int,.int,.int,.int,.int,.int,.int,.int,.int,.int,.int,.int,.int]) (eK v)=true:=by
 show (16 == (v.1.map (AV.int .i64)).length)=true
 rw [List.length_map,v.2]; rfl
def iG (s:Spx):Prop:=1 ≤ s.length∧s.length ≤ 8∧∀ v ∈ s,0 ≤ v.color
theorem zF {s t:Spx} (hs:iG s) (ht:iG t) (h:kK s=kK t):s=t:=qI hs.2.1 ht.2.1 hs.2.2 ht.2.2 (congrArg Subtype.val h)
theorem zA {O:List Spx} {f:Spx} (hO:∀ s ∈ O,iG s) (hf:iG f):kK f ∈ O.map kK ↔ f ∈ O:=by
 rw [List.mem_map]
 exact ⟨fun ⟨s,h1,h2⟩=>by rw [← zF (hO s h1) hf h2]; exact h1,fun h=>⟨f,h,rfl⟩⟩
theorem ya {s:Spx} (h:b0 s=0):iG s:=by
 obtain ⟨p1,p2,p3,p4⟩:=cm h
 refine ⟨p1,p2,fun v hv=>?_⟩
 have:=p4 v hv
 unfold bD at this
 simp only [Bool.and_eq_true,decide_eq_true_eq] at this
 exact this.1.1
theorem xd {s t:Spx} {k:Nat} (hs:iG s) (hk:1 ≤ k) (h:t ∈ bU s k):iG t:=by
 obtain ⟨h1,h2⟩:=cW.1 h
 exact ⟨by omega,Nat.le_trans h1.length_le hs.2.1,fun v hv=>hs.2.2 v (h1.subset hv)⟩
theorem r7 {O L P:List Spx} (hp:L.Perm O) (hs:aM bA 0 L.length L) (hn:O.Nodup) (hm:∀ s,s ∈ O ↔ s ∈ P):L=eY bA P:=by
 refine gC mq ?_ (gg mq P) fun s=>by rw [hp.mem_iff,hm,eh]
 unfold b7
 rw [List.pairwise_iff_getElem]
 intro i j hi hj hij
 have h1:=hs i j (Nat.zero_le _) hij hj
 rw [show L.getD i default=L[i] by simp [List.getD,hi],show L.getD j default=L[j] by simp [List.getD,hj]] at h1
 rcases mq.tri L[i] L[j] with h | h | h
 ·exact h
 ·have:=(List.nodup_iff_pairwise_ne.1 (hp.nodup_iff.2 hn))
  exact absurd h ((List.pairwise_iff_getElem.1 this) i j hi hj hij)
 ·exact absurd h h1
end Go.Proofs.YtbgdcebmgjafjaaGreat
namespace Go.Proofs.YtbgdcebmgjafjaaGreat
open Go Go.Abs
open Nat (reduceEqDiff reduceAdd reduceLeDiff)
attribute [local irreducible] aG al a9 aW aN aP aC aQ aZ bt Go.Abs.Fn aV Go.Abs.Pure ax aL Yl
theorem xO (l:List Spx) (k:Nat) (hl:l.length ≤ 50) (hs:∀ s ∈ l,b0 s=0) (hk:1 ≤ k∧k ≤ 8):Pure Tryz.prog 72 [aE l,.int .i64 k] (.tup [aE (dl l k),.int .i64 0]):=by
 refine Pure.of_c2 follows BP (Nat.le_of_ble_eq_true rfl) ?_
 simp only [b72,cO,cG,cN,cM,cD,cF,cB,au,aK]
 have h8:∀ s ∈ l,s.length ≤ 8:=fun s h=>(cm (hs s h)).2.1
 have hgood:∀ s ∈ l.flatMap (fun s=>bU s k),iG s:=fun s h=>by
  obtain ⟨t,t1,t2⟩:=j4.1 h
  exact xd (ya (hs t t1)) hk.1 t2
 have hfl:=jR (k:=k) h8
 have z0:decide ((0:Int) ≠ 0)=false:=rfl
 (have zz:=@aB; repeat' (first|refine zW ?_|apply a_n|refine zO ?_|refine vY ?_|fail)) <;> (try clear zz)
 refine wy ?_
 (have zz:=@aB; repeat' (first|refine zW ?_|apply a_n|refine zO ?_|refine vY ?_|fail)) <;> (try clear zz)
 refine aR (X:=Nat × AV × List Spx) (fun x=>[(1,.int .i64 k),(6,.mp 0),(7,x.2.1),(15,aE l),(16,.int .i64 l.length),(17,.int .i64 x.1)]) (fun x H nx=>x.1 ≤ l.length∧1 ≤ nx∧H 0=some [.omap ((x.2.2.map kK).map eK) (x.2.2.map fun _=>.bool true)]∧Row H 1 x.2.1 (x.2.2.map av)∧(∀ b,di x.2.1=some b→1 ≤ b∧b < nx)∧x.2.2.Nodup∧∀ s,s ∈ x.2.2 ↔ s ∈ (l.take x.1).flatMap fun s=>bU s k) (fun x=>l.length - x.1) (0,.esl,[]) ⟨Nat.zero_le _,by omega,ah,Row.nil,fun b h=>(by cases h),List.nodup_nil,fun s=>by simp⟩ (by (iterate 6 refine And.intro rfl ?_); trivial) ?_
 rintro ⟨i,sv,O⟩ H nx ⟨h1,hnx,g0,hrow,hbd,hnd,hmem⟩
 dsimp only at h1 g0 hrow hbd hnd hmem ⊢
 obtain ⟨o1,o2⟩:=hrow.one
 by_cases hi:i < l.length
 rotate_left
 ·rw [List.take_of_length_le (by omega)] at hmem
  have hOl:O.length ≤ 3500:=by
   have:=List.Nodup.length_le_of_subset hnd (l₂:=l.flatMap fun s=>bU s k) (fun s h=>(hmem s).1 h)
   omega
  have hsort:Abs.Fn Tryz.prog 109 [sv,.func 59 []] H nx fun _ H' nx'=>Row H' 1 sv ((dl l k).map av):=by
   generalize hcs:O.map av=cs at hrow
   cases hrow with
   | nil =>
    have hO0:O=[]:=List.map_eq_nil_iff.1 hcs
    refine Abs.Fn.mono (nQ rfl) ?_
    rintro _ _ _ ⟨rfl,rfl⟩
    have:dl l k=[]:=by
     unfold dl
     rw [nA,List.eq_nil_iff_forall_not_mem]
     intro s h
     have:=(hmem s).2 h
     rw [hO0] at this; cases this
    rw [this]; exact Row.nil
   | box b len cs k1 k2 =>
    obtain rfl:len=O.length:=by rw [← hcs,List.length_map] at k2; omega
    have hb:=hbd b rfl
    subst hcs
    by_cases h0:O.length=0
    ·have hO0:O=[]:=List.length_eq_zero_iff.1 h0
     subst hO0
     refine Abs.Fn.mono (nQ rfl) ?_
     rintro _ _ _ ⟨rfl,rfl⟩
     have:dl l k=[]:=by
      unfold dl
      rw [nA,List.eq_nil_iff_forall_not_mem]
      intro s h
      have:=(hmem s).2 h
      cases this
     rw [this]; exact Row.box b 0 _ k1 rfl
    ·have hg:∀ s ∈ O,Shn s:=fun s h=>show s.length ≤ _ by have:=(hgood s ((hmem s).1 h)).2.1; omega
     have hsf:=uo Ap (L:=O) (b:=b) (nx:=nx) (n:=O.length) k1 hb.2 rfl (by omega) hg (by omega)
     rw [Nat.mul_one]
     refine Abs.Fn.mono hsf ?_
     rintro _ H' nx' ⟨L',ps,p1,p2⟩
     have hlen:=p1.length_eq
     have:=r7 p1 (by rw [hlen]; exact p2) hnd hmem
     unfold dl
     rw [← this,← hlen]
     have:=Row.box (H:=H') (sz:=1) b L'.length (L'.map av) ps.at_ (by simp)
     rwa [Nat.mul_one] at this
  (have zz:=and_self; repeat' (first|refine zW ?_|apply a_n|apply a_x|refine zO ?_|refine vY ?_|(refine zGY ?_ ?_ <;> (intro _hg; try (exfalso; omega)))|fail)) <;> (try clear zz)
  refine aA ev0 ev0 hsort ?_
  rintro r H' nx' hr
  (have zz:=aI @o1 @o2; repeat' (first|refine zW ?_|apply a_n|refine zO ?_|refine vY ?_|refine ai rfl ?_|refine r2Y ?_|fail)) <;> (try clear zz)
  exact jA (iW hr) rfl
 have ix:=gS hi
 have hft:=vB (k:=k) hi
 have hpm:∀ s ∈ (l.take (i + 1)).flatMap (fun s=>bU s k),s ∈ l.flatMap fun s=>bU s k:=fun s h=>by
  obtain ⟨t,t1,t2⟩:=j4.1 h
  exact j4.2 ⟨t,List.mem_of_mem_take t1,t2⟩
 have hsi:=hs _ (bc hi)
 have h8i:=h8 _ (bc hi)
 have hfx:=ww (l.getD i default) k (show _ ≤ _ by omega)
 have hfe:(l.getD i default).length < k ∨ mP (l.getD i default) k=(bU (l.getD i default) k,0):=by
  by_cases h:(l.getD i default).length < k
  ·exact .inl h
  ·refine .inr ?_
   unfold mP
   rw [if_neg (fun h=>h hsi),if_neg (by omega),Int.toNat_natCast]
 have hcar:∀ s ∈ bU (l.getD i default) k,iG s:=fun s h=>hgood s (hpm s (by rw [hft]; exact List.mem_append_right _ h))
 by_cases hlt:(l.getD i default).length < k
 ·have z:decide (((l.getD i default).length:Int) < k)=true:=decide_eq_true (by omega)
  rw [tB hlt,List.append_nil] at hft
  generalize l.getD i default=s at *
  (have zz:=aI @aw (aI @ix (aI @z (aI @o1 @o2))); repeat' (first|refine zW ?_|apply a_n|apply a_x|refine zO ?_|refine vY ?_|refine cTY ?_|(refine zGY ?_ ?_ <;> (intro _hg; try (exfalso; omega)))|fail)) <;> (try clear zz)
  exact ⟨(i + 1,sv,O),by dsimp only; omega,⟨by dsimp only; omega,hnx,g0,hrow,hbd,hnd,by dsimp only; rw [hft]; exact hmem⟩,ag0⟩
 have z:decide (((l.getD i default).length:Int) < k)=false:=decide_eq_false (by omega)
 rw [hfe.resolve_left hlt] at hfx
 clear hfe
 have hgP:∀ s ∈ (l.take i).flatMap (fun s=>bU s k),iG s:=fun s h=>hgood s (hpm s (by rw [hft]; exact List.mem_append_left _ h))
 have hPl:((l.take i).flatMap (fun s=>bU s k) ++ bU (l.getD i default) k).length ≤ 3500:=by
  rw [← hft]
  have:=jR (k:=k) (c:=l.take (i + 1)) (fun s h=>h8 s (List.mem_of_mem_take h))
  rw [List.length_take] at this; omega
 generalize l.getD i default=s at *
 generalize bU s k=R at *
 generalize (l.take i).flatMap (fun s=>bU s k)=P at *
 have hRl:R.length ≤ 3500:=by rw [List.length_append] at hPl; omega
 (have zz:=aI @aw (aI @aB (aI @ix (aI @z (aI @z0 (aI @o1 @o2))))); repeat' (first|refine zW ?_|apply a_n|refine zO ?_|refine vY ?_|refine cY ?_ (hp:=hfx) (hs:=by (first | refine ac ?_ rfl | apply ae); (repeat' (first | exact aa | apply aj | apply af | exact az _)); first | done | fail)|refine cFY ?_|(refine zGY ?_ ?_ <;> (intro _hg; try (exfalso; omega)))|fail)) <;> (try clear zz)
 refine aR (X:=Nat × AV × List Spx) (fun x=>[(1,.int .i64 k),(6,.mp 0),(7,x.2.1),(15,aE l),(16,.int .i64 l.length),(17,.int .i64 i),(34,aE R),(35,.int .i64 R.length),(36,.int .i64 x.1)]) (fun x H nx=>x.1 ≤ R.length∧1 ≤ nx∧H 0=some [.omap ((x.2.2.map kK).map eK) (x.2.2.map fun _=>.bool true)]∧Row H 1 x.2.1 (x.2.2.map av)∧(∀ b,di x.2.1=some b→1 ≤ b∧b < nx)∧x.2.2.Nodup∧∀ s,s ∈ x.2.2 ↔ s ∈ P ++ R.take x.1) (fun x=>R.length - x.1) (0,sv,O) ⟨Nat.zero_le _,hnx,g0,hrow,hbd,hnd,by dsimp only; rw [List.take_zero,List.append_nil]; exact hmem⟩ ag0 ?_
 clear g0 hrow hbd hnd hmem hnx o1 o2
 rintro ⟨j,sv,O⟩ H nx ⟨j1,hnx,g0,hrow,hbd,hnd,hmem⟩
 dsimp only at j1 g0 hrow hbd hnd hmem ⊢
 obtain ⟨o1,o2⟩:=hrow.one
 have hOl:O.length ≤ 3500:=by
  have:=List.Nodup.length_le_of_subset hnd (l₂:=P ++ R.take j) (fun s h=>(hmem s).1 h)
  rw [List.length_append,List.length_take] at this
  rw [List.length_append] at hPl
  omega
 by_cases hj:j < R.length
 rotate_left
 ·rw [List.take_of_length_le (by omega)] at hmem
  have hls:cw sv=some (.int .i64 O.length):=hrow.lenS (by rw [List.length_map,Nat.mul_one]) Nat.one_pos
  have z1:decide ((4096:Int) < O.length)=false:=decide_eq_false (by omega)
  (have zz:=aI @hls (aI @z1 (aI @o1 @o2)); repeat' (first|refine zW ?_|apply a_n|apply a_x|refine zO ?_|refine vY ?_|refine cFY ?_|(refine zGY ?_ ?_ <;> (intro _hg; try (exfalso; omega)))|fail)) <;> (try clear zz)
  exact ⟨(i + 1,sv,O),by dsimp only; omega,⟨by dsimp only; omega,hnx,g0,hrow,hbd,hnd,by dsimp only; rw [hft]; exact hmem⟩,ag0⟩
 have iy:=gS hj
 have hgf:=hcar _ (bc hj)
 have hgO:∀ s ∈ O,iG s:=fun s h=>by
  rcases List.mem_append.1 ((hmem s).1 h) with h | h
  ·exact hgP s h
  ·exact hcar s (List.mem_of_mem_take h)
 have hkey:=yn (R.getD j default) hgf.1 hgf.2.1
 have hts:R.take (j + 1)=R.take j ++ [R.getD j default]:=bG hj
 have hmf:=Am (kK (R.getD j default)) (O.map kK)
 have hmk:=zA hgO hgf
 generalize R.getD j default=f at *
 by_cases hf:f ∈ O
 ·rw [if_pos (hmk.2 hf)] at hmf
  have hlt2:(O.map kK).idxOf (kK f) < (O.map kK).length:=List.idxOf_lt_length_iff.2 (hmk.2 hf)
  have hgv:mget (.bool false) false (some ((O.map kK).idxOf (kK f))) (O.map fun _=>AV.bool true)=.bool true:=by
   rw [List.length_map] at hlt2
   simp [mget,List.getD,hlt2]
  (have zz:=aI @iy (aI @o1 @o2); repeat' (first|refine zW ?_|apply a_n|refine zO ?_|refine vY ?_|refine cY ?_ (hp:=hkey) (hs:=by (first | refine ac ?_ rfl | apply ae); (repeat' (first | exact aa | apply aj | apply af | exact az _)); first | done | fail)|(refine zGY ?_ ?_ <;> (intro _hg; try (exfalso; omega)))|fail)) <;> (try clear zz)
  refine iu ev0 g0 (by ((try simp only [bS,ZA,reduceEqDiff,↓reduceIte,reduceAdd,reduceLeDiff]); (try with_reducible rfl)); rfl) (xj (kK f)) hmf ?_
  rw [hgv]
  (have zz:=aI @o1 @o2; repeat' (first|apply a_n|refine zO ?_|refine vY ?_|refine cFY ?_|fail)) <;> (try clear zz)
  refine ⟨(j + 1,sv,O),by dsimp only; omega,⟨by dsimp only; omega,hnx,g0,hrow,hbd,hnd,fun s=>?_⟩,ag0⟩
  dsimp only
  rw [hts,← List.append_assoc,List.mem_append,← hmem,List.mem_singleton]
  exact ⟨.inl,fun h=>h.elim id fun e=>by rw [e]; exact hf⟩
 ·rw [if_neg (fun h=>hf (hmk.1 h))] at hmf
  have hgv:mget (.bool false) false none (O.map fun _=>AV.bool true)=.bool false:=rfl
  (have zz:=aI @iy (aI @o1 @o2); repeat' (first|refine zW ?_|apply a_n|refine zO ?_|refine vY ?_|refine cY ?_ (hp:=hkey) (hs:=by (first | refine ac ?_ rfl | apply ae); (repeat' (first | exact aa | apply aj | apply af | exact az _)); first | done | fail)|(refine zGY ?_ ?_ <;> (intro _hg; try (exfalso; omega)))|fail)) <;> (try clear zz)
  refine iu ev0 g0 (by ((try simp only [bS,ZA,reduceEqDiff,↓reduceIte,reduceAdd,reduceLeDiff]); (try with_reducible rfl)); rfl) (xj (kK f)) hmf ?_
  rw [hgv]
  (have zz:=aI @o1 @o2; repeat' (first|refine zW ?_|apply a_n|refine zO ?_|refine vY ?_|refine cY ?_ (hp:=hkey) (hs:=by (first | refine ac ?_ rfl | apply ae); (repeat' (first | exact aa | apply aj | apply af | exact az _)); first | done | fail)|refine cTY ?_|fail)) <;> (try clear zz)
  refine wh ev0 g0 (by ((try simp only [bS,ZA,reduceEqDiff,↓reduceIte,reduceAdd,reduceLeDiff]); (try with_reducible rfl)); rfl) ev0 (xj (kK f)) hmf ?_
  (have zz:=aI @o1 (aI @o2 (aI @aF @ay)); repeat' (first|apply a_n|refine zO ?_|refine vY ?_|refine blY ?_|fail)) <;> (try clear zz)
  refine jk rfl ev0 (hrow.same fun b hb=>?_) ev0 ec rfl rfl Nat.one_pos (by rw [List.length_map]; omega) (by rw [List.length_map]; omega) ?_
  ·have:=hbd b hb
   rw [ag (by omega),ag (by omega)]
  rintro s2 H2 nx2 hr2 i1 i2 i3 i4
  obtain ⟨o3,o4⟩:=hr2.one
  (have zz:=aI @o3 @o4; repeat' (first|apply a_n|refine zO ?_|refine vY ?_|fail)) <;> (try clear zz)
  refine ⟨(j + 1,s2,O ++ [f]),by dsimp only; omega,⟨by dsimp only; omega,by omega,?_,?_,fun b hb=>?_,?_,fun s=>?_⟩,ag0⟩
  ·rw [i3 0 (by omega) (fun h=>by have:=hbd 0 h; omega),ag (by omega),ah]
   simp [bI,er]
  ·dsimp only
   rw [List.map_append]; exact hr2
  ·rcases i4 b hb with h | h
   ·have:=hbd b h; omega
   ·omega
  ·exact List.nodup_append.2 ⟨hnd,by simp,fun a ha c hc=>by simp at hc; subst hc; intro e; subst e; exact hf ha⟩
  ·dsimp only
   rw [hts,← List.append_assoc,List.mem_append,List.mem_append,← hmem]
end Go.Proofs.YtbgdcebmgjafjaaGreat
namespace Go.Proofs.YtbgdcebmgjafjaaGreat
open Go Go.Abs
theorem nT (K:Nat→Int):∀ n,(∀ i j,i < j→j < n→K j < 0→K i < 0)→∃ b,b ≤ n∧(∀ i,i < b→K i < 0)∧∀ i,b ≤ i→i < n→0 ≤ K i
 | 0,_=>⟨0,Nat.le_refl _,fun i h=>absurd h (by omega),fun i _ h=>absurd h (by omega)⟩
 | n + 1,hm=>by
  by_cases h:K n < 0
  ·refine ⟨n + 1,Nat.le_refl _,fun i hi=>?_,fun i h1 h2=>absurd h1 (by omega)⟩
   by_cases e:i=n
   ·subst e; exact h
   ·exact hm i n (by omega) (by omega) h
  ·obtain ⟨b,h1,h2,h3⟩:=nT K n (fun i j hi hj=>hm i j hi (by omega))
   refine ⟨b,by omega,h2,fun i hi hi2=>?_⟩
   by_cases e:i=n
   ·subst e; omega
   ·exact h3 i hi (by omega)
theorem yV {tb tf:Bool} {i j:Nat}:aX .shr tb tf (.int .u64 ((i:Int) + (j:Int))) (.int .u64 1)=some (.int .u64 (((i + j) / 2:Nat):Int)):=by
 have:=pT (k:=.u64) (a:=i + j) (b:=1) (tb:=tb) (tf:=tf) (k':=.u64) (by decide)
 simpa using this
attribute [local irreducible] aG al a9 aW aN aP aC aQ aZ bt Go.Abs.Fn aV Go.Abs.Pure ax aL Yl
theorem j7 (c:List Spx) (k:Int) (hc:c.length ≤ 50) (hs:∀ s ∈ c,Shn s):Pure Tryz.prog 32 [ez c,.int .i64 k] (.tup [aE (gP c k).1,.int .i64 (gP c k).2]):=by
 refine Pure.of_c2 follows Az (Nat.le_of_ble_eq_true rfl) ?_
 simp only [b32,cO,cG,cN,cM,cD,cF,cB,au,aK]
 have hcc:=gz c (show _ ≤ _ by omega) hs
 unfold gP
 by_cases he:aO c=0
 rotate_left
 ·rw [if_pos he]
  have z:decide (aO c ≠ 0)=true:=decide_eq_true he
  (have zz:=aI @aD (aI @ar @z); repeat' (first|refine zW ?_|apply a_n|apply a_r|refine zO ?_|refine vY ?_|refine cY ?_ (hp:=hcc) (hs:=by (first | refine ac ?_ rfl | apply ae); (repeat' (first | exact aa | apply aj | apply af | exact bi _)); first | done | fail)|refine bxY ?_|refine cTY ?_|refine ai rfl ?_|refine r2Y ?_|fail)) <;> (try clear zz)
  exact jA (.eslsl _) rfl
 rw [if_neg (fun h=>h he)]
 rw [he] at hcc
 have z0:decide ((0:Int) ≠ 0)=false:=rfl
 obtain ⟨p1,p2,p3,p4⟩:=cr he
 by_cases hk:k < 1 ∨ 8 < k
 ·rw [if_pos hk]
  (have zz:=aI @aD (aI @ar @z0); repeat' (first|refine zW ?_|apply a_n|apply a_r|refine zO ?_|refine vY ?_|refine cY ?_ (hp:=hcc) (hs:=by (first | refine ac ?_ rfl | apply ae); (repeat' (first | exact aa | apply aj | apply af | exact bi _)); first | done | fail)|refine bxY ?_|refine gTY ?_|refine gFY ?_|refine cTY ?_|refine cFY ?_|(refine zGY ?_ ?_ <;> (intro _hg; try (exfalso; omega)))|refine ai rfl ?_|refine r2Y ?_|fail)) <;> (try clear zz)
  all_goals first | exact jA (.eslsl _) rfl | (exfalso; omega)
 rw [if_neg hk]
 obtain ⟨n,rfl⟩:∃ n:Nat,k=n:=⟨k.toNat,by omega⟩
 rw [Int.toNat_natCast]
 have ha:=xO c n hc p2 ⟨by omega,by omega⟩
 (have zz:=aI @aD (aI @ar (aI @aB @z0)); repeat' (first|refine zW ?_|apply a_n|refine zO ?_|refine vY ?_|refine cY ?_ (hp:=by first | exact hcc | exact ha) (hs:=by (first | refine ac ?_ rfl | apply ae); (repeat' (first | exact aa | apply aj | apply af | exact bi _ | exact bh _)); first | done | fail)|refine bxY ?_|refine gTY ?_|refine cFY ?_|(refine zGY ?_ ?_ <;> (intro _hg; try (exfalso; omega)))|refine ai rfl ?_|refine r2Y ?_|fail)) <;> (try clear zz)
 exact jA (bh _).snap rfl
theorem sP (l:List Spx) (v:Spx) (hl:Shn l) (hs:∀ c ∈ l,Shn c) (hv:Shn v) {b:Nat} (hb:b ≤ l.length) (h1:∀ i,i < b→bA (l.getD i default) v < 0) (h2:∀ i,b ≤ i→i < l.length→0 ≤ bA (l.getD i default) v) :
    Pure Tryz.prog 93 [aE l,av v,.func 59 []] (.tup [.int .i64 b,.bool (decide (b < l.length) && decide (bA (l.getD b default) v=0))]):=by
 refine Pure.of_c2 follows Cb (Nat.le_of_ble_eq_true rfl) ?_
 simp only [b93,cO,cG,cN,cM,cD,cF,cB,au,aK]
 have hl':l.length ≤ 17592186044416:=hl
 (have zz:=aI @aF (aI @ay @aB); repeat' (first|refine zW ?_|apply a_n|refine zO ?_|refine vZ ?_|fail)) <;> (try clear zz)
 refine rX (X:=Nat × Nat) (fun x=>[(0,aE l),(1,av v),(2,.func 59 []),(8,.int .i64 l.length),(9,.int .i64 x.1),(10,.int .i64 x.2)]) (fun x=>x.1 ≤ b∧b ≤ x.2∧x.2 ≤ l.length) (fun x=>x.2 - x.1) (0,l.length) ⟨Nat.zero_le _,hb,Nat.le_refl _⟩ ag0 ?_
 rintro ⟨i,j⟩ ⟨g1,g2,g3⟩
 dsimp only at g1 g2 g3 ⊢
 by_cases hij:i < j
 ·have hh:(i + j) / 2 < l.length:=by omega
  have hc:=gp (l.getD ((i + j) / 2) default) v (hs _ (bc hh)) hv
  have ix:=gS hh
  by_cases hn:bA (l.getD ((i + j) / 2) default) v < 0
  ·have hbb:(i + j) / 2 < b:=Nat.lt_of_not_le fun h=>by have:=h2 _ h hh; omega
   (have zz:=aI @aF (aI @ay (aI @aB (aI @ee (aI @yV @ix)))); repeat' (first|refine zW ?_|apply a_n|refine zO ?_|refine vZ ?_|refine cZ ?_ (hp:=hc) (hs:=by (first | refine ac ?_ rfl | apply ae); (repeat' (first | exact aa | apply aj | apply af | exact az _)); first | done | fail)|(refine zGZ ?_ ?_ <;> (intro _hg; try (exfalso; omega)))|fail)) <;> (try clear zz)
   exact ⟨((i + j) / 2 + 1,j),⟨by omega,by omega,by omega⟩,by dsimp only; omega,ag0,rfl,rfl⟩
  ·have hbb:b ≤ (i + j) / 2:=Nat.le_of_not_lt fun h=>hn (h1 _ h)
   (have zz:=aI @aF (aI @ay (aI @aB (aI @ee (aI @yV @ix)))); repeat' (first|refine zW ?_|apply a_n|refine zO ?_|refine vZ ?_|refine cZ ?_ (hp:=hc) (hs:=by (first | refine ac ?_ rfl | apply ae); (repeat' (first | exact aa | apply aj | apply af | exact az _)); first | done | fail)|(refine zGZ ?_ ?_ <;> (intro _hg; try (exfalso; omega)))|fail)) <;> (try clear zz)
   exact ⟨(i,(i + j) / 2),⟨by omega,by omega,by omega⟩,by dsimp only; omega,ag0,rfl,rfl⟩
 ·have ei:i=b:=by omega
  have ej:j=b:=by omega
  clear hij g1 g2 g3
  subst ei
  by_cases hlt:i < l.length
  ·have hc:=gp (l.getD i default) v (hs _ (bc hlt)) hv
   have ix:=gS hlt
   have dlt:decide ((i:Int) < (l.length:Int))=true:=decide_eq_true (by omega)
   have dij:decide ((i:Int) < (j:Int))=false:=decide_eq_false (by omega)
   (have zz:=aI @aF (aI @ay (aI @aB (aI @ix (aI @dlt @dij)))); repeat' (first|refine zW ?_|apply a_n|apply a_x|refine zO ?_|refine vZ ?_|refine cZ ?_ (hp:=hc) (hs:=by (first | refine ac ?_ rfl | apply ae); (repeat' (first | exact aa | apply aj | apply af | exact az _)); first | done | fail)|refine gTZ ?_|refine cFZ ?_|refine ai rfl ?_|refine r2Z ?_|fail)) <;> (try clear zz)
   refine eT (an (.int _ _) (an (br ?_) aa))
   rw [decide_eq_true hlt,Bool.true_and]
  ·have dlt:decide ((i:Int) < (l.length:Int))=false:=decide_eq_false (by omega)
   have dij:decide ((i:Int) < (j:Int))=false:=decide_eq_false (by omega)
   (have zz:=aI @aF (aI @ay (aI @aB (aI @dlt @dij))); repeat' (first|refine zW ?_|apply a_n|apply a_x|refine zO ?_|refine vZ ?_|refine gFZ ?_|refine cFZ ?_|refine ai rfl ?_|refine r2Z ?_|fail)) <;> (try clear zz)
   refine eT (an (.int _ _) (an (br ?_) aa))
   rw [decide_eq_false hlt,Bool.false_and]
theorem xP (l:List Spx) (v:Spx) (hl:Shn l) (hs:∀ c ∈ l,Shn c) (hv:Shn v) (ha:b7 bA l):∃ b:Nat,Pure Tryz.prog 58 [aE l,av v,.func 59 []] (.tup [.int .i64 b,.bool (decide (v ∈ l))])∧(v ∈ l→b < l.length∧l.getD b default=v):=by
 obtain ⟨b,hb,h1,h2⟩:=nT (fun i=>bA (l.getD i default) v) l.length (fun i j hij hj h=>mq.trans (cT ha hij hj) h)
 have hc:=sP l v hl hs hv hb h1 h2
 have he:(decide (b < l.length) && decide (bA (l.getD b default) v=0))=decide (v ∈ l)∧(v ∈ l→b < l.length∧l.getD b default=v):=by
  by_cases hm:v ∈ l
  ·obtain ⟨i,hi,e⟩:=List.getElem_of_mem hm
   have e':l.getD i default=v:=by simp [List.getD,hi,e]
   have hbi:b=i:=by
    rcases Nat.lt_trichotomy b i with h | h | h
    ·have h3:=h2 b (Nat.le_refl _) (by omega)
     have h4:=cT ha h hi
     rw [e'] at h4; omega
    ·exact h
    ·have h3:=h1 i h
     rw [e',eB] at h3; omega
   subst hbi
   rw [decide_eq_true hi,decide_eq_true hm,e',decide_eq_true (eB v)]
   exact ⟨rfl,fun _=>⟨hi,rfl⟩⟩
  ·rw [decide_eq_false hm]
   refine ⟨?_,fun h=>absurd h hm⟩
   by_cases hlt:b < l.length
   ·rw [decide_eq_true hlt,Bool.true_and,decide_eq_false]
    intro h
    exact hm (by rw [← mC h]; exact bc hlt)
   ·rw [decide_eq_false hlt,Bool.false_and]
 rw [he.1] at hc
 refine ⟨b,?_,he.2⟩
 refine Pure.of_c2 follows A5 (Nat.le_of_ble_eq_true rfl) ?_
 simp only [b58,cO,cG,cN,cM,cD,cF,cB,au,aK]
 (have zz:=aI @aF (aI @ay (aI @aD @ar)); repeat' (first|refine zW ?_|apply a_n|refine zO ?_|refine vZ ?_|refine cZ ?_ (hp:=hc) (hs:=by (first | refine ac ?_ rfl | apply ae); (repeat' (first | exact aa | apply aj | apply af | exact bh _ | exact az _ | exact Dat.func DatL.nil)); first | done | fail)|refine ai rfl ?_|refine r2Z ?_|fail)) <;> (try clear zz)
 exact eT (an (.int _ _) (an (.bool _) aa))
end Go.Proofs.YtbgdcebmgjafjaaGreat
namespace Go.Proofs.YtbgdcebmgjafjaaGreat
open Go Go.Abs
def fW (m:MapV) (X Y:List Spx) (n i:Nat):List Nat:=(List.range n).filter fun k=>decide (bq m (X.getD k default)=Y.getD i default)
theorem v9 {m:MapV} {X Y:List Spx} {n i:Nat}:fW m X Y (n + 1) i=fW m X Y n i ++ if bq m (X.getD n default)=Y.getD i default then [n] else []:=by
 unfold fW
 rw [List.range_succ,List.filter_append]
 by_cases h:bq m (X.getD n default)=Y.getD i default
 ·rw [if_pos h,List.filter_cons_of_pos (by simpa using h),List.filter_nil]
 ·rw [if_neg h,List.filter_cons_of_neg (by simpa using h),List.filter_nil]
theorem rq {m:MapV} {X Y:List Spx} {n i:Nat}:(fW m X Y n i).length ≤ n:=by
 unfold fW
 exact Nat.le_trans (List.length_filter_le _ _) (by simp)
def ff (l:List Nat):List Int:=l.map fun (n:Nat)=>(n:Int)
def dN (m:MapV) (X Y:List Spx):List (List Int):=(List.range Y.length).map fun i=>ff (fW m X Y X.length i)
def iU (c:Int) (rows:List (List Int)):AV:=.agg [.int .i64 c,bH rows]
theorem dW (c:Int) (rows:List (List Int)):Dat (iU c rows):=Dat.agg (DatL.cons .int (DatL.cons (o5 _) DatL.nil))
def ew (m:MapV) (a b:List Spx) (d:Int):(Int × List (List Int)) × Int:=if (dK m a b).2 ≠ 0 then ((0,[]),(dK m a b).2) else if (dK m a b).1=false then ((0,[]),22) else if d < 0 ∨ 8 ≤ d then ((0,[]),2) else ((((dl a (d + 1).toNat).length:Nat),dN m (dl a (d + 1).toNat) (dl b (d + 1).toNat)),0)
structure MatOk (H:Hp) (b lo hi n:Nat) (F:Nat→List Nat) (vs:List AV):Prop where
 box:H b=some vs
 len:vs.length=n
 row:∀ j,j < n→Row H 1 (vs.getD j .undef) ((F j).map vo)
 bnd:∀ j B,j < n→di (vs.getD j .undef)=some B→lo ≤ B∧B < hi∧B ≠ b
 apart:∀ i j B,i < n→j < n→i ≠ j→di (vs.getD i .undef)=some B→di (vs.getD j .undef) ≠ some B
theorem MatOk.same {H H':Hp} {b lo hi hi' n:Nat} {F G:Nat→List Nat} {vs:List AV} (h:MatOk H b lo hi n F vs) (hb:H' b=H b) (hs:∀ x,lo ≤ x→x < hi→x ≠ b→H' x=H x) (hh:hi ≤ hi') (hG:∀ j,j < n→G j=F j):MatOk H' b lo hi' n G vs :=
 ⟨hb.trans h.box,h.len,fun j hj=>by rw [hG j hj]; exact (h.row j hj).same fun B hB=>by have:=h.bnd j B hj hB; exact hs B this.1 this.2.1 this.2.2,fun j B hj hB=>by have:=h.bnd j B hj hB; exact ⟨this.1,by omega,this.2.2⟩,h.apart⟩
theorem MatOk.put {H H':Hp} {b lo hi hi' n i x:Nat} {F G:Nat→List Nat} {vs:List AV} {sv:AV} (h:MatOk H b lo hi n F vs) (hin:i < n) (hG:∀ j,j < n→G j=if j=i then F j ++ [x] else F j) (hrow:Row H' 1 sv ((F i ++ [x]).map vo)) (hB:∀ B,di sv=some B→di (vs.getD i .undef)=some B ∨ hi ≤ B∧B < hi'∧B ≠ b) (hb:H' b=some (vs.set i sv))
    (hs:∀ x,lo ≤ x→x < hi→x ≠ b→di (vs.getD i .undef) ≠ some x→H' x=H x) (hh:hi ≤ hi') (hlo:lo ≤ hi):MatOk H' b lo hi' n G (vs.set i sv):=by
 have hl:=h.len
 have hg:∀ j,(vs.set i sv).getD j .undef=if i=j then sv else vs.getD j .undef:=fun j=>pB (by omega)
 refine ⟨hb,by simp [hl],fun j hj=>?_,fun j B hj=>?_,fun p q B hp hq hpq=>?_⟩
 ·rw [hg,hG j hj]
  by_cases e:i=j
  ·rw [if_pos e,if_pos e.symm,← e]; exact hrow
  ·rw [if_neg e,if_neg (fun h=>e h.symm)]
   exact (h.row j hj).same fun B hB'=>by
    have:=h.bnd j B hj hB'
    exact hs B this.1 this.2.1 this.2.2 fun h'=>h.apart i j B hin hj e h' hB'
 ·rw [hg]
  by_cases e:i=j
  ·rw [if_pos e]
   intro hB'
   rcases hB B hB' with h' | h'
   ·have:=h.bnd _ B hin h'; exact ⟨this.1,by omega,this.2.2⟩
   ·exact ⟨by omega,h'.2⟩
  ·rw [if_neg e]
   intro hB'
   have:=h.bnd j B hj hB'
   exact ⟨this.1,by omega,this.2.2⟩
 ·rw [hg,hg]
  by_cases e1:i=p
  ·rw [if_pos e1,if_neg (by omega)]
   intro h1 h2
   rcases hB B h1 with h' | h'
   ·exact h.apart i q B hin hq (by omega) h' h2
   ·have:=h.bnd q B hq h2; omega
  ·rw [if_neg e1]
   by_cases e2:i=q
   ·rw [if_pos e2]
    intro h1 h2
    rcases hB B h2 with h' | h'
    ·exact h.apart p i B hp hin (by omega) h1 h'
    ·have:=h.bnd p B hp h1; omega
   ·rw [if_neg e2]; exact h.apart p q B hp hq hpq
theorem MatOk.snap {H:Hp} {b lo hi n:Nat} {F:Nat→List Nat} {vs:List AV} (h:MatOk H b lo hi n F vs):Snap H (.msl b n 1 0 n) (bH ((List.range n).map fun i=>ff (F i))):=by
 refine j6 (l:=((List.range n).map fun i=>ff (F i)).map bJ) h.box h.len (by omega) (by simp) (fun y hy=>?_) (fun i a c ha hc=>?_)
 ·obtain ⟨z,_,rfl⟩:=List.mem_map.1 hy; rfl
 ·have hin:i < n:=by
    have:=(List.getElem?_eq_some_iff.1 hc).1
    simpa using this
  have hr:=h.row i hin
  rw [Nat.zero_add] at ha
  have e1:vs.getD i .undef=a:=by rw [List.getD_eq_getElem?_getD,ha]; rfl
  rw [e1] at hr
  have e2:c=bJ (ff (F i)):=by
   rw [List.getElem?_map,List.getElem?_map,List.getElem?_range hin] at hc
   simpa using hc.symm
  rw [e2]
  exact rD hr
theorem MatOk.new {H:Hp} {b lo hi n:Nat} {F:Nat→List Nat} (hb:H b=some (List.replicate n .esl)) (hF:∀ j,j < n→F j=[]):MatOk H b lo hi n F (List.replicate n .esl):=by
 have hg:∀ j,j < n→(List.replicate n AV.esl).getD j .undef=.esl:=fun j hj=>by simp [List.getD,List.getElem?_replicate,hj]
 refine ⟨hb,by simp,fun j hj=>?_,fun j B hj h=>?_,fun i j B hi hj _ h=>?_⟩
 ·rw [hg j hj,hF j hj]; exact Row.nil
 ·rw [hg j hj] at h; cases h
 ·rw [hg i hi] at h; cases h
end Go.Proofs.YtbgdcebmgjafjaaGreat
namespace Go.Proofs.YtbgdcebmgjafjaaGreat
open Go Go.Abs
theorem kF {H:Hp} {s:AV} {c:Int} {l:List (List Int)} {e f:Int} (h:Snap H s (bH l)) (he:e=f):Snap H (.tup [.agg [.int .i64 c,s],.int .i64 e]) (.tup [iU c l,.int .i64 f]):=by
 subst he; exact eT (an (kJ (an (.int _ _) (an h aa))) (an (.int _ _) aa))
theorem xE {m:MapV} {a b:List Spx} (h:(dK m a b).2=0) (h2:(dK m a b).1=true):cb m=0∧aO a=0∧aO b=0∧a.all (bo m)=true∧((a.map (bq m)).all fun s=>b.any fun t=>cz s t)=true:=by
 unfold dK at h h2
 split at h
 ·exact absurd h ‹_›
 split at h
 ·exact absurd h ‹_›
 split at h
 ·exact absurd h ‹_›
 split at h
 ·cases h
 rename_i g1 g2 g3 g4
 rw [if_neg g1,if_neg g2,if_neg g3,if_neg g4] at h2
 refine ⟨Decidable.of_not_not g1,Decidable.of_not_not g2,Decidable.of_not_not g3,by cases e:a.all (bo m) with | true=>rfl | false=>exact absurd e g4,?_⟩
 exact h2
theorem fy {c:List Spx} {k:Nat} {s:Spx}:s ∈ dl c k ↔ ∃ t ∈ c,s ∈ bU t k:=by
 unfold dl; rw [eh,j4]
theorem ro {c:List Spx} {k:Nat}:b7 bA (dl c k):=gg mq _
theorem ib {c:List Spx} {k:Nat} (h:c.length ≤ 50) (h8:∀ s ∈ c,s.length ≤ 8):(dl c k).length ≤ 3500:=Nat.le_trans iB (Nat.le_trans (jR h8) (by omega))
attribute [local irreducible] aG al a9 aW aN aP aC aQ aZ bt Go.Abs.Fn aV Go.Abs.Pure ax aL Yl
theorem li (m:MapV) (a b:List Spx) (d:Int) (hm:ShM m) (ha:a.length ≤ 50) (has:∀ s ∈ a,Shn s) (hb:b.length ≤ 50) (hbs:∀ s ∈ b,Shn s):Pure Tryz.prog 18 [iM m,ez a,ez b,.int .i64 d] (.tup [iU (ew m a b d).1.1 (ew m a b d).1.2,.int .i64 (ew m a b d).2]):=by
 refine Pure.of_c2 follows Cx (Nat.le_of_ble_eq_true rfl) ?_
 simp only [b18,cO,cG,cN,cM,cD,cF,cB,au,aK]
 have hsm:=pV m a b hm (show _ ≤ _ by omega) has (show _ ≤ _ by omega) hbs
 unfold ew
 by_cases he:(dK m a b).2=0
 rotate_left
 ·rw [if_pos he]
  have z:decide ((dK m a b).2 ≠ 0)=true:=decide_eq_true he
  generalize dK m a b=q at *
  obtain ⟨q1,q2⟩:=q
  (have zz:=aI @aF (aI @ay (aI @aD (aI @ar @z))); repeat' (first|refine zW ?_|apply a_n|apply a_r|refine zO ?_|refine vY ?_|refine cY ?_ (hp:=hsm) (hs:=by (first | refine ac ?_ rfl | apply ae); (repeat' (first | exact aa | apply aj | apply af | exact bC _ | exact bi _)); first | done | fail)|refine alY ?_|refine bxY ?_|refine stY ?_|refine cTY ?_|refine ai rfl ?_|refine r2Y ?_|fail)) <;> (try clear zz)
  exact kF (.eslsl _) rfl
 rw [if_neg (fun h=>h he)]
 have z0:decide ((0:Int) ≠ 0)=false:=rfl
 cases hs1:(dK m a b).1
 ·rw [if_pos rfl]
  rw [he,hs1] at hsm
  (have zz:=aI @aF (aI @ay (aI @aD (aI @ar @z0))); repeat' (first|refine zW ?_|apply a_n|apply a_r|refine zO ?_|refine vY ?_|refine cY ?_ (hp:=hsm) (hs:=by (first | refine ac ?_ rfl | apply ae); (repeat' (first | exact aa | apply aj | apply af | exact bC _ | exact bi _)); first | done | fail)|refine alY ?_|refine bxY ?_|refine stY ?_|refine cTY ?_|refine cFY ?_|refine ai rfl ?_|refine r2Y ?_|fail)) <;> (try clear zz)
  exact kF (.eslsl _) rfl
 rw [if_neg (fun h=>by cases h)]
 obtain ⟨w1,w2,w3,w4,w5⟩:=xE he hs1
 rw [he,hs1] at hsm
 by_cases hd:d < 0 ∨ 8 ≤ d
 ·rw [if_pos hd]
  (have zz:=aI @aF (aI @ay (aI @aD (aI @ar @z0))); repeat' (first|refine zW ?_|apply a_n|apply a_r|refine zO ?_|refine vY ?_|refine cY ?_ (hp:=hsm) (hs:=by (first | refine ac ?_ rfl | apply ae); (repeat' (first | exact aa | apply aj | apply af | exact bC _ | exact bi _)); first | done | fail)|refine alY ?_|refine bxY ?_|refine stY ?_|refine gTY ?_|refine gFY ?_|refine cTY ?_|refine cFY ?_|(refine zGY ?_ ?_ <;> (intro _hg; try (exfalso; omega)))|refine ai rfl ?_|refine r2Y ?_|fail)) <;> (try clear zz)
  all_goals first | exact kF (.eslsl _) rfl | (exfalso; omega)
 rw [if_neg hd]
 obtain ⟨n,hn⟩:∃ n:Nat,d + 1=n:=⟨(d + 1).toNat,by omega⟩
 have hX:=j7 a (d + 1) ha has
 have hY:=j7 b (d + 1) hb hbs
 unfold gP at hX hY
 rw [if_neg (fun h=>h w2),if_neg (by omega)] at hX
 rw [if_neg (fun h=>h w3),if_neg (by omega)] at hY
 obtain ⟨v1,v2,v3,v4⟩:=cr w2
 obtain ⟨u1,u2,u3,u4⟩:=cr w3
 have a8:∀ s ∈ a,s.length ≤ 8:=fun s h=>(cm (v2 s h)).2.1
 have b8:∀ s ∈ b,s.length ≤ 8:=fun s h=>(cm (u2 s h)).2.1
 rw [hn] at hX hY ⊢
 rw [Int.toNat_natCast] at hX hY ⊢
 have hXl:=ib (k:=n) ha a8
 have hYl:=ib (k:=n) hb b8
 have hXm:∀ s ∈ dl a n,s ≠ []∧s.length ≤ 8∧bo m s=true:=fun s h=>by
  obtain ⟨t,t1,t2⟩:=fy.1 h
  obtain ⟨g1,g2⟩:=cW.1 t2
  refine ⟨fun e=>by rw [e] at g2; simp at g2; omega,Nat.le_trans g1.length_le (a8 t t1),ca.2 fun v hv=>ca.1 (List.all_eq_true.1 w4 t t1) v (g1.subset hv)⟩
 have hYm:∀ s ∈ dl b n,Shn s:=fun s h=>by
  obtain ⟨t,t1,t2⟩:=fy.1 h
  have:=(cW.1 t2).1.length_le
  have:=b8 t t1
  show _ ≤ _; omega
 have hYa:=ro (c:=b) (k:=n)
 generalize dl a n=X at *
 generalize dl b n=Y at *
 (have zz:=aI @aF (aI @ay (aI @aD (aI @ar (aI @z0 @hn)))); repeat' (first|refine zW ?_|apply a_n|refine zO ?_|refine vY ?_|refine cY ?_ (hp:=by first | exact hsm | exact hX | exact hY) (hs:=by (first | refine ac ?_ rfl | apply ae); (repeat' (first | exact aa | apply aj | apply af | exact bC _ | exact bi _)); first | done | fail)|refine alY ?_|refine bxY ?_|refine gTY ?_|refine cFY ?_|(refine zGY ?_ ?_ <;> (intro _hg; try (exfalso; omega)))|fail)) <;> (try clear zz)
 refine aA ev0 ev0 (qb m hm _ _) ?_
 rintro _ H1 nx1 ⟨hsm1,hle,h⟩
 have gr:H1 3=some [.int .i64 0,.esl]:=(hsm1 3 (by omega)).trans ah
 rcases h with ⟨-,B,rfl,hB1,hB2,hB3⟩ | ⟨he',-⟩
 rotate_left
 ·exact absurd w1 he'
 obtain ⟨q1,q2,q3,q4,q5⟩:=fZ w1
 have hzc:aY (AV.agg [AV.esl]) Y.length=List.replicate Y.length .esl:=by simp [aY,AV.cells]
 (have zz:=@aB; repeat' (first|refine zW ?_|apply a_n|refine zO ?_|refine vY ?_|fail)) <;> (try clear zz)
 refine wd (k1:=.i64) (k2:=.i64) (n:=Y.length) (m:=Y.length) rfl ev0 ev0 (by omega) (Int.le_refl _) (by omega) (by omega) ?_
 rw [Int.toNat_natCast,hzc,Nat.mul_one]
 (have zz:=@aB; repeat' (first|refine zW ?_|apply a_n|refine zO ?_|refine vY ?_|refine alY ?_|refine stY ?_|fail)) <;> (try clear zz)
 refine aR (X:=Nat × List AV) (fun x=>[(8,.ptr 3 2 0),(13,aE Y),(14,.mp B),(16,.ptr (nx1 + 1) 2 0),(80,aE X),(81,.int .i64 X.length),(82,.int .i64 x.1)]) (fun x H' nx'=>x.1 ≤ X.length∧nx1 + 2 ≤ nx'∧(∀ y,y < nx1→H' y=H1 y)∧H' (nx1 + 1)=some [.int .i64 X.length,.msl nx1 Y.length 1 0 Y.length]∧MatOk H' nx1 (nx1 + 2) nx' Y.length (fW m X Y x.1) x.2) (fun x=>X.length - x.1) (0,List.replicate Y.length .esl) ⟨Nat.zero_le _,by omega,fun y hy=>by (repeat rw [ag (by omega)]),by rw [ah]; rfl,MatOk.new (by (repeat rw [ag (by omega)]); rw [ah]) (fun j _=>rfl)⟩ (by (iterate 7 refine And.intro rfl ?_); trivial) ?_
 rintro ⟨k,vs⟩ H' nx' ⟨h1,h2,h3,h4,hmat⟩
 dsimp only at h1 h2 h3 h4 hmat ⊢
 by_cases hk:k < X.length
 rotate_left
 ·obtain rfl:k=X.length:=by omega
  have g6:H' 3=some [.int .i64 0,.esl]:=(h3 3 (by omega)).trans gr
  have hst:Snap (ak H' 3 [.int .i64 X.length,.msl nx1 Y.length 1 0 Y.length]) (.msl nx1 Y.length 1 0 Y.length) (bH (dN m X Y)):=(hmat.same (hi':=nx') (G:=fW m X Y X.length) (ag (by omega)) (fun x x1 x2 x3=>ag (by omega)) (Nat.le_refl _) (fun j _=>rfl)).snap
  (have zz:=aI @h4 @g6; repeat' (first|refine zW ?_|apply a_n|apply a_x|refine zO ?_|refine vY ?_|refine stY ?_|(refine zGY ?_ ?_ <;> (intro _hg; try (exfalso; omega)))|refine ai rfl ?_|refine r2Y ?_|fail)) <;> (try clear zz)
  exact kF hst rfl
 have ix:=gS hk
 obtain ⟨s1,s2,s3⟩:=hXm _ (bc hk)
 have hof:=Au m (X.getD k default) q2 (by omega) s1 B H' nx' ((h3 B hB2).trans hB3) (by omega)
 have hle8:=i6 (m:=m) (l:=X.getD k default)
 obtain ⟨p,hpl,hpm⟩:=xP Y (bq m (X.getD k default)) (show _ ≤ _ by omega) hYm (show _ ≤ _ by omega) hYa
 have hF:∀ i,fW m X Y (k + 1) i=fW m X Y k i ++ if bq m (X.getD k default)=Y.getD i default then [k] else []:=fun i=>v9
 generalize X.getD k default=s at *
 (have zz:=@ix; repeat' (first|refine zW ?_|apply a_n|refine zO ?_|refine vY ?_|(refine zGY ?_ ?_ <;> (intro _hg; try (exfalso; omega)))|fail)) <;> (try clear zz)
 refine aA ev0 ev0 hof ?_
 rintro _ H2 nx2 ⟨hle2,h⟩
 rcases h with ⟨ht,-,-⟩ | ⟨-,sv,Hf,H3,rfl,hone,hfz,hsn,hsm3⟩
 ·rw [s3] at ht; cases ht
 generalize bq m s=t at *
 (have zz:=@hone; repeat' (first|apply a_n|refine zO ?_|refine vY ?_|fail)) <;> (try clear zz)
 refine eL ?_
 refine kH Hf H3 [(8,.ptr 3 2 0),(13,aE Y),(14,.mp B),(16,.ptr (nx1 + 1) 2 0),(17,.int .i64 k),(19,av t),(80,aE X),(81,.int .i64 X.length),(82,.int .i64 k)] hfz ⟨.inl rfl,.inl rfl,.inl rfl,.inl rfl,.inl rfl,.inr hsn,.inl rfl,.inl rfl,.inl rfl,trivial⟩ ?_
 have m3:MatOk H3 nx1 (nx1 + 2) nx2 Y.length (fW m X Y k) vs:=hmat.same (hsm3 _ (by omega)) (fun x x1 x2 x3=>hsm3 x x2) (by omega) (fun j _=>rfl)
 have h43:H3 (nx1 + 1)=some [.int .i64 X.length,.msl nx1 Y.length 1 0 Y.length]:=(hsm3 _ (by omega)).trans h4
 have h33:∀ y,y < nx1→H3 y=H1 y:=fun y hy=>(hsm3 y (by omega)).trans (h3 y hy)
 clear hmat h4 h3 hsm3 hfz hsn hof
 by_cases hin:t ∈ Y
 rotate_left
 ·rw [decide_eq_false hin] at hpl
  (have zz:=and_self; repeat' (first|refine zW ?_|apply a_n|refine zO ?_|refine vY ?_|refine cY ?_ (hp:=hpl) (hs:=by (first | refine ac ?_ rfl | apply ae); (repeat' (first | exact aa | apply aj | apply af | exact bh _ | exact az _ | exact Dat.func DatL.nil)); first | done | fail)|refine cFY ?_|fail)) <;> (try clear zz)
  refine ⟨(k + 1,vs),by dsimp only; omega,⟨by dsimp only; omega,by omega,h33,h43,m3.same rfl (fun _ _ _ _=>rfl) (Nat.le_refl _) (fun j hj=>?_)⟩,ag0⟩
  dsimp only
  rw [hF,if_neg (fun e=>hin (by rw [e]; exact bc hj)),List.append_nil]
 rw [decide_eq_true hin] at hpl
 obtain ⟨p1,p2⟩:=hpm hin
 (have zz:=and_self; repeat' (first|refine zW ?_|apply a_n|refine zO ?_|refine vY ?_|refine cY ?_ (hp:=hpl) (hs:=by (first | refine ac ?_ rfl | apply ae); (repeat' (first | exact aa | apply aj | apply af | exact bh _ | exact az _ | exact Dat.func DatL.nil)); first | done | fail)|refine cTY ?_|fail)) <;> (try clear zz)
 refine kQ (nx1 + 1) nx1 h43 m3.box (by omega) fun S0 hS1 hS2 hsub=>?_
 have hrow:=m3.row p p1
 have hvs:vs[p]?=some (vs.getD p .undef):=by
  have:=m3.len
  simp [List.getD,show p < vs.length by omega]
 have hlen:=m3.len
 generalize hrv:vs.getD p .undef=rv at *
 (have zz:=aI @hS1 (aI @hS2 (aI @hvs @hlen)); repeat' (first|apply a_n|refine zO ?_|refine nvY ?_|fail)) <;> (try clear zz)
 have hFl:=rq (m:=m) (X:=X) (Y:=Y) (n:=k) (i:=p)
 have hb3:∀ b,di rv=some b→nx1 + 2 ≤ b∧b < nx2∧b ≠ nx1:=fun b hb=>m3.bnd p b p1 (by rw [hrv]; exact hb)
 refine gL ?_
 (have zz:=and_self; repeat' (first|apply a_n|refine zO ?_|refine blY ?_|fail)) <;> (try clear zz)
 refine ⟨hsub _ (by rw [ag (by omega)]; exact h43) (by rw [ag (by omega)]; exact m3.box),?_⟩
 refine gL ?_
 refine jk rfl ev0 (hrow.same fun b hb=>?_) ev0 ec rfl rfl Nat.one_pos (by rw [List.length_map]; omega) (by rw [List.length_map]; omega) ?_
 ·have:=hb3 b hb; rw [ag (by omega)]
 rintro s2 H4 nx4 hr2 i1 i2 i3 i4
 have lo:∀ x,x < nx2→di rv ≠ some x→H4 x=H3 x:=fun x x1 x2=>(i3 x (by omega) x2).trans (ag (by omega))
 have l1:H4 nx1=H3 nx1:=lo nx1 (by omega) (fun h=>by have:=hb3 _ h; omega)
 have l2:H4 (nx1 + 1)=H3 (nx1 + 1):=lo _ (by omega) (fun h=>by have:=hb3 _ h; omega)
 have g1:H4 nx1=some vs:=l1.trans m3.box
 have g2:=l2.trans h43
 obtain ⟨o1,o2⟩:=hr2.one
 refine nO ⟨hsub _ g2 g1,?_⟩
 have hlp:bf vs p [s2]=vs.set p s2:=by
  simp only [bf,List.length_cons,List.length_nil,Nat.zero_add]
  rw [List.set_eq_take_append_cons_drop,if_pos (by omega)]; simp
 (have zz:=aI @g1 (aI @o1 (aI @o2 (aI @hlen @hlp))); repeat' (first|apply a_n|refine zO ?_|refine vY ?_|refine nvY ?_|apply jO|refine stY ?_|fail)) <;> (try clear zz)
 refine ⟨(k + 1,vs.set p s2),by dsimp only; omega,⟨by dsimp only; omega,by omega,fun y hy=>?_,?_,?_⟩,ag0⟩
 ·rw [ag (by omega),lo y (by omega) (fun h=>by have:=hb3 _ h; omega)]; exact h33 y hy
 ·rw [ag (by omega)]; exact g2
 ·dsimp only
  refine m3.put (sv:=s2) (x:=k) p1 (fun j hj=>?_) ?_ (fun b hb=>?_) (by rw [ah,hlp]) (fun x x1 x2 x3 x4=>?_) (by omega) (by omega)
  ·rw [hF]
   by_cases e:j=p
   ·rw [if_pos e,if_pos (by rw [e,p2])]
   ·rw [if_neg e,if_neg (fun h=>e ?_),List.append_nil]
    rcases Nat.lt_trichotomy j p with h' | h' | h'
    ·have:=cT hYa h' p1
     rw [← h,p2,eB] at this; omega
    ·exact h'
    ·have:=cT hYa h' hj
     rw [← h,p2,eB] at this; omega
  ·rw [List.map_append]
   exact hr2.same fun b hb=>ag (by
    rcases i4 b hb with h | h
    ·have:=hb3 b h; omega
    ·omega)
  ·rw [hrv]
   rcases i4 b hb with h | h
   ·exact .inl h
   ·exact .inr ⟨by omega,by omega,by omega⟩
  ·rw [ag x3,lo x x2 (by rw [hrv] at x4; exact x4)]
end Go.Proofs.YtbgdcebmgjafjaaGreat
namespace Go.Proofs.YtbgdcebmgjafjaaGreat
open Go Go.Abs
attribute [local irreducible] aG al a9 aW aN aP aC aQ aZ bt Go.Abs.Fn aV Go.Abs.Pure ax aL Yl
theorem vP (x y:List Int) (hx:x.length ≤ 1000000000) (hy:y.length ≤ 1000000000):Pure Tryz.prog 63 [bJ x,bJ y] (.bool (decide (x=y))):=by
 refine Pure.of_c2 follows Bi (Nat.le_of_ble_eq_true rfl) ?_
 simp only [b63,cO,cG,cN,cM,cD,cF,cB,au,aK]
 by_cases hl:x.length=y.length
 rotate_left
 ·have z:decide ((x.length:Int) ≠ y.length)=true:=decide_eq_true (by omega)
  (have zz:=@z; repeat' (first|refine zW ?_|apply a_n|apply a_r|refine zO ?_|refine vZ ?_|refine cTZ ?_|refine ai rfl ?_|refine r1Z ?_|fail)) <;> (try clear zz)
  exact br (by symm; rw [decide_eq_false_iff_not]; rintro rfl; exact hl rfl)
 have z:decide ((x.length:Int) ≠ y.length)=false:=decide_eq_false (by omega)
 (have zz:=@z; repeat' (first|refine zW ?_|apply a_n|refine zO ?_|refine vZ ?_|refine cFZ ?_|fail)) <;> (try clear zz)
 refine rX (X:=Nat) (fun k=>[(0,bJ x),(1,bJ y),(5,.int .i64 k)]) (fun k=>k ≤ x.length∧∀ i,i < k→x.getD i default=y.getD i default) (fun k=>x.length - k) 0 ⟨Nat.zero_le _,fun i h=>absurd h (by omega)⟩ ag0 ?_
 rintro k ⟨h1,h2⟩
 by_cases hk:k < x.length
 rotate_left
 ·(have zz:=and_self; repeat' (first|refine zW ?_|apply a_n|apply a_x|refine zO ?_|refine vZ ?_|(refine zGZ ?_ ?_ <;> (intro _hg; try (exfalso; omega)))|refine ai rfl ?_|refine r1Z ?_|fail)) <;> (try clear zz)
  refine br ?_
  symm
  rw [decide_eq_true_eq]
  refine List.ext_getElem hl fun i a b=>?_
  have:=h2 i (by omega)
  simpa [List.getD,a,b] using this
 by_cases he:x.getD k default=y.getD k default
 ·have z2:decide (x.getD k default ≠ y.getD k default)=false:=decide_eq_false (fun h=>h he)
  (have zz:=@z2; repeat' (first|refine zW ?_|apply a_n|refine zO ?_|refine vZ ?_|refine cFZ ?_|(refine zGZ ?_ ?_ <;> (intro _hg; try (exfalso; omega)))|fail)) <;> (try clear zz)
  exact ⟨k + 1,⟨by omega,fun i hi=>by
   rcases Nat.lt_succ_iff_lt_or_eq.1 hi with h' | rfl
   ·exact h2 i h'
   ·exact he⟩,by omega,ag0,rfl,rfl⟩
 ·have z2:decide (x.getD k default ≠ y.getD k default)=true:=decide_eq_true he
  (have zz:=@z2; repeat' (first|refine zW ?_|apply a_n|apply a_r|refine zO ?_|refine vZ ?_|refine cTZ ?_|(refine zGZ ?_ ?_ <;> (intro _hg; try (exfalso; omega)))|refine ai rfl ?_|refine r1Z ?_|fail)) <;> (try clear zz)
  exact br (by symm; rw [decide_eq_false_iff_not]; rintro rfl; exact he rfl)
theorem u9 (c:Int) (x:List (List Int)) (hx:x.length ≤ 1000000) (hxs:∀ r ∈ x,r.length ≤ 1000000):Pure Tryz.prog 21 [iU c x,iU c x] (.bool true):=by
 refine Pure.of_c2 follows Ar (Nat.le_of_ble_eq_true rfl) ?_
 simp only [b21,cO,cG,cN,cM,cD,cF,cB,au,aK]
 unfold iU
 have z1:decide (c ≠ c)=false:=by simp
 have z2:decide ((x.length:Int) ≠ x.length)=false:=by simp
 (have zz:=aI @z1 @z2; repeat' (first|refine zW ?_|apply a_n|refine zO ?_|refine vY ?_|refine bxY ?_|refine gTY ?_|refine cFY ?_|fail)) <;> (try clear zz)
 refine aR (X:=Nat) (fun k=>[(2,.ptr 0 2 0),(3,.ptr 1 2 0),(5,.int .i64 k)]) (fun k H nx=>k ≤ x.length∧H 0=some [.int .i64 c,bH x]∧H 1=some [.int .i64 c,bH x]) (fun k=>x.length - k) 0 ⟨Nat.zero_le _,by rw [ag (by omega),ah],ah⟩ (by (iterate 3 refine And.intro rfl ?_); trivial) ?_
 rintro k H nx ⟨h1,g0,g1⟩
 by_cases hk:k < x.length
 rotate_left
 ·(have zz:=aI @g0 @g1; repeat' (first|refine zW ?_|apply a_n|apply a_x|refine zO ?_|refine vY ?_|(refine zGY ?_ ?_ <;> (intro _hg; try (exfalso; omega)))|refine ai rfl ?_|refine r1Y ?_|fail)) <;> (try clear zz)
  exact .bool _
 have hs:=vP (x.getD k default) (x.getD k default) (by have:=hxs _ (bc hk); omega) (by have:=hxs _ (bc hk); omega)
 rw [decide_eq_true rfl] at hs
 (have zz:=aI @g0 @g1; repeat' (first|refine zW ?_|refine zM ?_|apply a_n|refine zO ?_|refine vY ?_|refine cY ?_ (hp:=hs) (hs:=by (first | refine ac ?_ rfl | apply ae); (repeat' (first | exact aa | apply aj | apply af | exact eR _)); first | done | fail)|refine cFY ?_|(refine zGY ?_ ?_ <;> (intro _hg; try (exfalso; omega)))|fail)) <;> (try clear zz)
 exact ⟨k + 1,by omega,⟨by omega,g0,g1⟩,ag0⟩
end Go.Proofs.YtbgdcebmgjafjaaGreat
namespace Go.Proofs.YtbgdcebmgjafjaaGreat
open Go Go.Abs
open Nat (reduceEqDiff reduceAdd reduceLeDiff)
theorem t6 {x:Int} {l:List Int}:jx 1 (bJ (x :: l)) (some (.int .i64 1)) none none=some (bJ l):=jQ (l:=x :: l) (k:=1) (by simp)
theorem yR {x:Int} {l:List Int}:eo 1 (bJ (x :: l)) (.int .i64 0)=some (.iptr [.int .i64 x] 0):=by
 rw [iY,if_pos ⟨Int.le_refl _,by simp only [List.length_cons]; omega⟩]; rfl
theorem kW {P:Program} {T:Tm} {H:Hp} {nx:Nat} {dm:DM} {K:SP} {l:List Op2} {d:Option Nat} {bytes b N len n:Nat} {s x:Opd} {v:AV} {new C cs:List AV} (hd:dm2 dm T (.app 1 bytes s x)=true) (hs:ov T s=.msl b N 1 0 len) (hb:H b=some C) (hN:C.length=N) (htk:C.take len=cs) (hcl:cs.length=len) (hx:ov T x=v) (hsrc:cU 1 H v=some (n,new)) (ho:AV.ones new=true) (hnl:new.length=n) (hle:len + n ≤ N) (h1:N * bytes ≤ 140737488355328) (h2:N ≤ 9223372036854775807)
    (next:∀ C':List AV,C'.length=N→C'.take (len + n)=cs ++ new→al P dm l (aH T d (.msl b N 1 0 (len + n))) (ak H b C') nx K) :
    al P dm (⟨d,none,.app 1 bytes s x⟩ :: l) T H nx K:=by
 by_cases e:len=N
 ·obtain rfl:n=0:=by omega
  obtain rfl:new=[]:=List.eq_nil_of_length_eq_zero hnl
  subst e
  refine y6 hd hs hb hx hsrc ho hN (Nat.mul_one _).symm h1 (by omega) ?_
  rw [Nat.add_zero,Nat.mul_one]
  exact next _ (by rw [List.append_nil]; exact hN) (by rw [List.append_nil,List.append_nil,Nat.add_zero]; exact htk)
 ·refine xc hd hs hb hx hsrc ho hN (fun _=>by omega) (by omega) (by omega) ?_
  refine next _ ?_ ?_
  ·rw [fJ (by rw [hnl,hN]; omega)]; exact hN
  ·simp only [bf,Nat.zero_add,Nat.mul_one]
   rw [htk,List.take_append_of_le_length (by rw [List.length_append,hcl,hnl]; omega),List.take_of_length_le (by rw [List.length_append,hcl,hnl]; omega)]
theorem pp {H:Hp} {b N len:Nat} {C:List AV} {R:List Int} (hb:H b=some C) (hN:C.length=N) (hle:len ≤ N) (hR:R.length=len) (h:C.take len=R.map (AV.int .i64)):Snap H (.msl b N 1 0 len) (bJ R):=by
 refine j6 (l:=R.map (AV.int .i64)) hb hN (by omega) (by simp [hR]) (fun y hy=>?_) (fun i a c ha hc=>?_)
 ·obtain ⟨z,_,rfl⟩:=List.mem_map.1 hy; rfl
 ·have hin:i < len:=by have:=(List.getElem?_eq_some_iff.1 hc).1; rw [List.length_map] at this; omega
  rw [← h,List.getElem?_take,if_pos hin] at hc
  rw [Nat.zero_add,hc] at ha; cases ha
  have hm:a ∈ R.map (AV.int .i64):=by
   rw [← h]
   exact List.mem_of_getElem? (i:=i) (by rw [List.getElem?_take,if_pos hin]; exact hc)
  obtain ⟨z,_,rfl⟩:=List.mem_map.1 hm
  exact .int _ _
def fq:List Int→List Int→List Int
 | [],b=>b
 | x :: a,[]=>x :: a
 | x :: a,y :: b=>if x < y then x :: fq a (y :: b) else if y < x then y :: fq (x :: a) b else fq a b
termination_by a b=>a.length + b.length
theorem tH {b:List Int}:fq [] b=b:=by rw [fq]
theorem sO {a:List Int}:fq a []=a:=by cases a <;> rw [fq]
theorem tO {x y:Int} {a b:List Int}:fq (x :: a) (y :: b)=if x < y then x :: fq a (y :: b) else if y < x then y :: fq (x :: a) b else fq a b:=by rw [fq]
theorem jW:∀ (n:Nat) (a b:List Int),a.length + b.length ≤ n→(fq a b).length ≤ a.length + b.length
 | _,[],b,_=>by rw [tH]; simp
 | _,x :: a,[],_=>by rw [sO]; simp
 | 0,x :: a,y :: b,h=>by simp only [List.length_cons] at h; omega
 | n + 1,x :: a,y :: b,h=>by
  simp only [List.length_cons] at h ⊢
  rw [tO]
  have h1:=jW n a (y :: b) (by simp only [List.length_cons]; omega)
  have h2:=jW n (x :: a) b (by simp only [List.length_cons]; omega)
  have h3:=jW n a b (by omega)
  simp only [List.length_cons] at h1 h2
  split
  ·simp only [List.length_cons]; omega
  split
  ·simp only [List.length_cons]; omega
  ·omega
attribute [local irreducible] aG al a9 aW aN aP aC aQ aZ bt Go.Abs.Fn aV Go.Abs.Pure ax aL Yl
theorem uQ (x:List Int) (n:Int) (hx:x.length ≤ 1000000) (hr:∀ v ∈ x,0 ≤ v∧v < n) (ha:∀ i,i + 1 < x.length→x.getD i default < x.getD (i + 1) default):Pure Tryz.prog 131 [bJ x,.int .i64 n] (.int .i64 0):=by
 refine Pure.of_c2 follows Cl (Nat.le_of_ble_eq_true rfl) ?_
 simp only [BM,cO,cG,cN,cM,cD,cF,cB,au,aK]
 (have zz:=and_self; repeat' (first|refine zW ?_|apply a_n|refine zO ?_|refine vZ ?_|fail)) <;> (try clear zz)
 refine rX (X:=Nat) (fun k=>[(0,bJ x),(1,.int .i64 n),(7,bJ x),(8,.int .i64 x.length),(9,.int .i64 k)]) (fun k=>k ≤ x.length) (fun k=>x.length - k) 0 (Nat.zero_le _) ag0 ?_
 intro k hk
 by_cases hk2:k < x.length
 rotate_left
 ·(have zz:=and_self; repeat' (first|refine zW ?_|apply a_n|apply a_x|refine zO ?_|refine vZ ?_|(refine zGZ ?_ ?_ <;> (intro _hg; try (exfalso; omega)))|refine ai rfl ?_|refine r1Z ?_|fail)) <;> (try clear zz)
  exact .int _ _
 have h1:=hr _ (aq hk2)
 have z1:decide (x.getD k default < 0)=false:=decide_eq_false (by omega)
 have z2:decide (n ≤ x.getD k default)=false:=decide_eq_false (by omega)
 by_cases hk0:0 < k
 rotate_left
 ·have zk:decide (0 < (k:Int))=false:=decide_eq_false (by omega)
  (have zz:=aI @z1 (aI @z2 @zk); repeat' (first|refine zW ?_|apply a_n|refine zO ?_|refine vZ ?_|refine gTZ ?_|refine gFZ ?_|refine cFZ ?_|(refine zGZ ?_ ?_ <;> (intro _hg; try (exfalso; omega)))|fail)) <;> (try clear zz)
  exact ⟨k + 1,by omega,by omega,ag0,rfl,rfl⟩
 have zk:decide (0 < (k:Int))=true:=decide_eq_true (by omega)
 have h2:=ha (k - 1) (by omega)
 rw [show k - 1 + 1=k by omega] at h2
 have iy:eo 1 (bJ x) (.int .i64 ((k:Int) - 1))=some (.iptr [.int .i64 (x.getD (k - 1) default)] 0):=by
  rw [iY,if_pos ⟨by omega,by omega⟩,show ((k:Int) - 1).toNat=k - 1 by omega]
 have z3:decide (x.getD k default ≤ x.getD (k - 1) default)=false:=decide_eq_false (by omega)
 (have zz:=aI @z1 (aI @z2 (aI @zk (aI @iy @z3))); repeat' (first|refine zW ?_|apply a_n|refine zO ?_|refine vZ ?_|refine gTZ ?_|refine cFZ ?_|(refine zGZ ?_ ?_ <;> (intro _hg; try (exfalso; omega)))|fail)) <;> (try clear zz)
 exact ⟨k + 1,by omega,by omega,ag0,rfl,rfl⟩
def vt (c:Int) (R:List (List Int)):Prop:=0 ≤ c∧c ≤ 4096∧R.length ≤ 4096∧∀ r ∈ R,(∀ v ∈ r,0 ≤ v∧v < c)∧r.length ≤ 4096∧∀ i,i + 1 < r.length→r.getD i default < r.getD (i + 1) default
theorem oG (c:Int) (R:List (List Int)) (h:vt c R):Pure Tryz.prog 119 [.agg [.int .i64 c,bH R]] (.int .i64 0):=by
 refine Pure.of_c2 follows Cg (Nat.le_of_ble_eq_true rfl) ?_
 simp only [A7,cO,cG,cN,cM,cD,cF,cB,au,aK]
 obtain ⟨h1,h2,h3,h4⟩:=h
 have z1:decide (c < 0)=false:=decide_eq_false (by omega)
 have z2:decide (4096 < c)=false:=decide_eq_false (by omega)
 have z3:decide ((4096:Int) < R.length)=false:=decide_eq_false (by omega)
 (have zz:=aI @z1 (aI @z2 @z3); repeat' (first|refine zW ?_|apply a_n|refine zO ?_|refine vZ ?_|refine bxZ ?_|refine gTZ ?_|refine cFZ ?_|fail)) <;> (try clear zz)
 refine rX (X:=Nat) (fun k=>[(1,.ptr 0 2 0),(21,bH R),(22,.int .i64 R.length),(23,.int .i64 k)]) (fun k=>k ≤ R.length) (fun k=>R.length - k) 0 (Nat.zero_le _) (by (iterate 4 refine And.intro rfl ?_); trivial) ?_
 intro k hk
 by_cases hk2:k < R.length
 rotate_left
 ·(have zz:=and_self; repeat' (first|refine zW ?_|apply a_n|apply a_x|refine zO ?_|refine vZ ?_|(refine zGZ ?_ ?_ <;> (intro _hg; try (exfalso; omega)))|refine ai rfl ?_|refine r1Z ?_|fail)) <;> (try clear zz)
  exact .int _ _
 obtain ⟨r1,r2,r3⟩:=h4 _ (aq hk2)
 have hv:=uQ (R.getD k default) c (by omega) r1 r3
 have z0:decide ((0:Int) ≠ 0)=false:=rfl
 (have zz:=@z0; repeat' (first|refine zW ?_|apply a_n|refine zO ?_|refine vZ ?_|refine cZ ?_ (hp:=hv) (hs:=by (first | refine ac ?_ rfl | apply ae); (repeat' (first | exact aa | apply aj | apply af | exact eR _)); first | done | fail)|refine cFZ ?_|(refine zGZ ?_ ?_ <;> (intro _hg; try (exfalso; omega)))|fail)) <;> (try clear zz)
 exact ⟨k + 1,by omega,by omega,ag0,rfl,rfl⟩
theorem yk (c d:Int) (R S:List (List Int)) (hr:vt c R) (hs:vt d S):Pure Tryz.prog 82 [.agg [.int .i64 c,bH R],.agg [.int .i64 d,bH S]] (.int .i64 0):=by
 refine Pure.of_c2 follows C6 (Nat.le_of_ble_eq_true rfl) ?_
 simp only [b82,cO,cG,cN,cM,cD,cF,cB,au,aK]
 have h1:=oG c R hr
 have h2:=oG d S hs
 have z0:decide ((0:Int) ≠ 0)=false:=rfl
 have d1:Dat (.agg [.int .i64 c,bH R]):=dW c R
 have d2:Dat (.agg [.int .i64 d,bH S]):=dW d S
 (have zz:=@z0; repeat' (first|refine zW ?_|apply a_n|refine zO ?_|refine vZ ?_|refine cZ ?_ (hp:=by first | exact h1 | exact h2)|refine bxZ ?_|refine cFZ ?_|refine ai rfl ?_|refine r1Z ?_|fail)) <;> (try clear zz)
 exact .int _ _
theorem B8 (a b:List Int) (ha:a.length ≤ 1000000000000) (hb:b.length ≤ 1000000000000):Pure Tryz.prog 121 [bJ a,bJ b] (bJ (fq a b)):=by
 refine Pure.of_c2 follows CB (Nat.le_of_ble_eq_true rfl) ?_
 simp only [BB,cO,cG,cN,cM,cD,cF,cB,au,aK]
 (have zz:=and_self; repeat' (first|refine zW ?_|apply a_n|refine zO ?_|refine vZ ?_|fail)) <;> (try clear zz)
 refine wd (k1:=.i64) (k2:=.i64) (n:=0) (m:=(a.length:Int) + b.length) rfl ev0 ev0 (Int.le_refl _) (by omega) (by omega) (by omega) ?_
 rw [show ((a.length:Int) + b.length).toNat=a.length + b.length by omega]
 have hz:(aY (AV.agg [AV.int .i64 0]) (a.length + b.length)).length=a.length + b.length:=by simp [aY,AV.cells]
 generalize hN:a.length + b.length=N at *
 (have zz:=and_self; repeat' (first|refine zW ?_|apply a_n|refine zO ?_|refine vZ ?_|fail)) <;> (try clear zz)
 refine aR (X:=List Int × List Int × List Int × Nat) (fun x=>[(0,bJ x.1),(1,bJ x.2.1),(5,.msl 0 N 1 0 x.2.2.2)]) (fun x H nx=>1 ≤ nx∧x.2.2.1.length=x.2.2.2∧x.2.2.2 + x.1.length + x.2.1.length ≤ N∧x.2.2.1 ++ fq x.1 x.2.1=fq a b∧∃ C,H 0=some C∧C.length=N∧C.take x.2.2.2=x.2.2.1.map (AV.int .i64)) (fun x=>x.1.length + x.2.1.length) (a,b,[],0) ⟨Nat.le_refl _,rfl,by dsimp only; omega,rfl,_,ah,hz,rfl⟩ (by refine ⟨rfl,rfl,?_,trivial⟩; ((try simp only [bS,ZA,reduceEqDiff,↓reduceIte,reduceAdd,reduceLeDiff]); (try with_reducible rfl)); rfl) ?_
 rintro ⟨a',b',D,k⟩ H nx ⟨h1,h2,h3,h4,C,h5,h6,h7⟩
 dsimp only at h1 h2 h3 h4 h7 ⊢
 have hDl:(D.map (AV.int .i64)).length=k:=by rw [List.length_map]; exact h2
 have hfin:(a'=[] ∨ b'=[])→D ++ (a' ++ b')=fq a b:=fun h=>by
  rcases h with rfl | rfl
  ·rw [tH] at h4; exact h4
  ·rw [sO] at h4; rw [List.append_nil]; exact h4
 by_cases hne:a'=[] ∨ b'=[]
 ·have h4:=hfin hne
  clear hfin
  have y1:decide ((0:Int) < a'.length)=false ∨ decide ((0:Int) < a'.length)=true∧decide ((0:Int) < b'.length)=false:=by
   rcases hne with rfl | rfl
   ·exact .inl rfl
   ·by_cases h:a'=[]
    ·subst h; exact .inl rfl
    ·exact .inr ⟨decide_eq_true (by have:=List.length_pos_iff.2 h; omega),rfl⟩
  rcases y1 with y1 | ⟨y1,y2⟩
  ·(have zz:=@y1; repeat' (first|refine zW ?_|apply a_n|apply a_x|refine zO ?_|refine vY ?_|refine gFY ?_|refine cFY ?_|fail)) <;> (try clear zz)
   refine kW (b:=0) (N:=N) (len:=k) (n:=a'.length) (new:=a'.map (AV.int .i64)) rfl ev0 h5 h6 h7 hDl ev0 jd kg (by rw [List.length_map]) (by omega) (by omega) (by omega) fun C2 c1 c2=>?_
   (have zz:=and_self; repeat' (first|apply a_n|refine zO ?_|refine vY ?_|fail)) <;> (try clear zz)
   refine kW (b:=0) (N:=N) (len:=k + a'.length) (n:=b'.length) (new:=b'.map (AV.int .i64)) rfl ev0 ah c1 c2 (by rw [List.length_append,hDl,List.length_map]) ev0 jd kg (by rw [List.length_map]) (by omega) (by omega) (by omega) fun C3 c3 c4=>?_
   (have zz:=and_self; repeat' (first|apply a_n|refine zO ?_|refine vY ?_|refine ai rfl ?_|refine r1Y ?_|fail)) <;> (try clear zz)
   rw [← h4]
   exact pp ah c3 (by omega) (by simp only [List.length_append]; omega) (by rw [← Nat.add_assoc,c4,List.map_append,List.map_append,List.append_assoc])
  ·(have zz:=aI @y1 @y2; repeat' (first|refine zW ?_|apply a_n|apply a_x|refine zO ?_|refine vY ?_|refine gTY ?_|refine cFY ?_|fail)) <;> (try clear zz)
   refine kW (b:=0) (N:=N) (len:=k) (n:=a'.length) (new:=a'.map (AV.int .i64)) rfl ev0 h5 h6 h7 hDl ev0 jd kg (by rw [List.length_map]) (by omega) (by omega) (by omega) fun C2 c1 c2=>?_
   (have zz:=and_self; repeat' (first|apply a_n|refine zO ?_|refine vY ?_|fail)) <;> (try clear zz)
   refine kW (b:=0) (N:=N) (len:=k + a'.length) (n:=b'.length) (new:=b'.map (AV.int .i64)) rfl ev0 ah c1 c2 (by rw [List.length_append,hDl,List.length_map]) ev0 jd kg (by rw [List.length_map]) (by omega) (by omega) (by omega) fun C3 c3 c4=>?_
   (have zz:=and_self; repeat' (first|apply a_n|refine zO ?_|refine vY ?_|refine ai rfl ?_|refine r1Y ?_|fail)) <;> (try clear zz)
   rw [← h4]
   exact pp ah c3 (by omega) (by simp only [List.length_append]; omega) (by rw [← Nat.add_assoc,c4,List.map_append,List.map_append,List.append_assoc])
 have ha0:a' ≠ []:=fun h=>hne (.inl h)
 have hb0:b' ≠ []:=fun h=>hne (.inr h)
 clear hfin hne
 obtain ⟨x,a2,rfl⟩:=List.exists_cons_of_ne_nil ha0
 obtain ⟨y,b2,rfl⟩:=List.exists_cons_of_ne_nil hb0
 rw [tO] at h4
 have la:(x :: a2).length=a2.length + 1:=rfl
 have lb:(y :: b2).length=b2.length + 1:=rfl
 have i1:=yR (x:=x) (l:=a2)
 have i2:=yR (x:=y) (l:=b2)
 have s1:=t6 (x:=x) (l:=a2)
 have s2:=t6 (x:=y) (l:=b2)
 generalize hA:x :: a2=A at *
 generalize hB:y :: b2=B at *
 have y1:decide ((0:Int) < A.length)=true:=decide_eq_true (by omega)
 have y2:decide ((0:Int) < B.length)=true:=decide_eq_true (by omega)
 by_cases g1:x < y
 ·rw [if_pos g1] at h4
  have z1:decide (x < y)=true:=decide_eq_true g1
  (have zz:=aI @i1 (aI @i2 (aI @y1 (aI @y2 @z1))); repeat' (first|refine zW ?_|apply a_n|refine zO ?_|refine vY ?_|refine blY ?_|refine gTY ?_|refine cTY ?_|fail)) <;> (try clear zz)
  refine kW (b:=0) (N:=N) (len:=k) (n:=1) (new:=[.int .i64 x]) rfl ev0 (by rw [ag (by omega)]; exact h5) h6 h7 hDl ev0 ec rfl rfl (by omega) (by omega) (by omega) fun C2 c1 c2=>?_
  (have zz:=@s1; repeat' (first|apply a_n|refine zO ?_|refine vY ?_|fail)) <;> (try clear zz)
  exact ⟨(a2,B,D ++ [x],k + 1),by dsimp only; omega,⟨by omega,by simp [h2],by dsimp only; omega,by simpa using h4,C2,ah,c1,by rw [c2,List.map_append]; rfl⟩,ag0⟩
 rw [if_neg g1] at h4
 have z1:decide (x < y)=false:=decide_eq_false g1
 by_cases g2:y < x
 ·rw [if_pos g2] at h4
  have z2:decide (y < x)=true:=decide_eq_true g2
  (have zz:=aI @i1 (aI @i2 (aI @y1 (aI @y2 (aI @z1 @z2)))); repeat' (first|refine zW ?_|apply a_n|refine zO ?_|refine vY ?_|refine blY ?_|refine gTY ?_|refine cTY ?_|refine cFY ?_|fail)) <;> (try clear zz)
  refine kW (b:=0) (N:=N) (len:=k) (n:=1) (new:=[.int .i64 y]) rfl ev0 (by rw [ag (by omega)]; exact h5) h6 h7 hDl ev0 ec rfl rfl (by omega) (by omega) (by omega) fun C2 c1 c2=>?_
  (have zz:=@s2; repeat' (first|apply a_n|refine zO ?_|refine vY ?_|fail)) <;> (try clear zz)
  exact ⟨(A,b2,D ++ [y],k + 1),by dsimp only; omega,⟨by omega,by simp [h2],by dsimp only; omega,by simpa using h4,C2,ah,c1,by rw [c2,List.map_append]; rfl⟩,ag0⟩
 rw [if_neg g2] at h4
 have z2:decide (y < x)=false:=decide_eq_false g2
 (have zz:=aI @i1 (aI @i2 (aI @s1 (aI @s2 (aI @y1 (aI @y2 (aI @z1 @z2)))))); repeat' (first|refine zW ?_|apply a_n|refine zO ?_|refine vY ?_|refine gTY ?_|refine cTY ?_|refine cFY ?_|fail)) <;> (try clear zz)
 exact ⟨(a2,b2,D,k),by dsimp only; omega,⟨by omega,h2,by dsimp only; omega,h4,C,h5,h6,h7⟩,ag0⟩
end Go.Proofs.YtbgdcebmgjafjaaGreat
namespace Go.Proofs.YtbgdcebmgjafjaaGreat
open Go Go.Abs
def dP (S:List (List Int)) (r:List Int):List Int:=r.foldl (fun x j=>fq x (S.getD j.toNat default)) []
theorem nR {S:List (List Int)} {l:List Int} {j:Int}:dP S (l ++ [j])=fq (dP S l) (S.getD j.toNat default):=by
 unfold dP; rw [List.foldl_append]; rfl
theorem rW {S:List (List Int)} (hS:∀ s ∈ S,s.length ≤ 4096):∀ (l:List Int) (x:List Int),(l.foldl (fun x j=>fq x (S.getD j.toNat default)) x).length ≤ x.length + l.length * 4096
 | [],x=>by simp
 | j :: l,x=>by
  have h1:=rW hS l (fq x (S.getD j.toNat default))
  have h2:=jW _ x (S.getD j.toNat default) (Nat.le_refl _)
  have h3:(S.getD j.toNat default).length ≤ 4096:=by
   by_cases h:j.toNat < S.length
   ·exact hS _ (aq h)
   ·unfold List.getD; rw [List.getElem?_eq_none (by omega)]; exact Nat.zero_le _
  rw [List.foldl_cons,List.length_cons]
  omega
theorem vN {S:List (List Int)} (hS:∀ s ∈ S,s.length ≤ 4096) {l:List Int}:(dP S l).length ≤ l.length * 4096:=by
 have:=rW hS l []
 unfold dP
 simpa using this
attribute [local irreducible] aG al a9 aW aN aP aC aQ aZ bt Go.Abs.Fn aV Go.Abs.Pure ax aL Yl
theorem rz {y ab bb:Nat} {c d:Int} {R S:List (List Int)} {H:Hp} {nx:Nat} (hRl:R.length ≤ 4096) (hSl:S.length ≤ 4096) (hR:∀ r ∈ R,(∀ v ∈ r,0 ≤ v∧v < (S.length:Int))∧r.length ≤ 4096) (hS:∀ s ∈ S,s.length ≤ 4096) (I:List (List Int)→Hp→Nat→Prop)
    (hp:∀ D H nx,I D H nx→H ab=some [.int .i64 c,bH R]∧H bb=some [.int .i64 d,bH S])
    (rnd:∀ D f H nx1,I D H nx1→D.length < R.length→Yl Tryz.prog y [bJ f] H nx1 fun r H' nx'=>r=.bool true∧I (D ++ [f]) H' nx')
    (h0:I [] H nx) :
    Abs.Fn Tryz.prog 120 [.yld y,.ptr ab 2 0,.ptr bb 2 0] H nx fun _ H' nx'=>I (R.map (dP S)) H' nx':=by
 refine Abs.Fn.of_c2 follows An (Nat.le_of_ble_eq_true rfl) ?_
 simp only [Cq,cO,cG,cN,cM,cD,cF,cB,au,aK]
 obtain ⟨g1,g2⟩:=hp _ _ _ h0
 (have zz:=aI @g1 @g2; repeat' (first|refine zW ?_|apply a_n|refine zO ?_|refine vY ?_|fail)) <;> (try clear zz)
 refine aR (X:=Nat) (fun k=>[(0,.yld y),(1,.ptr ab 2 0),(2,.ptr bb 2 0),(10,bH R),(11,.int .i64 R.length),(12,.int .i64 k)]) (fun k H' nx'=>k ≤ R.length∧I ((R.take k).map (dP S)) H' nx') (fun k=>R.length - k) 0 ⟨Nat.zero_le _,h0⟩ ag0 ?_
 rintro k H1 nx1 ⟨h1,hI⟩
 obtain ⟨q1,q2⟩:=hp _ _ _ hI
 by_cases hk:k < R.length
 rotate_left
 ·rw [List.take_of_length_le (by omega)] at hI
  (have zz:=and_self; repeat' (first|refine zW ?_|apply a_n|apply a_x|refine zO ?_|refine vY ?_|(refine zGY ?_ ?_ <;> (intro _hg; try (exfalso; omega)))|refine ai rfl ?_|fail)) <;> (try clear zz)
  exact hI
 obtain ⟨r1,r2⟩:=hR _ (aq hk)
 have ix:eo 1 (bH R) (.int .i64 (k:Int))=some (.iptr [bJ (R.getD k default)] 0):=by
  rw [jH,if_pos ⟨by omega,by omega⟩,Int.toNat_natCast]
 have hft:(R.take (k + 1)).map (dP S)=(R.take k).map (dP S) ++ [dP S (R.getD k default)]:=by rw [bG hk,List.map_append]; rfl
 generalize R.getD k default=r at *
 (have zz:=@ix; repeat' (first|refine zW ?_|apply a_n|refine zO ?_|refine vY ?_|(refine zGY ?_ ?_ <;> (intro _hg; try (exfalso; omega)))|fail)) <;> (try clear zz)
 refine BR (X:=Nat) (fun j=>[(0,.yld y),(1,.ptr ab 2 0),(2,.ptr bb 2 0),(10,bH R),(11,.int .i64 R.length),(12,.int .i64 k),(16,bJ r),(17,.int .i64 r.length),(18,.int .i64 j),(6,bJ (dP S (r.take j)))]) (fun j H' nx'=>j ≤ r.length∧H'=H1∧nx'=nx1) (fun j=>r.length - j) 0 ⟨_,_,Fz.none,⟨Nat.zero_le _,rfl,rfl⟩,⟨.inl rfl,.inl rfl,.inl rfl,.inl rfl,.inl rfl,.inl rfl,.inl rfl,.inl rfl,.inl rfl,.inr (.eslsl 1),trivial⟩⟩ ?_
 rintro j _ _ ⟨j1,rfl,rfl⟩
 by_cases hj:j < r.length
 rotate_left
 ·rw [List.take_of_length_le (by omega)]
  (have zz:=and_self; repeat' (first|refine zW ?_|apply a_n|apply a_x|refine zO ?_|refine vY ?_|(refine zGY ?_ ?_ <;> (intro _hg; try (exfalso; omega)))|fail)) <;> (try clear zz)
  refine uC ev0 ev0 (Yl.mono (rnd _ _ _ _ hI (by rw [List.length_map,List.length_take]; omega)) ?_)
  rintro v H3 nx3 ⟨rfl,e1⟩
  (have zz:=and_self; repeat' (first|apply a_n|refine zO ?_|refine vY ?_|refine cFY ?_|fail)) <;> (try clear zz)
  exact ⟨k + 1,by omega,⟨by omega,by rw [hft]; exact e1⟩,ag0⟩
 have hjr:=r1 _ (aq hj)
 have hsn:dP S (r.take (j + 1))=fq (dP S (r.take j)) (S.getD (r.getD j default).toNat default):=by rw [bG hj,nR]
 have ix2:eo 1 (bJ r) (.int .i64 (j:Int))=some (.iptr [.int .i64 (r.getD j default)] 0):=by
  rw [iY,if_pos ⟨by omega,by omega⟩,Int.toNat_natCast]
 generalize r.getD j default=v at *
 have ix3:eo 1 (bH S) (.int .i64 v)=some (.iptr [bJ (S.getD v.toNat default)] 0):=by
  rw [jH,if_pos hjr]
 have hl1:=vN hS (l:=r.take j)
 rw [List.length_take] at hl1
 have hs:=B8 (dP S (r.take j)) (S.getD v.toNat default) (by omega) (by have:=hS _ (aq (k:=v.toNat) (by omega)); omega)
 rw [← hsn] at hs
 (have zz:=aI @ix2 (aI @ix3 (aI @q1 @q2)); repeat' (first|refine zW ?_|apply a_n|refine zO ?_|refine vY ?_|refine cY ?_ (hp:=hs) (hs:=by (first | refine ac ?_ rfl | apply ae); (repeat' (first | exact aa | apply aj | apply af | exact eR _)); first | done | fail)|(refine zGY ?_ ?_ <;> (intro _hg; try (exfalso; omega)))|fail)) <;> (try clear zz)
 exact ⟨j + 1,by omega,_,_,Fz.none,⟨by omega,rfl,rfl⟩,tV ag0⟩
theorem qQ (c d:Int) (R S:List (List Int)) (H:Hp) (nx:Nat):Abs.Fn Tryz.prog 83 [.agg [.int .i64 c,bH R],.agg [.int .i64 d,bH S]] H nx fun r H' nx'=>r=.func 120 [.ptr nx 2 0,.ptr (nx + 1) 2 0]∧H'=ak (ak H nx [.int .i64 c,bH R]) (nx + 1) [.int .i64 d,bH S]∧nx'=nx + 2:=by
 refine Abs.Fn.of_c2 follows CZ (Nat.le_of_ble_eq_true rfl) ?_
 simp only [b83,cO,cG,cN,cM,cD,cF,cB,au,aK]
 (have zz:=and_self; repeat' (first|refine zW ?_|apply a_n|refine zO ?_|refine vY ?_|refine bxY ?_|refine ai rfl ?_|refine r1Y ?_|fail)) <;> (try clear zz)
 exact ⟨rfl,rfl,rfl⟩
theorem tC (c d:Int) (R S:List (List Int)) (hr:vt c R) (hs:vt d S) (hcs:c=S.length):Pure Tryz.prog 38 [.agg [.int .i64 c,bH R],.agg [.int .i64 d,bH S]] (.tup [iU d (R.map (dP S)),.int .i64 0]):=by
 refine Pure.of_c2 follows CQ (Nat.le_of_ble_eq_true rfl) ?_
 simp only [b38,cO,cG,cN,cM,cD,cF,cB,au,aK]
 have hb:=yk c d R S hr hs
 have d1:Dat (.agg [.int .i64 c,bH R]):=dW c R
 have d2:Dat (.agg [.int .i64 d,bH S]):=dW d S
 have z0:decide ((0:Int) ≠ 0)=false:=rfl
 have z1:decide (c ≠ (S.length:Int))=false:=by rw [hcs]; simp
 obtain ⟨m1,m2,m3,m4⟩:=hr
 obtain ⟨n1,n2,n3,n4⟩:=hs
 (have zz:=aI @z0 @z1; repeat' (first|refine zW ?_|apply a_n|refine zO ?_|refine vY ?_|refine cY ?_ (hp:=hb)|refine alY ?_|refine bxY ?_|refine stY ?_|refine cFY ?_|fail)) <;> (try clear zz)
 refine aA ev0 ev0 (qQ c d R S _ _) ?_
 rintro _ H1 nx1 ⟨rfl,rfl,rfl⟩
 (have zz:=and_self; repeat' (first|refine zW ?_|apply a_n|refine zO ?_|fail)) <;> (try clear zz)
 refine pg 6 7 rfl rfl ev0 (fun c0 cj hy=>?_)
 refine Abs.Fn.mono (rz (nx:=7) (ab:=4) (bb:=5) (c:=c) (d:=d) (R:=R) (S:=S) m3 n3 (fun r h=>⟨hcs ▸ (m4 r h).1,(m4 r h).2.1⟩) (fun r h=>(n4 r h).2.1) (fun D H' nx'=>7 ≤ nx'∧H' 4=some [.int .i64 c,bH R]∧H' 5=some [.int .i64 d,bH S]∧H' 6=some [c0]∧H' 2=some [.int .i64 0,.esl]∧∃ sv,H' 3=some [.int .i64 d,sv]∧Row H' 1 sv (D.map bJ)∧∀ b',di sv=some b'→7 ≤ b'∧b' < nx') ?_ ?_ ?_) ?_
 ·rintro D H' nx' ⟨h1,h2,h3,h4,h5⟩
  exact ⟨h2,h3⟩
 ·rintro D f H' nx' ⟨h1,h2,h3,h4,h5,sv,h6,h7,h8⟩ hlt
  refine hy _ _ _ _ h4 rfl ?_
  clear hy
  (have zz:=and_self; repeat' (first|apply a_n|refine zO ?_|refine vZ ?_|fail)) <;> (try clear zz)
  refine ⟨h4,?_⟩
  have hdo:∀ x,x ≠ 6→bL H' 6 x=H' x:=fun x b=>eI b
  generalize bL H' 6=H1 at *
  have g3:H1 3=some [.int .i64 d,sv]:=(hdo 3 (by omega)).trans h6
  (have zz:=@g3; repeat' (first|refine zW ?_|apply a_n|refine zO ?_|refine vY ?_|refine blY ?_|fail)) <;> (try clear zz)
  refine jk rfl ev0 (h7.same fun b' hb'=>?_) ev0 ec rfl rfl Nat.one_pos (by rw [List.length_map]; omega) (by rw [List.length_map]; omega) ?_
  ·have:=h8 b' hb'
   rw [ag (by omega)]; exact hdo _ (by omega)
  rintro sv' H3 nx3 r1 r2 r3 r4 r5
  have zs:∀ x,x < 7→di sv ≠ some x:=fun x hx e=>by have:=h8 x e; omega
  have z:∀ x,x < nx'→x ≠ 6→di sv ≠ some x→H3 x=H' x:=fun x a1 a2 a3=>(r4 x (by omega) a3).trans (by rw [ag (by omega)]; exact hdo x a2)
  have g4:H3 3=some [.int .i64 d,sv]:=(z 3 (by omega) (by omega) (zs _ (by omega))).trans h6
  obtain ⟨q1,q2⟩:=r1.one
  (have zz:=aI @g4 (aI @q1 @q2); repeat' (first|apply a_n|refine zO ?_|refine vY ?_|refine stY ?_|fail)) <;> (try clear zz)
  have w:∀ x,x ≠ 3→x ≠ 6→ak (ak H3 3 [.int .i64 d,sv']) 6 [c0] x=H3 x:=fun x a1 a2=>by rw [ag a2,ag a1]
  have u8:∀ b',di sv'=some b'→7 ≤ b'∧b' < nx3:=fun b' hb'=>by
   rcases r5 b' hb' with e | ⟨e1,e2⟩
   ·have:=h8 b' e; omega
   ·omega
  refine ⟨rfl,by omega,(w 4 (by omega) (by omega)).trans ((z 4 (by omega) (by omega) (zs _ (by omega))).trans h2),(w 5 (by omega) (by omega)).trans ((z 5 (by omega) (by omega) (zs _ (by omega))).trans h3),ah,(w 2 (by omega) (by omega)).trans ((z 2 (by omega) (by omega) (zs _ (by omega))).trans h5),sv',?_,?_,u8⟩
  ·exact (ag (by omega)).trans ah
  ·rw [List.map_append]
   exact r1.same fun b' hb'=>w b' (by have:=u8 b' hb'; omega) (by have:=u8 b' hb'; omega)
 ·refine ⟨Nat.le_refl _,?_,?_,ah,?_,.esl,?_,.nil,fun b' hb'=>(by cases hb')⟩
  ·rfl
  ·rfl
  ·rfl
  ·rfl
 ·rintro r H' nx' ⟨h1,h2,h3,h4,h5,sv,h6,h7,h8⟩
  refine .inl ⟨h4,?_⟩
  obtain ⟨q1,q2⟩:=h7.one
  (have zz:=aI @h5 (aI @h6 (aI @q1 @q2)); repeat' (first|refine zW ?_|apply a_n|refine zO ?_|refine vY ?_|refine stY ?_|refine ai rfl ?_|refine r2Y ?_|fail)) <;> (try clear zz)
  refine kF ?_ rfl
  have hw:Row (ak (bL H' 6) 2 [.int .i64 d,sv]) 1 sv ((R.map (dP S)).map bJ):=h7.same fun b' hb'=>by have:=h8 b' hb'; rw [ag (by omega),eI (by omega)]
  exact hw.snapV
end Go.Proofs.YtbgdcebmgjafjaaGreat
namespace Go.Proofs.YtbgdcebmgjafjaaGreat
open Go Go.Abs
theorem zV {H:Hp} {s:AV} {l:List Spx} (h:Row H 1 s (l.map av)):∃ Hf H',Fz Hf H H'∧Snap Hf s (aE l)∧∀ x,di s ≠ some x→H' x=H x:=by
 generalize hcs:l.map av=cs at h
 cases h with
 | nil=>exact ⟨bn,H,Fz.none,iW (by rw [hcs]; exact Row.nil),fun _ _=>rfl⟩
 | box b len cs g1 g2=>exact ⟨only b cs,bL H b,Fz.one g1,iW (by rw [hcs]; exact Row.box b len cs kA g2),fun x hx=>eI (fun e=>hx (by rw [e]; rfl))⟩
attribute [local irreducible] aG al a9 aW aN aP aC aQ aZ bt Go.Abs.Fn aV Go.Abs.Pure ax aL Yl
theorem Bb (l:List Spx) (hl:l.length ≤ 4096) (hs:∀ s ∈ l,b0 s=0):Pure Tryz.prog 66 [aE l] (.tup [ez (dp l),.int .i64 0]):=by
 refine Pure.of_c2 follows C8 (Nat.le_of_ble_eq_true rfl) ?_
 simp only [b66,cO,cG,cN,cM,cD,cF,cB,au,aK]
 have hc:=rg l (by omega) (fun s h=>by
  obtain ⟨p1,p2,p3,p4⟩:=cm (hs s h)
  exact ⟨p3,by omega,fun e=>by rw [e] at p1; simp at p1⟩)
 have z0:decide ((0:Int) ≠ 0)=false:=rfl
 have z1:decide ((4096:Int) < l.length)=false:=decide_eq_false (by omega)
 (have zz:=aI @aB @z1; repeat' (first|refine zW ?_|apply a_n|refine zO ?_|refine vY ?_|refine alY ?_|refine cFY ?_|fail)) <;> (try clear zz)
 refine aR (X:=Nat) (fun k=>[(0,aE l),(2,.ptr 0 1 0),(11,aE l),(12,.int .i64 l.length),(13,.int .i64 k)]) (fun k H nx=>k ≤ l.length∧H 0=some [.esl]) (fun k=>l.length - k) 0 ⟨Nat.zero_le _,ah⟩ (by (iterate 5 refine And.intro rfl ?_); trivial) ?_
 rintro k H nx ⟨h1,g0⟩
 by_cases hk:k < l.length
 rotate_left
 ·(have zz:=aI @g0 (aI @aD @ar); repeat' (first|refine zW ?_|apply a_n|apply a_x|refine zO ?_|refine vY ?_|refine cY ?_ (hp:=hc) (hs:=by (first | refine ac ?_ rfl | apply ae); (repeat' (first | exact aa | apply aj | apply af | exact bh _)); first | done | fail)|refine stY ?_|(refine zGY ?_ ?_ <;> (intro _hg; try (exfalso; omega)))|refine ai rfl ?_|refine r2Y ?_|fail)) <;> (try clear zz)
  exact oz (bh _).snap rfl
 have ix:=gS hk
 have hx:=kE (l.getD k default) (by have:=(cm (hs _ (bc hk))).2.1; show _ ≤ _; omega)
 rw [hs _ (bc hk)] at hx
 (have zz:=aI @ix @z0; repeat' (first|refine zW ?_|apply a_n|refine zO ?_|refine vY ?_|refine cY ?_ (hp:=hx) (hs:=by (first | refine ac ?_ rfl | apply ae); (repeat' (first | exact aa | apply aj | apply af | exact az _)); first | done | fail)|refine cFY ?_|(refine zGY ?_ ?_ <;> (intro _hg; try (exfalso; omega)))|fail)) <;> (try clear zz)
 exact ⟨k + 1,by omega,⟨by omega,g0⟩,ag0⟩
theorem mA (m:MapV) (c:List Spx) (hm:ShM m) (hc:Shn c) (hcs:∀ s ∈ c,Shn s):Pure Tryz.prog 25 [iM m,ez c] (.tup [ez (fx m c).1,.int .i64 (fx m c).2]):=by
 refine Pure.of_c2 follows CW (Nat.le_of_ble_eq_true rfl) ?_
 simp only [b25,cO,cG,cN,cM,cD,cF,cB,au,aK]
 have hcc:=gz c hc hcs
 unfold fx
 (have zz:=aI @aF (aI @ay (aI @aD @ar)); repeat' (first|refine zW ?_|apply a_n|refine zO ?_|refine vY ?_|refine alY ?_|refine bxY ?_|fail)) <;> (try clear zz)
 refine aA ev0 ev0 (qb m hm _ _) ?_
 rintro _ H1 nx1 ⟨hsm,hle,h⟩
 have g1:H1 1=some [aE c]:=(hsm 1 (by omega)).trans (by rw [ag (by omega),ah])
 have g2:H1 2=some [.esl]:=(hsm 2 (by omega)).trans ah
 rcases h with ⟨he,B,rfl,hB1,hB2,hB3⟩ | ⟨he,rfl⟩
 rotate_left
 ·rw [if_pos he]
  have z:decide (cb m ≠ 0)=true:=decide_eq_true he
  (have zz:=aI @g2 @z; repeat' (first|refine zW ?_|apply a_n|apply a_r|refine zO ?_|refine vY ?_|refine stY ?_|refine cTY ?_|refine ai rfl ?_|refine r2Y ?_|fail)) <;> (try clear zz)
  exact oz (.eslsl _) rfl
 rw [if_neg (fun h=>h he)]
 obtain ⟨q1,q2,q3,q4,q5⟩:=fZ he
 have z0:decide ((0:Int) ≠ 0)=false:=rfl
 by_cases hes:aO c=0
 rotate_left
 ·rw [if_pos hes]
  have z:decide (aO c ≠ 0)=true:=decide_eq_true hes
  (have zz:=aI @g1 (aI @g2 (aI @z0 (aI @z (aI @aD @ar)))); repeat' (first|refine zW ?_|apply a_n|apply a_r|refine zO ?_|refine vY ?_|refine cY ?_ (hp:=hcc) (hs:=by (first | refine ac ?_ rfl | apply ae); (repeat' (first | exact aa | apply aj | apply af | exact bi _)); first | done | fail)|refine stY ?_|refine cTY ?_|refine cFY ?_|refine ai rfl ?_|refine r2Y ?_|fail)) <;> (try clear zz)
  exact oz (.eslsl _) rfl
 rw [if_neg (fun h=>h hes)]
 rw [hes] at hcc
 obtain ⟨a1,a2,a3,a4⟩:=cr hes
 (have zz:=aI @g1 (aI @g2 (aI @z0 (aI @aD @ar))); repeat' (first|refine zW ?_|apply a_n|refine zO ?_|refine vY ?_|refine cY ?_ (hp:=hcc) (hs:=by (first | refine ac ?_ rfl | apply ae); (repeat' (first | exact aa | apply aj | apply af | exact bi _)); first | done | fail)|refine cFY ?_|fail)) <;> (try clear zz)
 refine aA ev0 ev0 (sg m c q2 (by omega) (fun s hs=>by obtain ⟨p1,p2,p3,p4⟩:=cm (a2 s hs); exact ⟨by omega,fun e=>by rw [e] at p1; simp at p1⟩) B H1 nx1 hB3 hB2) ?_
 rintro _ H3 nx3 ⟨hle3,hsm3,h⟩
 have g3:H3 2=some [.esl]:=(hsm3 2 (by omega)).trans g2
 rcases h with ⟨ht,rfl⟩ | ⟨ht,sv,rfl,hrow,hbd⟩
 ·rw [if_pos ht]
  (have zz:=@g3; repeat' (first|refine zW ?_|apply a_n|apply a_r|refine zO ?_|refine vY ?_|refine stY ?_|refine cTY ?_|refine ai rfl ?_|refine r2Y ?_|fail)) <;> (try clear zz)
  exact oz (.eslsl _) rfl
 rw [if_neg (by rw [ht]; decide)]
 have htl:∀ s ∈ c,bo m s=true:=List.all_eq_true.1 ht
 have hof:=Bb (c.map (bq m)) (by rw [List.length_map]; exact a1) (fun t ht=>by
  obtain ⟨s,s1,rfl⟩:=List.mem_map.1 ht
  exact o6 he (a2 s s1) (htl s s1))
 obtain ⟨Hf,H4,hfz,hsn,hoth⟩:=zV hrow
 have g4:H4 2=some [.esl]:=(hoth 2 (fun e=>by have:=hbd 2 e; omega)).trans g3
 (have zz:=and_self; repeat' (first|apply a_n|refine zO ?_|refine vY ?_|fail)) <;> (try clear zz)
 refine eL (eL ?_)
 refine kH Hf H4 [(4,.ptr 2 1 0),(9,aE (c.map (bq m))),(10,.bool true)] hfz ⟨.inl rfl,.inr hsn,.inl rfl,trivial⟩ ?_
 (have zz:=aI @g4 (aI @aD @ar); repeat' (first|refine zW ?_|apply a_n|refine zO ?_|refine vY ?_|refine cY ?_ (hp:=hof) (hs:=by (first | refine ac ?_ rfl | apply ae); (repeat' (first | exact aa | apply aj | apply af | exact bh _)); first | done | fail)|refine stY ?_|refine cFY ?_|refine ai rfl ?_|refine r2Y ?_|fail)) <;> (try clear zz)
 exact oz (bh _).snap rfl
end Go.Proofs.YtbgdcebmgjafjaaGreat
namespace Go.Proofs.YtbgdcebmgjafjaaGreat
open Go Go.Abs
def ed (a b:MapV):MapV × Int:=if cb a ≠ 0 then (⟨[],[]⟩,cb a) else if cb b ≠ 0 then (⟨[],[]⟩,cb b) else if bo b a.to=false then (⟨[],[]⟩,6) else (⟨a.fr,a.to.map (dA b)⟩,0)
theorem qC {H:Hp} {s r:AV} {l n:Spx} {e f:Int} (h:Snap H s (av l)) (h2:Snap H r (av n)) (he:e=f):Snap H (.tup [.agg [s,r],.int .i64 e]) (.tup [iM ⟨l,n⟩,.int .i64 f]):=by
 subst he; exact eT (an (kJ (an h (an h2 aa))) (an (.int _ _) aa))
attribute [local irreducible] aG al a9 aW aN aP aC aQ aZ bt Go.Abs.Fn aV Go.Abs.Pure ax aL Yl
theorem pn (a b:MapV) (ha:ShM a) (hb:ShM b):Pure Tryz.prog 16 [iM a,iM b] (.tup [iM (ed a b).1,.int .i64 (ed a b).2]):=by
 refine Pure.of_c2 follows Bl (Nat.le_of_ble_eq_true rfl) ?_
 simp only [b16,cO,cG,cN,cM,cD,cF,cB,au,aK]
 have hca:=gv a ha
 unfold ed
 by_cases hea:cb a=0
 rotate_left
 ·rw [if_pos hea]
  have z:decide (cb a ≠ 0)=true:=decide_eq_true hea
  (have zz:=aI @aF (aI @ay @z); repeat' (first|refine zW ?_|apply a_n|apply a_r|refine zO ?_|refine vY ?_|refine cY ?_ (hp:=hca) (hs:=by (first | refine ac ?_ rfl | apply ae); (repeat' (first | exact aa | apply aj | apply af | exact bC _)); first | done | fail)|refine alY ?_|refine bxY ?_|refine stY ?_|refine cTY ?_|refine ai rfl ?_|refine r2Y ?_|fail)) <;> (try clear zz)
  exact qC (.eslsl _) (.eslsl _) rfl
 rw [if_neg (fun h=>h hea)]
 rw [hea] at hca
 have z0:decide ((0:Int) ≠ 0)=false:=rfl
 obtain ⟨p1,p2,p3,p4,p5⟩:=fZ hea
 (have zz:=aI @aF (aI @ay @z0); repeat' (first|refine zW ?_|apply a_n|refine zO ?_|refine vY ?_|refine cY ?_ (hp:=hca) (hs:=by (first | refine ac ?_ rfl | apply ae); (repeat' (first | exact aa | apply aj | apply af | exact bC _)); first | done | fail)|refine alY ?_|refine bxY ?_|refine cFY ?_|fail)) <;> (try clear zz)
 refine aA ev0 ev0 (qb b hb _ _) ?_
 rintro _ H1 nx1 ⟨hsm,hle,h⟩
 have g0:H1 0=some [av a.fr,av a.to]:=(hsm 0 (by omega)).trans (by rw [ag (by omega),ag (by omega),ah])
 have g2:H1 2=some [.esl,.esl]:=(hsm 2 (by omega)).trans ah
 rcases h with ⟨he,B,rfl,hB1,hB2,hB3⟩ | ⟨he,rfl⟩
 rotate_left
 ·rw [if_pos he]
  have z:decide (cb b ≠ 0)=true:=decide_eq_true he
  (have zz:=aI @g2 @z; repeat' (first|refine zW ?_|apply a_n|apply a_r|refine zO ?_|refine vY ?_|refine stY ?_|refine cTY ?_|refine ai rfl ?_|refine r2Y ?_|fail)) <;> (try clear zz)
  exact qC (.eslsl _) (.eslsl _) rfl
 rw [if_neg (fun h=>h he)]
 obtain ⟨q1,q2,q3,q4,q5⟩:=fZ he
 (have zz:=aI @g0 (aI @g2 @z0); repeat' (first|refine zW ?_|apply a_n|refine zO ?_|refine vY ?_|refine cFY ?_|fail)) <;> (try clear zz)
 refine uK ev0 ev0 (pq a.fr (by omega)) (an (az _ _) aa) ?_
 (have zz:=aI @g0 (aI @aF (aI @ay @aw)); repeat' (first|refine zW ?_|apply a_n|refine zO ?_|refine vY ?_|refine alY ?_|refine stY ?_|fail)) <;> (try clear zz)
 refine aR (X:=Nat × AV) (fun x=>[(4,.ptr 2 2 0),(7,.mp B),(9,.ptr nx1 2 0),(34,av a.to),(35,.int .i64 a.to.length),(36,.int .i64 x.1)]) (fun x H' nx'=>x.1 ≤ a.to.length∧nx1 < nx'∧(∀ y,y < nx1→H' y=H1 y)∧H' nx1=some [av a.fr,x.2]∧Row H' 2 x.2 (cX ((a.to.take x.1).map (dA b)))∧(∀ C,di x.2=some C→nx1 < C∧C < nx')∧∀ i,i < x.1→decide (a.to.getD i default ∈ b.fr)=true) (fun x=>a.to.length - x.1) (0,.esl) ⟨Nat.zero_le _,by omega,fun y hy=>by (repeat rw [ag (by omega)]),by rw [ah]; rfl,Row.nil,fun C h=>(by cases h),fun i h=>absurd h (by omega)⟩ (by (iterate 6 refine And.intro rfl ?_); trivial) ?_
 rintro ⟨k,sv⟩ H' nx' ⟨h1,h2,h3,h4,hrow,hbd,hz⟩
 dsimp only at h1 h4 hrow hbd hz ⊢
 by_cases hk:k < a.to.length
 rotate_left
 ·rw [List.take_of_length_le (by omega)] at hrow
  have ht:bo b a.to=true:=iw fun i hi=>hz i (by omega)
  rw [if_neg (by rw [ht]; exact fun h=>by cases h)]
  obtain ⟨o1,o2⟩:=hrow.one
  have g6:H' 2=some [.esl,.esl]:=(h3 2 (by omega)).trans g2
  (have zz:=aI @h4 (aI @g6 (aI @o1 (aI @o2 (aI @aF @ay)))); repeat' (first|refine zW ?_|apply a_n|apply a_x|refine zO ?_|refine vY ?_|refine stY ?_|(refine zGY ?_ ?_ <;> (intro _hg; try (exfalso; omega)))|refine ai rfl ?_|refine r2Y ?_|fail)) <;> (try clear zz)
  exact qC (az _).snap (xR (hrow.same fun C hC=>ag (by have:=hbd C hC; omega))) rfl
 have ix:=ix2 hk
 have hb1:H' B=some [.omap (b.fr.map bk) (b.to.map bk)]:=(h3 B hB2).trans hB3
 have hmf:=kL (a.to.getD k default) b.fr
 have hcl:(cX ((a.to.take k).map (dA b))).length=k * 2:=by rw [eZ,List.length_map,List.length_take]; omega
 have e1:(a.to.take (k + 1)).map (dA b)=(a.to.take k).map (dA b) ++ [dA b (a.to.getD k default)]:=by rw [bG hk,List.map_append]; rfl
 by_cases hv:a.to.getD k default ∈ b.fr
 rotate_left
 ·have ht:bo b a.to=false:=gm hk (decide_eq_false hv)
  rw [if_pos ht]
  rw [if_neg hv] at hmf
  have g6:H' 2=some [.esl,.esl]:=(h3 2 (by omega)).trans g2
  generalize a.to.getD k default=v at *
  (have zz:=@ix; repeat' (first|refine zW ?_|apply a_n|refine zO ?_|refine vY ?_|refine alY ?_|refine stY ?_|(refine zGY ?_ ?_ <;> (intro _hg; try (exfalso; omega)))|fail)) <;> (try clear zz)
  refine iu ev0 (by (repeat rw [ag (by omega)]); exact hb1) ev0 (jX v) hmf ?_
  rw [show mget (.agg [.int .i64 0,.int .i64 0]) true none (b.to.map bk)=.tup [.agg [.int .i64 0,.int .i64 0],.bool false] from rfl]
  (have zz:=@g6; repeat' (first|refine zW ?_|apply a_n|apply a_r|refine zO ?_|refine vY ?_|refine alY ?_|refine stY ?_|refine cTY ?_|refine ai rfl ?_|refine r2Y ?_|fail)) <;> (try clear zz)
  exact qC (.eslsl _) (.eslsl _) rfl
 rw [if_pos hv] at hmf
 have hmg:=qW q2 hv
 have hzz:∀ i,i < k + 1→decide (a.to.getD i default ∈ b.fr)=true:=fun i hi=>by
  rcases Nat.lt_succ_iff_lt_or_eq.1 hi with h' | rfl
  ·exact hz i h'
  ·exact decide_eq_true hv
 generalize a.to.getD k default=v at *
 generalize dA b v=w at *
 (have zz:=@ix; repeat' (first|refine zW ?_|apply a_n|refine zO ?_|refine vY ?_|refine alY ?_|refine stY ?_|(refine zGY ?_ ?_ <;> (intro _hg; try (exfalso; omega)))|fail)) <;> (try clear zz)
 refine iu ev0 (by (repeat rw [ag (by omega)]); exact hb1) ev0 (jX v) hmf ?_
 rw [show mget (.agg [.int .i64 0,.int .i64 0]) true (some (b.fr.idxOf v)) (b.to.map bk)=.tup [(b.to.map bk).getD (b.fr.idxOf v) .undef,.bool true] from rfl,hmg]
 (have zz:=@h4; repeat' (first|refine zW ?_|apply a_n|refine zO ?_|refine vY ?_|refine alY ?_|refine stY ?_|refine blY ?_|refine cFY ?_|fail)) <;> (try clear zz)
 refine jk rfl ev0 (hrow.same fun C hC=>?_) ev0 lB rfl rfl (by omega) (by omega) (by omega) ?_
 ·have:=hbd C hC; (repeat rw [ag (by omega)])
 rintro s2 H2 nx2 hr2 i1 i2 i3 i4
 have h4':H2 nx1=some [av a.fr,sv]:=(i3 nx1 (by omega) (fun h=>by have:=hbd _ h; omega)).trans (by (repeat rw [ag (by omega)]); exact h4)
 obtain ⟨o1,o2⟩:=hr2.one
 (have zz:=aI @h4' (aI @o1 @o2); repeat' (first|apply a_n|refine zO ?_|refine vY ?_|refine stY ?_|fail)) <;> (try clear zz)
 refine ⟨(k + 1,s2),by dsimp only; omega,⟨by dsimp only; omega,by omega,fun y hy=>?_,by rw [ah]; rfl,?_,fun C hC=>?_,hzz⟩,ag0⟩
 ·rw [ag (by omega),i3 y (by omega) (fun h=>by have:=hbd _ h; omega)]; (repeat rw [ag (by omega)]); exact h3 y hy
 ·dsimp only
  rw [e1,iX]
  refine hr2.same fun C hC=>ag ?_
  rcases i4 C hC with h | h
  ·have:=hbd C h; omega
  ·omega
 ·rcases i4 C hC with h | h
  ·have:=hbd C h; omega
  ·omega
end Go.Proofs.YtbgdcebmgjafjaaGreat
namespace Go.Proofs.YtbgdcebmgjafjaaGreat
open Go Go.Abs
attribute [local irreducible] aG al a9 aW aN aP aC aQ aZ bt Go.Abs.Fn aV Go.Abs.Pure ax aL Yl
end Go.Proofs.YtbgdcebmgjafjaaGreat
namespace Go.Proofs.YtbgdcebmgjafjaaGreat
open Go Go.Abs
attribute [local irreducible] aG al a9 aW aN aP aC aQ aZ bt Go.Abs.Fn aV Go.Abs.Pure ax aL Yl
theorem jy {L:List Spx} (hL:∀ s ∈ L,s.length ≤ 8):∀ (n:Nat) (s:Spx),s ∈ L→8 ≤ s.length + n→∃ t ∈ dp L,∀ v ∈ s,v ∈ t
 | n,s,hs,hn=>by
  cases h:bx L s
  ·exact ⟨s,iR.2 ⟨hs,h⟩,fun v hv=>hv⟩
  ·obtain ⟨t,t1,t2,t3⟩:=bE.1 h
   match n with
   | 0=>have:=hL t t1; omega
   | n + 1 =>
    obtain ⟨u,u1,u2⟩:=jy hL n t t1 (by omega)
    exact ⟨u,u1,fun v hv=>u2 v (t3 v hv)⟩
theorem uh {m:MapV} {a b:Spx} (h:∀ v ∈ a,v ∈ b):∀ w ∈ bq m a,w ∈ bq m b:=fun w hw=>by
 obtain ⟨v,v1,v2⟩:=eV.1 hw
 exact eV.2 ⟨v,h v v1,v2⟩
theorem pd {m:MapV} {c:List Spx} (hc:aO c=0) {x y:Spx} (hx:x ∈ c) (hy:∀ v ∈ y,v ∈ x):((dp (c.map (bq m))).any fun t=>cz (bq m y) t)=true:=by
 obtain ⟨p1,p2,p3,p4⟩:=cr hc
 have h8:∀ s ∈ c.map (bq m),s.length ≤ 8:=fun s hs=>by
  obtain ⟨t,t1,rfl⟩:=List.mem_map.1 hs
  exact Nat.le_trans i6 (cm (p2 t t1)).2.1
 obtain ⟨t,t1,t2⟩:=jy h8 8 (bq m x) (List.mem_map.2 ⟨x,hx,rfl⟩) (by omega)
 exact List.any_eq_true.2 ⟨t,t1,eM.2 fun w hw=>t2 w (uh hy w hw)⟩
end Go.Proofs.YtbgdcebmgjafjaaGreat
namespace Go.Proofs.YtbgdcebmgjafjaaGreat
open Go Go.Abs
def Bd:List (Nat × F2):=[(11,b11),(12,b12),(14,b14),(16,b16),(18,b18),(21,b21),(23,b23),(27,b27),(29,b29),(31,b31),(32,b32),(34,b34),(35,b35),(40,b40),(41,b41),(42,b42),(43,b43),(44,b44),(45,b45),(46,b46),(47,b47),(48,b48),(49,b49),(57,b57),(58,b58),(59,b59),(62,b62),(63,b63),(64,b64),(69,b69),(70,b70),(72,b72),(73,b73),(74,b74),(75,b75),(76,b76),(84,b84),(85,b85),(86,b86),(88,b88),(91,b91),(92,b92),(93,b93),(94,b94),(95,b95),(99,b99),(103,zE),(104,Ag),(108,zn),(109,yg),(110,zi),(111,zd),(112,zG),(113,zu),(114,yh),(122,zw),(123,yF),(127,zY),(129,yd),(130,zD),(132,Ab),(141,yC),(142,xX)]
theorem AZ:iv Tryz.prog (lookup Bd) :=
 (ao CU (ao Cc (ao CV (ao Bl (ao Cx (ao Ar (ao C7 (ao Av (ao AU (ao Ae (ao Az (ao AN (ao A8 (ao Bp (ao B0 (ao Co (ao AR (ao AY (ao Ax (ao Ay (ao CC (ao CM (ao B9 (ao B6 (ao A5 (ao Cy (ao AK (ao Bi (ao Aw (ao Cn (ao CE (ao BP (ao Bo (ao AB (ao AF (ao BH (ao Bh (ao CD (ao A9 (ao AX (ao B5 (ao Ca (ao Cb (ao A0 (ao Cu (ao A2 (ao yM (ao yN (ao zc (ao wA (ao yO (ao y9 (ao yQ (ao zb (ao xz (ao yW (ao wL (ao yJ (ao wk (ao yZ (ao yY (ao wR (ao wo vj)))))))))))))))))))))))))))))))))))))))))))))))))))))))))))))))
set_option maxRecDepth 100000 in
theorem dT:Go.Abs.Pure Tryz.prog 11 [] (.bool true):=Pure.of_run follows AZ (pf:=yU [23,14,12,18,16,27,21,40]) (n:=2000) (good:=isTrue) (by decide +kernel) u6
end Go.Proofs.YtbgdcebmgjafjaaGreat
namespace Go.Proofs.YtbgdcebmgjafjaaGreat
open Go Go.Abs
attribute [local irreducible] aG al a9 aW aN aP aC aQ aZ bt Go.Abs.Fn aV Go.Abs.Pure ax aL Yl
end Go.Proofs.YtbgdcebmgjafjaaGreat
namespace Go.Proofs.YtbgdcebmgjafjaaGreat
open Go Go.Abs
attribute [local irreducible] aG al a9 aW aN aP aC aQ aZ bt Go.Abs.Fn aV Go.Abs.Pure ax aL Yl
end Go.Proofs.YtbgdcebmgjafjaaGreat