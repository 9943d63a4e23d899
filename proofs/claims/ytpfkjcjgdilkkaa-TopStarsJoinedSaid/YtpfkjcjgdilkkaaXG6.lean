/- Texts of this claim, one after the other: T106, T109, T110, T111, T112, T113, T107, T114, T115, T116, T117, T119, T124, T125, T120, T123, T126, T127, T128, T129, T130, T131, T132, T134, T160, T161, T200, T202, T146, T209, T210, T211, A17, T212, T118, T135, T136, T137, T138, T139, T140, T141, T142, T143, A33, T122, T133, T144, T147, T148, T149, T170, T151, T171, T163, T164, T162, T165, T190, T172, T173, T174, T175, T176, T177, T166, T167, T201, T203, T208, T121. -/
import Derived.Test.YtpfkjcjgdilkkaaXG4
import Derived.Test.YtpfkjcjgdilkkaaXG5
import Derived.Test.YtpfkjcjgdilkkaaXG3
import Derived.Test.YtpfkjcjgdilkkaaRows
import Derived.WalkKit
import Derived.ProofKit
import Derived.OpenShut

set_option linter.unusedSimpArgs false
set_option linter.unusedVariables false
namespace Go.Proofs.Ytpfkjcjgdilkkaa
open Go Go.Abs
open Nat (reduceEqDiff reduceAdd reduceLeDiff)
theorem o9:∀ (l:Spx) (k:Nat),(cX l).drop (k * 2)=cX (l.drop k)
 | [],k=>by simp [cX]
 | a :: l,0=>by simp
 | a :: l,k + 1=>by
  show (ke a ++ cX l).drop _=cX (l.drop k)
  rw [show (k + 1) * 2=(ke a).length + k * 2 by show _=2 + _; omega,List.drop_append,List.drop_eq_nil_of_le (Nat.le_add_right _ _),List.nil_append,Nat.add_sub_cancel_left,o9 l k]
theorem kY:∀ (l:Spx) (k:Nat),(cX l).take (k * 2)=cX (l.take k)
 | [],k=>by simp [cX]
 | a :: l,0=>by simp [cX]
 | a :: l,k + 1=>by
  show (ke a ++ cX l).take _=ke a ++ cX (l.take k)
  rw [List.take_append,List.take_of_length_le (by show 2 ≤ _; omega),show (k + 1) * 2 - (ke a).length=k * 2 by show _ - 2=_; omega,kY l k]
theorem rdX {l:Spx} {k:Nat} (hk:k < l.length):((cX l).drop (k * 2)).take 2=[.int .i64 (l.getD k default).color,.int .i64 (l.getD k default).label]:=by
 rw [o9,eS hk]; rfl
theorem zI {l:Spx} {k:Nat} {w:Vtx} (hk:k < l.length):bg (cX l) (k * 2) [.int .i64 w.color,.int .i64 w.label]=cX (l.set k w):=by
 simp only [bg,List.length_cons,List.length_nil]
 rw [show k * 2 + (0 + 1 + 1)=(k + 1) * 2 by omega,o9,kY,List.set_eq_take_append_cons_drop,if_pos hk]
 simp only [cX,List.flatMap_append,List.flatMap_cons,List.append_assoc]
 rfl
theorem k9 {c:Prop} [Decidable c] {g:List AV→AV} {x:List AV}:Option.map g (if c then some x else none)=if c then some (g x) else none:=by
 split <;> rfl
theorem sX {L:Spx} {h:Nat} {x:Vtx} (hh:h < L.length):(L.set h x).take (h + 1)=L.take h ++ [x]:=by
 rw [bV (by simpa using hh),List.take_set_of_le (Nat.le_refl h)]
 simp [List.getD,hh]
theorem l5 {B n len k:Nat} (h:k < len) (hn:n ≠ 0):iA 2 (.msl B n 2 0 len) (some (.int .i64 k)) none none=some (.msl B n 2 (k * 2) (len - k)):=by
 simp only [iA,bc,Int.natCast_nonneg,if_true,Int.toNat_natCast]
 rw [if_pos ⟨trivial,by omega,Nat.le_refl _,hn⟩,if_pos (.inr h),Nat.zero_add]
theorem lW {B n len k:Nat} (h:k ≤ len) (hn:n ≠ 0):iA 2 (.msl B n 2 0 len) none (some (.int .i64 k)) none=some (.msl B n 2 0 k):=by
 simp only [iA,bc,Int.natCast_nonneg,if_true,Int.toNat_natCast]
 rw [if_pos ⟨trivial,by omega,h,hn⟩,if_pos (.inl trivial),Nat.zero_mul,Nat.sub_zero]
theorem sG {H:Hp} {B:Nat} {cs:List AV} (hH:H B=some cs):H=ag H B cs:=by
 funext b
 by_cases e:b=B
 ·subst e; rw [aj]; exact hH
 ·rw [ao e]
attribute [local irreducible] aE ah aX aP aH aJ az aK aQ bf Go.Abs.Fn aM Go.Abs.Pure ap aD Yl
set_option maxHeartbeats 1000000 in
theorem qT (l:Spx) (hl:Shn l) (h0:l ≠ []) (H:Hp) (B nx:Nat) (hH:H B=some (cX l)) (hB:B < nx) :
    Abs.Fn Try.prog 51 [.msl B (l.length * 2) 2 0 l.length] H nx fun r H' nx'=>r=.msl B (l.length * 2) 2 0 (bn l l.length)∧(∃ C,H'=ag H B C∧C.length=l.length * 2∧C.take (bn l l.length * 2)=cX (cR l l.length))∧nx'=nx:=by
 refine Abs.Fn.of_c2 follows xd (Nat.le_of_ble_eq_true rfl) ?_
 simp only [b51,cO,cG,cN,cM,cD,cF,cB,ay,aO]
 have hl':l.length ≤ 17592186044416:=hl
 have hpos:=List.length_pos_iff.2 h0
 have hid:=sG hH
 (have zz:=and_self; repeat' (first|refine zW ?_|apply a_n|apply a_r|refine zO ?_|refine vZ ?_|(refine zGZ ?_ ?_ <;> (intro _hg; try (exfalso; omega)))|refine af rfl ?_|refine r1Z ?_|fail)) <;> (try clear zz)
 ·have e1:l.length=1:=by omega
  have e2:cR l l.length=l:=by
   match l,e1 with
   | [a],_=>rfl
  refine ⟨?_,⟨_,hid,eW l,?_⟩,rfl⟩
  ·rw [show bn l l.length=l.length by rw [e1]; rfl]
  ·rw [e2,show bn l l.length=l.length by rw [e1]; rfl,List.take_of_length_le (by rw [eW]; omega)]
 refine aR (X:=Nat) (fun k=>[(0,.msl B (l.length * 2) 2 0 l.length),(3,.int .i64 k)]) (fun k H' nx'=>H'=H∧nx'=nx∧1 ≤ k∧k ≤ l.length∧bn l k=k∧cR l k=l.take k) (fun k=>l.length - k) 1 ⟨rfl,rfl,Nat.le_refl _,hpos,rfl,by match l,h0 with | a :: r,_=>rfl⟩ ag0 ?_
 rintro k H' nx' ⟨rfl,rfl,k1,k2,k3,k4⟩
 have hcl:=eW l
 by_cases hk:k < l.length
 ·have tk:(k:Int) - 1=(k - 1:Nat):=by omega
  have q1:=rdX hk
  have q2:=rdX (l:=l) (k:=k - 1) (by omega)
  have hd:=gc (l.getD k default) (l.getD (k - 1) default)
  by_cases he:l.getD k default=l.getD (k - 1) default
  ·have hs:=l5 (B:=B) (n:=l.length * 2) hk (by omega)
   rw [decide_eq_true he] at hd
   (have zz:=aI @tk (aI @hH (aI @Int.toNat_natCast (aI @hcl (aI @q1 (aI @q2 (aI @k9 (aI @acq (aI @hd @hs)))))))); repeat' (first|refine zW ?_|apply a_n|refine zO ?_|refine vZ ?_|refine cTZ ?_|(refine zGZ ?_ ?_ <;> (intro _hg; try (exfalso; omega)))|fail)) <;> (try clear zz)
   refine aR (X:=Nat × Spx) (fun x=>[(0,.msl B (l.length * 2) 2 0 l.length),(3,.int .i64 (bn l (k + x.1):Nat)),(4,.msl B (l.length * 2) 2 (k * 2) (l.length - k)),(5,.int .i64 x.1)]) (fun x H2 nx2=>x.2.length=l.length∧1 ≤ x.1∧k + x.1 ≤ l.length∧bn l (k + x.1) + 1 ≤ k + x.1∧H2=ag H' B (cX x.2)∧nx2=nx'∧(∀ p,k + x.1 ≤ p + 1→x.2.getD p default=l.getD p default)∧x.2.take (bn l (k + x.1))=cR l (k + x.1)) (fun x=>l.length - x.1) (1,l)
    ⟨rfl,Nat.le_refl _,hk,by dsimp only; rw [de (by omega) he]; omega,hid,rfl,fun _ _=>rfl,by dsimp only; rw [de (by omega) he,f5 (by omega) he,k3,k4]⟩ (by simp (disch:=omega) only [agr,ZG,reduceEqDiff,↓reduceIte,de (show k ≠ 0 by omega) he,k3]) ?_
   rintro ⟨j,L⟩ H2 nx2 ⟨a1,a2,a3,a4,rfl,rfl,a5,a6⟩
   dsimp only at a1 a2 a3 a4 a5 a6 ⊢
   have hcL:(cX L).length=l.length * 2:=by rw [eW,a1]
   by_cases hj:k + j < l.length
   ·have tj:(j:Int) - 1=(j - 1:Nat):=by omega
    have r1:=a5 (k + j) (by omega)
    have r2:=a5 (k + (j - 1)) (by omega)
    have s1:=rdX (l:=L) (k:=k + j) (by omega)
    have s2:=rdX (l:=L) (k:=k + (j - 1)) (by omega)
    rw [r1] at s1
    rw [r2] at s2
    rw [Nat.add_mul] at s1 s2
    have hd2:=gc (l.getD (k + j) default) (l.getD (k + (j - 1)) default)
    by_cases hd:l.getD (k + j) default=l.getD (k + (j - 1)) default
    ·have hq:bn l (k + (j + 1))=bn l (k + j):=de (l:=l) (k:=k + j) (by omega) (by rw [hd,show k + j - 1=k + (j - 1) by omega])
     rw [decide_eq_true hd] at hd2
     (have zz:=aI @tj (aI @Int.toNat_natCast (aI @hcL (aI @s1 (aI @s2 (aI @k9 (aI @acn @hd2)))))); repeat' (first|refine zW ?_|apply a_n|refine zO ?_|refine vZ ?_|refine cFZ ?_|(refine zGZ ?_ ?_ <;> (intro _hg; try (exfalso; omega)))|fail)) <;> (try clear zz)
     refine ⟨(j + 1,L),by dsimp only; omega,⟨a1,by dsimp only; omega,by dsimp only; omega,?_,rfl,rfl,fun p hp=>a5 p (by dsimp only at hp; omega),by dsimp only; rw [hq,show k + (j + 1)=k + j + 1 from rfl,f5 (by omega) (by rw [hd,show k + j - 1=k + (j - 1) by omega])]; exact a6⟩,(have zz:=@hq; agZ)⟩
     dsimp only
     rw [hq]
     omega
    ·have hq:bn l (k + (j + 1))=bn l (k + j) + 1:=fX (l:=l) (k:=k + j) (by rw [show k + j - 1=k + (j - 1) by omega]; exact hd)
     have hlm:=zI (l:=L) (k:=bn l (k + j)) (w:=l.getD (k + j) default) (by omega)
     rw [decide_eq_false hd] at hd2
     have hle:bn l (k + j) * 2 + 2 ≤ l.length * 2:=by omega
     (have zz:=aI @tj (aI @Int.toNat_natCast (aI @hcL (aI @s1 (aI @s2 (aI @k9 (aI @acn @hd2)))))); repeat' (first|refine zW ?_|apply a_n|refine zO ?_|refine vZ ?_|refine stZ ?_|refine cTZ ?_|(refine zGZ ?_ ?_ <;> (intro _hg; try (exfalso; omega)))|fail)) <;> (try clear zz)
     refine ⟨(j + 1,L.set (bn l (k + j)) (l.getD (k + j) default)),by dsimp only; omega,⟨by simp [a1],by dsimp only; omega,by dsimp only; omega,?_,?_,rfl,fun p hp=>?_,by dsimp only; rw [hq,sX (by omega),a6,show k + (j + 1)=k + j + 1 from rfl,gd (by rw [show k + j - 1=k + (j - 1) by omega]; exact hd)]⟩,(have zz:=@hq; agZ)⟩
     ·dsimp only
      rw [hq]
      omega
     ·dsimp only
      rw [am,hlm]
     ·dsimp only at hp ⊢
      rw [List.getD_eq_getElem?_getD,List.getElem?_set_ne (by omega),← List.getD_eq_getElem?_getD]
      exact a5 p (by omega)
   ·have hn:k + j=l.length:=by omega
    have hl1:=l5 (B:=B) (n:=l.length * 2) (show bn l (k + j) < l.length by omega) (by omega)
    have hl2:=lW (B:=B) (n:=l.length * 2) (show bn l (k + j) ≤ l.length by omega) (by omega)
    (have zz:=aI @hl1 @hl2; repeat' (first|refine zW ?_|apply a_n|apply a_x|refine zO ?_|refine vZ ?_|(refine zGZ ?_ ?_ <;> (intro _hg; try (exfalso; omega)))|fail)) <;> (try clear zz)
    refine wW (H':=ag (ag H' B (cX L)) B (bg (cX L) (bn l (k + j) * 2) (a7 (.agg [.int .i64 0,.int .i64 0]) (l.length - bn l (k + j))))) ?_ ?_
    ·((try simp only [cH,ZA,reduceEqDiff,↓reduceIte,reduceAdd,reduceLeDiff]); (try with_reducible rfl))
     simp only [eZ]
     rw [if_neg (by omega),aj]
     dsimp only
     rw [if_pos ⟨hcL,trivial,rfl,rfl,by omega⟩]
     rfl
    ·(have zz:=@hl2; repeat' (first|refine zW ?_|apply a_n|apply a_r|refine zO ?_|refine vZ ?_|refine af rfl ?_|refine r1Z ?_|fail)) <;> (try clear zz)
     refine ⟨by rw [hn],⟨_,am _ _ _ _,?_,?_⟩,rfl⟩
     ·have hz:(a7 (AV.agg [.int .i64 0,.int .i64 0]) (l.length - bn l (k + j))).length=(l.length - bn l (k + j)) * 2:=by simp [a7,AV.cells]
      simp only [bg,List.length_append,List.length_take,List.length_drop,hz,hcL]
      omega
     ·rw [← hn,← a6,← kY]
      simp only [bg]
      rw [List.append_assoc,List.take_append_of_le_length (by rw [List.length_take,hcL]; omega),List.take_take,Nat.min_self]
  ·rw [decide_eq_false he] at hd
   (have zz:=aI @tk (aI @hH (aI @Int.toNat_natCast (aI @hcl (aI @q1 (aI @q2 (aI @k9 (aI @acq @hd))))))); repeat' (first|refine zW ?_|apply a_n|refine zO ?_|refine vZ ?_|refine cFZ ?_|(refine zGZ ?_ ?_ <;> (intro _hg; try (exfalso; omega)))|fail)) <;> (try clear zz)
   exact ⟨k + 1,by omega,⟨rfl,rfl,by omega,by omega,by rw [fX he,k3],by rw [gd he,k4,bV hk]⟩,ag0⟩
 ·(have zz:=and_self; repeat' (first|refine zW ?_|apply a_n|apply a_x|refine zO ?_|refine vZ ?_|(refine zGZ ?_ ?_ <;> (intro _hg; try (exfalso; omega)))|refine af rfl ?_|refine r1Z ?_|fail)) <;> (try clear zz)
  have e:l.length=k:=by omega
  refine ⟨by rw [e,k3],⟨_,hid,hcl,?_⟩,rfl⟩
  rw [e,k3,k4,← kY]
end Go.Proofs.Ytpfkjcjgdilkkaa
namespace Go.Proofs.Ytpfkjcjgdilkkaa
open Go Go.Abs
theorem xe (a b:Vtx):kG (.st [.int,.int]) (bC a) (bC b)=some (decide (a=b)):=by
 show ci [.int,.int] [.int .i64 a.color,.int .i64 a.label] [.int .i64 b.color,.int .i64 b.label]=_
 rw [rK,gc]
theorem n8 (v:Vtx) (ks:List Vtx):bX (.st [.int,.int]) (bC v) (ks.map bC)=some (if v ∈ ks then some (ks.idxOf v) else none):=nz _ bC xe v ks
theorem pM (v:Vtx):f8 (.st [.int,.int]) (bC v)=true:=rfl
def fo (l:List Spx) (i:Nat) (v:Vtx):List Nat:=(List.range i).filter fun k=>decide (v ∈ l.getD k default)
def i8 (l:List Spx) (i j:Nat) (v:Vtx):List Nat:=fo l i v ++ if v ∈ (l.getD i default).take j then [i] else []
theorem sB {l:List Spx} {i:Nat} {v:Vtx}:fo l (i + 1) v=i8 l i (l.getD i default).length v:=by
 unfold fo i8
 rw [List.range_succ,List.filter_append,List.take_length]
 congr 1
 by_cases h:v ∈ l.getD i default
 ·rw [if_pos h]; simp only [List.filter,h,decide_true]
 ·rw [if_neg h]; simp only [List.filter,h,decide_false]
theorem tn {l:List Spx} {i:Nat} {v:Vtx}:i8 l i 0 v=fo l i v:=by unfold i8; simp
theorem tZ {l:List Spx} {i j:Nat} {v:Vtx} (hj:j < (l.getD i default).length) (ha:bP be (l.getD i default)):i8 l i (j + 1) v=if v=(l.getD i default).getD j default then i8 l i j v ++ [i] else i8 l i j v:=by
 unfold i8
 generalize l.getD i default=s at *
 rw [bV hj]
 by_cases h:v=s.getD j default
 ·have hn:v ∉ s.take j:=fun hm=>by
    obtain ⟨k,hk,e⟩:=List.getElem_of_mem hm
    rw [List.length_take] at hk
    rw [List.getElem_take] at e
    have:=dU ha (i:=k) (j:=j) (by omega) hj
    rw [← h,← e] at this
    have e2:s.getD k default=s[k]:=by simp [List.getD,show k < s.length by omega]
    rw [e2] at this
    exact kc.ord.irr _ this
  rw [if_pos h,if_neg hn,if_pos (by rw [List.mem_append,h]; simp)]
  simp
 ·rw [if_neg h]
  congr 1
  have e:v ∈ s.take j ++ [s.getD j default] ↔ v ∈ s.take j:=by rw [List.mem_append,List.mem_singleton]; exact ⟨fun h'=>h'.resolve_right h,.inl⟩
  by_cases h2:v ∈ s.take j
  ·rw [if_pos (e.2 h2),if_pos h2]
  ·rw [if_neg (fun h=>h2 (e.1 h)),if_neg h2]
def sZ (i:Nat):AV:=.int .i64 (i:Int)
structure IncOk (H:Hp) (b lo hi:Nat) (F:Vtx→List Nat) (ks:List Vtx) (vs:List AV):Prop where
 box:H b=some [.omap (ks.map bC) vs]
 len:vs.length=ks.length
 nodup:ks.Nodup
 dom:∀ v,v ∈ ks ↔ F v ≠ []
 row:∀ j,j < ks.length→Row H 1 (vs.getD j .undef) ((F (ks.getD j default)).map sZ)
 bnd:∀ j B,j < ks.length→cp (vs.getD j .undef)=some B→lo ≤ B∧B < hi∧B ≠ b
 apart:∀ i j B,i < ks.length→j < ks.length→i ≠ j→cp (vs.getD i .undef)=some B→cp (vs.getD j .undef) ≠ some B
 lt:b < hi
theorem nS {l:List AV} {i j:Nat} {x:AV} (h:i < l.length):(l.set i x).getD j .undef=if i=j then x else l.getD j .undef:=by
 simp only [List.getD,List.getElem?_set]
 split
 ·rename_i e; subst e; simp [h]
 ·rfl
theorem pA {α:Type} {l m:List α} {j:Nat} {d:α} (h:j < l.length):(l ++ m).getD j d=l.getD j d:=by
 simp [List.getD,List.getElem?_append_left h]
theorem nF {α:Type} {l:List α} {x d:α}:(l ++ [x]).getD l.length d=x:=by simp [List.getD]
theorem lf {l:List Vtx} {v:Vtx} (h:v ∈ l):l.idxOf v < l.length∧l.getD (l.idxOf v) default=v:=by
 have h1:=List.idxOf_lt_length_iff.2 h
 exact ⟨h1,by simp [List.getD,h1]⟩
theorem tF {l:List Vtx} (h:l.Nodup) {i j:Nat} (hi:i < l.length) (hj:j < l.length) (e:l.getD i default=l.getD j default):i=j:=by
 have hp:=List.pairwise_iff_getElem.1 (List.nodup_iff_pairwise_ne.1 h)
 rw [show l.getD i default=l[i] by simp [List.getD,hi],show l.getD j default=l[j] by simp [List.getD,hj]] at e
 rcases Nat.lt_trichotomy i j with c | c | c
 ·exact absurd e (hp i j hi hj c)
 ·exact c
 ·exact absurd e.symm (hp j i hj hi c)
theorem IncOk.same {H H':Hp} {b lo hi hi':Nat} {F:Vtx→List Nat} {ks:List Vtx} {vs:List AV} (h:IncOk H b lo hi F ks vs) (hb:H' b=H b) (hs:∀ x,lo ≤ x→x < hi→x ≠ b→H' x=H x) (hh:hi ≤ hi'):IncOk H' b lo hi' F ks vs :=
 ⟨hb.trans h.box,h.len,h.nodup,h.dom,fun j hj=>(h.row j hj).same fun B hB=>by have:=h.bnd j B hj hB; exact hs B this.1 this.2.1 this.2.2,fun j B hj hB=>by have:=h.bnd j B hj hB; exact ⟨this.1,by omega,this.2.2⟩,h.apart,by have:=h.lt; omega⟩
theorem IncOk.put {H H':Hp} {b lo hi hi' i:Nat} {F G:Vtx→List Nat} {ks:List Vtx} {vs:List AV} {w:Vtx} {sv:AV} (h:IncOk H b lo hi F ks vs) (hw:w ∈ ks) (hG:∀ v,G v=if v=w then F v ++ [i] else F v) (hrow:Row H' 1 sv ((F w ++ [i]).map sZ)) (hB:∀ B,cp sv=some B→cp (vs.getD (ks.idxOf w) .undef)=some B ∨ hi ≤ B∧B < hi'∧B ≠ b) (hb:H' b=some [.omap (ks.map bC) (vs.set (ks.idxOf w) sv)])
    (hs:∀ x,lo ≤ x→x < hi→x ≠ b→cp (vs.getD (ks.idxOf w) .undef) ≠ some x→H' x=H x) (hh:hi ≤ hi') (hlo:lo ≤ hi):IncOk H' b lo hi' G ks (vs.set (ks.idxOf w) sv):=by
 obtain ⟨k1,k2⟩:=lf hw
 have hl:=h.len
 have hg:∀ j,(vs.set (ks.idxOf w) sv).getD j .undef=if ks.idxOf w=j then sv else vs.getD j .undef:=fun j=>nS (by omega)
 have hne:∀ j,j < ks.length→ks.idxOf w ≠ j→ks.getD j default ≠ w:=fun j hj hn e=>hn (tF h.nodup k1 hj (by rw [k2,e]))
 refine ⟨hb,by simp [hl],h.nodup,fun v=>?_,fun j hj=>?_,fun j B hj=>?_,fun p q B hp hq hpq=>?_,by have:=h.lt; omega⟩
 ·rw [hG,h.dom]
  by_cases e:v=w
  ·subst e
   rw [if_pos rfl]
   exact ⟨fun _=>by simp,fun _=>(h.dom v).1 hw⟩
  ·rw [if_neg e]
 ·rw [hg,hG]
  by_cases e:ks.idxOf w=j
  ·rw [if_pos e,if_pos (by rw [← e]; exact k2),← e,k2]; exact hrow
  ·rw [if_neg e,if_neg (hne j hj e)]
   exact (h.row j hj).same fun B hB'=>by
    have:=h.bnd j B hj hB'
    exact hs B this.1 this.2.1 this.2.2 fun h'=>h.apart (ks.idxOf w) j B k1 hj e h' hB'
 ·rw [hg]
  by_cases e:ks.idxOf w=j
  ·rw [if_pos e]
   intro hB'
   rcases hB B hB' with h' | h'
   ·have:=h.bnd _ B k1 h'; exact ⟨this.1,by omega,this.2.2⟩
   ·exact ⟨by omega,h'.2⟩
  ·rw [if_neg e]
   intro hB'
   have:=h.bnd j B hj hB'
   exact ⟨this.1,by omega,this.2.2⟩
 ·rw [hg,hg]
  by_cases e1:ks.idxOf w=p
  ·rw [if_pos e1,if_neg (by omega)]
   intro h1 h2
   rcases hB B h1 with h' | h'
   ·exact h.apart (ks.idxOf w) q B k1 hq (by omega) h' h2
   ·have:=h.bnd q B hq h2; omega
  ·rw [if_neg e1]
   by_cases e2:ks.idxOf w=q
   ·rw [if_pos e2]
    intro h1 h2
    rcases hB B h2 with h' | h'
    ·exact h.apart p (ks.idxOf w) B hp k1 (by omega) h1 h'
    ·have:=h.bnd p B hp h1; omega
   ·rw [if_neg e2]; exact h.apart p q B hp hq hpq
theorem IncOk.new {H H':Hp} {b lo hi hi' i:Nat} {F G:Vtx→List Nat} {ks:List Vtx} {vs:List AV} {w:Vtx} {sv:AV} (h:IncOk H b lo hi F ks vs) (hw:w ∉ ks) (hG:∀ v,G v=if v=w then F v ++ [i] else F v) (hrow:Row H' 1 sv ([i].map sZ)) (hB:∀ B,cp sv=some B→hi ≤ B∧B < hi'∧B ≠ b) (hb:H' b=some [.omap ((ks ++ [w]).map bC) (vs ++ [sv])])
    (hs:∀ x,lo ≤ x→x < hi→x ≠ b→H' x=H x) (hh:hi ≤ hi') (hlo:lo ≤ hi):IncOk H' b lo hi' G (ks ++ [w]) (vs ++ [sv]):=by
 have hl:=h.len
 have hF:F w=[]:=by
  cases hf:F w with
  | nil=>rfl
  | cons a r=>exact absurd ((h.dom w).2 (by rw [hf]; simp)) hw
 have g1:∀ j,j < ks.length→(ks ++ [w]).getD j default=ks.getD j default∧(vs ++ [sv]).getD j .undef=vs.getD j .undef:=fun j hj=>⟨pA hj,pA (by omega)⟩
 have g2:(ks ++ [w]).getD ks.length default=w∧(vs ++ [sv]).getD ks.length .undef=sv:=⟨nF,by rw [← hl]; exact nF⟩
 refine ⟨hb,by simp [hl],?_,fun v=>?_,fun j hj=>?_,fun j B hj=>?_,fun p q B hp hq hpq=>?_,by have:=h.lt; omega⟩
 ·rw [List.nodup_append]
  exact ⟨h.nodup,by simp,fun a ha c hc e=>by rw [List.mem_singleton] at hc; exact hw (by rw [← hc,← e]; exact ha)⟩
 ·rw [hG,List.mem_append,List.mem_singleton]
  by_cases e:v=w
  ·subst e; rw [if_pos rfl]; simp
  ·rw [if_neg e,← h.dom]; simp [e]
 ·rw [List.length_append,List.length_singleton] at hj
  by_cases e:j=ks.length
  ·subst e
   rw [g2.1,g2.2,hG,if_pos rfl,hF]; exact hrow
  ·obtain ⟨e1,e2⟩:=g1 j (by omega)
   have hne:ks.getD j default ≠ w:=fun e'=>hw (e' ▸ aU (by omega))
   rw [e1,e2,hG,if_neg hne]
   exact (h.row j (by omega)).same fun B hB'=>by have:=h.bnd j B (by omega) hB'; exact hs B this.1 this.2.1 this.2.2
 ·rw [List.length_append,List.length_singleton] at hj
  by_cases e:j=ks.length
  ·subst e
   rw [g2.2]; intro hB'
   have:=hB B hB'; exact ⟨by omega,this.2⟩
  ·rw [(g1 j (by omega)).2]; intro hB'
   have:=h.bnd j B (by omega) hB'; exact ⟨this.1,by omega,this.2.2⟩
 ·rw [List.length_append,List.length_singleton] at hp hq
  by_cases e1:p=ks.length
  ·subst e1
   rw [g2.2,(g1 q (by omega)).2]
   intro h1 h2
   have:=hB B h1
   have:=h.bnd q B (by omega) h2
   omega
  ·rw [(g1 p (by omega)).2]
   by_cases e2:q=ks.length
   ·subst e2
    rw [g2.2]
    intro h1 h2
    have:=hB B h2
    have:=h.bnd p B (by omega) h1
    omega
   ·rw [(g1 q (by omega)).2]; exact h.apart p q B (by omega) (by omega) hpq
end Go.Proofs.Ytpfkjcjgdilkkaa
namespace Go.Proofs.Ytpfkjcjgdilkkaa
open Go Go.Abs
theorem fQ {H:Hp} {d:Nat} {x:AV}:dg 1 (ag H d [x]) (.msl d 1 1 0 1)=some (1,[x]):=jo (n:=1) (len:=1) (off:=0) (cs:=[x]) aj rfl (by simp)
theorem pe {l:List Spx} {i:Nat} {v:Vtx}:(fo l i v).length ≤ i:=by
 unfold fo
 have:=List.length_filter_le (fun k=>decide (v ∈ l.getD k default)) (List.range i)
 rwa [List.length_range] at this
theorem vE {l:List Spx} {i j:Nat} {v:Vtx}:(i8 l i j v).length ≤ i + 1:=by
 unfold i8
 have:=pe (l:=l) (i:=i) (v:=v)
 rw [List.length_append]
 split <;> simp <;> omega
attribute [local irreducible] aE ah aX aP aH aJ az aK aQ bf Go.Abs.Fn aM Go.Abs.Pure ap aD Yl
set_option maxHeartbeats 2000000 in
theorem gN (l:List Spx) (hl:l.length ≤ 100000) (hs:∀ s ∈ l,bP be s∧s.length ≤ 1000000) (H:Hp) (nx:Nat):Abs.Fn Try.prog 24 [av l] H nx fun r H' nx'=>∃ ks vs,r=.mp nx∧IncOk H' nx nx nx' (fo l l.length) ks vs∧(∀ x,x < nx→H' x=H x)∧nx < nx':=by
 refine Abs.Fn.of_c2 follows zF (Nat.le_of_ble_eq_true rfl) ?_
 simp only [b24,cO,cG,cN,cM,cD,cF,cB,ay,aO]
 refine cJ ?_
 (have zz:=and_self; repeat' (first|apply a_n|refine zO ?_|refine vZ ?_|fail)) <;> (try clear zz)
 refine cJ ?_
 (have zz:=and_self; repeat' (first|apply a_n|refine zO ?_|fail)) <;> (try clear zz)
 refine yp ?_
 (have zz:=@ai; repeat' (first|refine zW ?_|apply a_n|refine zO ?_|refine vY ?_|fail)) <;> (try clear zz)
 refine aR (X:=Nat × List Vtx × List AV) (fun x=>[(3,.mp nx),(9,av l),(10,.int .i64 l.length),(11,.int .i64 x.1)]) (fun x H' nx'=>x.1 ≤ l.length∧IncOk H' nx nx nx' (fo l x.1) x.2.1 x.2.2∧(∀ y,y < nx→H' y=H y)∧nx < nx') (fun x=>l.length - x.1) (0,[],[]) ⟨Nat.zero_le _,⟨aj,rfl,List.nodup_nil,fun v=>by simp [fo],fun j h=>absurd h (by simp),fun j B h=>absurd h (by simp),fun i j B h=>absurd h (by simp),by omega⟩,fun y hy=>ao (by omega),by omega⟩ ag0 ?_
 rintro ⟨i,ks,vs⟩ H1 nx1 ⟨h1,h2,h3,h4⟩
 dsimp only at h1 h2 ⊢
 by_cases hi:i < l.length
 rotate_left
 ·obtain rfl:i=l.length:=by omega
  (have zz:=and_self; repeat' (first|refine zW ?_|apply a_n|apply a_x|refine zO ?_|refine vY ?_|(refine zGY ?_ ?_ <;> (intro _hg; try (exfalso; omega)))|refine af rfl ?_|refine r1Y ?_|fail)) <;> (try clear zz)
  exact ⟨ks,vs,rfl,h2,h3,h4⟩
 have ix:=dZ hi
 obtain ⟨hsa,hsl⟩:=hs _ (aU hi)
 have hstep:=fun j v hj=>tZ (l:=l) (i:=i) (j:=j) (v:=v) hj hsa
 have hend:=fun v=>sB (l:=l) (i:=i) (v:=v)
 have hlen:=fun j v=>vE (l:=l) (i:=i) (j:=j) (v:=v)
 have h20:IncOk H1 nx nx nx1 (i8 l i 0) ks vs:=by rw [show i8 l i 0=fo l i from funext fun v=>tn]; exact h2
 have hend':fo l (i + 1)=i8 l i (l.getD i default).length:=funext hend
 clear h2
 generalize l.getD i default=s at *
 (have zz:=aI @ix @an; repeat' (first|refine zW ?_|apply a_n|refine zO ?_|refine vY ?_|(refine zGY ?_ ?_ <;> (intro _hg; try (exfalso; omega)))|fail)) <;> (try clear zz)
 refine aR (X:=Nat × List Vtx × List AV) (fun x=>[(3,.mp nx),(9,av l),(10,.int .i64 l.length),(11,.int .i64 i),(4,.int .i64 i),(5,aq s),(16,aq s),(17,.int .i64 s.length),(18,.int .i64 x.1)]) (fun x H' nx'=>x.1 ≤ s.length∧IncOk H' nx nx nx' (i8 l i x.1) x.2.1 x.2.2∧(∀ y,y < nx→H' y=H y)∧nx < nx') (fun x=>s.length - x.1) (0,ks,vs) ⟨Nat.zero_le _,h20,h3,h4⟩ ag0 ?_
 clear h20 h3 h4
 rintro ⟨j,ks,vs⟩ H2 nx2 ⟨k1,k2,k3,k4⟩
 dsimp only at k1 k2 ⊢
 by_cases hj:j < s.length
 rotate_left
 ·obtain rfl:j=s.length:=by omega
  (have zz:=and_self; repeat' (first|refine zW ?_|apply a_n|apply a_x|refine zO ?_|refine vY ?_|(refine zGY ?_ ?_ <;> (intro _hg; try (exfalso; omega)))|fail)) <;> (try clear zz)
  exact ⟨(i + 1,ks,vs),by dsimp only; omega,⟨by dsimp only; omega,by dsimp only; rw [hend']; exact k2,k3,k4⟩,ag0⟩
 have iy:=ix2 hj
 have hG:=fun v=>hstep j v hj
 have hcl:=hlen j (s.getD j default)
 generalize s.getD j default=w at *
 (have zz:=@iy; repeat' (first|refine zW ?_|apply a_n|refine zO ?_|refine vY ?_|refine alY ?_|refine stY ?_|refine blY ?_|(refine zGY ?_ ?_ <;> (intro _hg; try (exfalso; omega)))|fail)) <;> (try clear zz)
 have g3:∀ x,x < nx2→ag (ag (ag H2 nx2 [.int .i64 0,.int .i64 0]) nx2 (bg [.int .i64 0,.int .i64 0] 0 [.int .i64 w.color,.int .i64 w.label])) (nx2 + 1) [.int .i64 i] x=H2 x:=fun x hx=>by rw [ao (by omega),ao (by omega),ao (by omega)]
 have g4:ag (ag (ag H2 nx2 [.int .i64 0,.int .i64 0]) nx2 (bg [.int .i64 0,.int .i64 0] 0 [.int .i64 w.color,.int .i64 w.label])) (nx2 + 1) [.int .i64 i] (nx2 + 1)=some [.int .i64 i]:=aj
 generalize ag (ag (ag H2 nx2 [.int .i64 0,.int .i64 0]) nx2 (bg [.int .i64 0,.int .i64 0] 0 [.int .i64 w.color,.int .i64 w.label])) (nx2 + 1) [.int .i64 i]=H3 at *
 have hmf:=n8 w ks
 have hkl:(ks.map bC).length=ks.length:=List.length_map ..
 by_cases hw:w ∈ ks
 ·rw [if_pos hw] at hmf
  obtain ⟨m1,m2⟩:=lf hw
  have hr:=k2.row (ks.idxOf w) m1
  rw [m2] at hr
  refine vn ev0 ((g3 nx (by omega)).trans k2.box) ev0 (pM w) hmf ?_
  have g5:∀ x,x < nx2→x ≠ nx→ag H3 nx [.omap (bE (bC w) (some (ks.idxOf w)) (ks.map bC)) (gw .esl (some (ks.idxOf w)) vs)] x=H2 x:=fun x hx hn=>by rw [ao hn,g3 x hx]
  have g6:ag H3 nx [.omap (bE (bC w) (some (ks.idxOf w)) (ks.map bC)) (gw .esl (some (ks.idxOf w)) vs)] nx=some [.omap (ks.map bC) vs]:=aj
  have g7:ag H3 nx [.omap (bE (bC w) (some (ks.idxOf w)) (ks.map bC)) (gw .esl (some (ks.idxOf w)) vs)] (nx2 + 1)=some [.int .i64 i]:=by rw [ao (by omega)]; exact g4
  generalize ag H3 nx [.omap (bE (bC w) (some (ks.idxOf w)) (ks.map bC)) (gw .esl (some (ks.idxOf w)) vs)]=H4 at *
  rw [show qR .esl (some (ks.idxOf w)) vs=vs.getD (ks.idxOf w) .undef from rfl,show pG (some (ks.idxOf w)) (ks.map bC)=ks.idxOf w from rfl]
  (have zz:=and_self; repeat' (first|apply a_n|refine zO ?_|refine vY ?_|fail)) <;> (try clear zz)
  refine gn (k:=1) (new:=[.int .i64 i]) rfl ev0 (hr.same fun B hB=>?_) ev0 (jo (n:=1) (len:=1) (off:=0) g7 rfl (by omega)) rfl rfl Nat.one_pos (by rw [List.length_map]; omega) (by rw [List.length_map]; omega) ?_
  ·have:=k2.bnd _ B m1 hB
   exact g5 B this.2.1 this.2.2
  rintro s2 H5 nx5 hr5 i1 i2 i3 i4
  (have zz:=and_self; repeat' (first|apply a_n|refine zO ?_|refine vY ?_|fail)) <;> (try clear zz)
  refine uo ev0 ((i3 nx (by omega) (fun h=>(k2.bnd _ nx m1 h).2.2 rfl)).trans g6) ev0 (by rw [hkl]; exact m1) ev0 ?_
  (have zz:=and_self; repeat' (first|apply a_n|refine zO ?_|refine vY ?_|fail)) <;> (try clear zz)
  refine ⟨(j + 1,ks,vs.set (ks.idxOf w) s2),by dsimp only; omega,⟨by dsimp only; omega,IncOk.put k2 hw hG ?_ (fun B hB=>?_) aj (fun x hx hx2 hxn hxr=>?_) (by omega) (by omega),fun y hy=>?_,by omega⟩,ag0⟩
  ·rw [List.map_append]
   exact hr5.same fun B hB=>ao fun e=>by
    rcases i4 B hB with h | h
    ·exact (k2.bnd _ B m1 h).2.2 e
    ·omega
  ·rcases i4 B hB with h | h
   ·exact .inl h
   ·exact .inr (by omega)
  ·rw [ao hxn,i3 x (by omega) hxr,g5 x hx2 hxn]
  ·rw [ao (by omega),i3 y (by omega) (fun h=>by have:=k2.bnd _ y m1 h; omega),g5 y (by omega) (by omega)]; exact k3 y hy
 ·rw [if_neg hw] at hmf
  refine vn ev0 ((g3 nx (by omega)).trans k2.box) ev0 (pM w) hmf ?_
  have g5:∀ x,x < nx2→x ≠ nx→ag H3 nx [.omap (bE (bC w) none (ks.map bC)) (gw .esl none vs)] x=H2 x:=fun x hx hn=>by rw [ao hn,g3 x hx]
  have g6:ag H3 nx [.omap (bE (bC w) none (ks.map bC)) (gw .esl none vs)] nx=some [.omap (ks.map bC ++ [bC w]) (vs ++ [.esl])]:=aj
  have g7:ag H3 nx [.omap (bE (bC w) none (ks.map bC)) (gw .esl none vs)] (nx2 + 1)=some [.int .i64 i]:=by rw [ao (by omega)]; exact g4
  generalize ag H3 nx [.omap (bE (bC w) none (ks.map bC)) (gw .esl none vs)]=H4 at *
  rw [show qR .esl none vs=.esl from rfl,show pG none (ks.map bC)=ks.length from hkl]
  (have zz:=and_self; repeat' (first|apply a_n|refine zO ?_|refine vY ?_|fail)) <;> (try clear zz)
  refine gn (k:=1) (new:=[.int .i64 i]) (cs:=[]) rfl ev0 Row.nil ev0 (jo (n:=1) (len:=1) (off:=0) g7 rfl (by omega)) rfl rfl Nat.one_pos (by simp) (by simp) ?_
  rintro s2 H5 nx5 hr5 i1 i2 i3 i4
  have i4':∀ B,cp s2=some B→B=nx2 + 1 + 1∧nx5=nx2 + 1 + 1 + 1:=fun B hB=>(i4 B hB).elim (fun h=>by cases h) id
  (have zz:=and_self; repeat' (first|apply a_n|refine zO ?_|refine vY ?_|fail)) <;> (try clear zz)
  refine uo (i:=ks.length) ev0 ((i3 nx (by omega) (fun h=>by cases h)).trans g6) ev0 (by rw [List.length_append,hkl]; simp) ev0 ?_
  have hset:(vs ++ [AV.esl]).set ks.length s2=vs ++ [s2]:=by rw [← k2.len]; simp
  rw [hset]
  (have zz:=and_self; repeat' (first|apply a_n|refine zO ?_|refine vY ?_|fail)) <;> (try clear zz)
  refine ⟨(j + 1,ks ++ [w],vs ++ [s2]),by dsimp only; omega,⟨by dsimp only; omega,IncOk.new k2 hw hG ?_ (fun B hB=>?_) (by rw [List.map_append]; exact aj) (fun x hx hx2 hxn=>?_) (by omega) (by omega),fun y hy=>?_,by omega⟩,ag0⟩
  ·exact hr5.same fun B hB=>ao (by have:=i4' B hB; omega)
  ·have:=i4' B hB; omega
  ·rw [ao hxn,i3 x (by omega) (fun h=>by cases h),g5 x hx2 hxn]
  ·rw [ao (by omega),i3 y (by omega) (fun h=>by cases h),g5 y (by omega) (by omega)]; exact k3 y hy
end Go.Proofs.Ytpfkjcjgdilkkaa
namespace Go.Proofs.Ytpfkjcjgdilkkaa
open Go Go.Abs
def bd (l:List Spx) (s:Spx):Bool:=l.any fun t=>decide (s.length < t.length) && bR s t
def iE (c:List Spx) (k:Nat):Int:=if bu (c.getD k default) ≠ 0 then bu (c.getD k default) else if 0 < k∧0 ≤ bw (c.getD (k - 1) default) (c.getD k default) then 14 else 0
def aN (c:List Spx):Int:=if 4096 < c.length then 5 else if ca (iE c) c.length ≠ 0 then ca (iE c) c.length else if c.any (bd c)=true then 7 else 0
theorem da {a b:Spx}:bR a b=true ↔ ∀ v ∈ a,v ∈ b:=by
 unfold bR; rw [List.all_eq_true]
 exact ⟨fun h v hv=>of_decide_eq_true (h v hv),fun h v hv=>decide_eq_true (h v hv)⟩
theorem bm {l:List Spx} {s:Spx}:bd l s=true ↔ ∃ t ∈ l,s.length < t.length∧∀ v ∈ s,v ∈ t:=by
 unfold bd; rw [List.any_eq_true]
 constructor
 ·rintro ⟨t,ht,h⟩
  rw [Bool.and_eq_true,decide_eq_true_iff,da] at h
  exact ⟨t,ht,h⟩
 ·rintro ⟨t,ht,h⟩
  exact ⟨t,ht,by rw [Bool.and_eq_true,decide_eq_true_iff,da]; exact h⟩
theorem qQ {a b:Spx} (ha:bP be a) (hb:bP be b) (h:∀ v ∈ a,v ∈ b) (hne:a ≠ b):a.length < b.length:=by
 have h1:a.length ≤ b.length:=List.Nodup.length_le_of_subset (ha.nodup kc) h
 rcases Nat.lt_or_ge a.length b.length with h2 | h2
 ·exact h2
 ·exfalso
  refine hne (eT kc ha hb fun x=>⟨h x,fun hx=>Decidable.byContradiction fun hn=>?_⟩)
  have h3:(x :: a).length ≤ b.length:=List.Nodup.length_le_of_subset (List.nodup_cons.2 ⟨hn,ha.nodup kc⟩) fun y hy=>by
   rcases List.mem_cons.1 hy with rfl | hy
   ·exact hx
   ·exact h y hy
  rw [List.length_cons] at h3
  omega
theorem rJ {c:List Spx} (h:ca (iE c) c.length=0):(∀ s ∈ c,bu s=0)∧bP bw c:=by
 have hz:=fT h
 have h3:∀ k,k < c.length→bu (c.getD k default)=0∧(0 < k→bw (c.getD (k - 1) default) (c.getD k default) < 0):=fun k hk=>by
  have:=hz k hk
  unfold iE at this
  split at this
  ·exact absurd this ‹_›
  rename_i g1
  split at this
  ·exact absurd this (by decide)
  rename_i g2
  exact ⟨Decidable.of_not_not g1,fun h0=>by omega⟩
 constructor
 ·intro s hs
  obtain ⟨i,hi,rfl⟩:=List.getElem_of_mem hs
  have:=(h3 i hi).1
  rwa [show c.getD i default=c[i] by simp [List.getD,hi]] at this
 ·have step:∀ j i,i < j→j < c.length→bw (c.getD i default) (c.getD j default) < 0:=by
    intro j
    induction j with
    | zero=>intro i h; omega
    | succ j ih =>
     intro i hi hj
     have hs:=(h3 (j + 1) hj).2 (by omega)
     rw [Nat.add_sub_cancel] at hs
     by_cases e:i=j
     ·subst e; exact hs
     ·exact nj.trans (ih i (by omega) (by omega)) hs
  unfold bP
  rw [List.pairwise_iff_getElem]
  intro i j hi hj hij
  have:=step j i hij hj
  simpa [List.getD,hi,hj] using this
theorem a8 {c:List Spx} (h:aN c=0):c.length ≤ 4096∧(∀ s ∈ c,bu s=0)∧bP bw c∧∀ s ∈ c,bd c s=false:=by
 unfold aN at h
 split at h
 ·exact absurd h (by decide)
 split at h
 ·exact absurd h ‹_›
 split at h
 ·exact absurd h (by decide)
 rename_i h1 h2 h3
 have:=rJ (Decidable.of_not_not h2)
 refine ⟨by omega,this.1,this.2,fun s hs=>?_⟩
 cases hc:bd c s
 ·rfl
 ·exact absurd (List.any_eq_true.2 ⟨s,hs,hc⟩) h3
theorem gI {c:List Spx} (h1:c.length ≤ 4096) (h2:∀ s ∈ c,bu s=0) (h3:bP bw c) (h4:∀ s ∈ c,bd c s=false):aN c=0:=by
 have hz:ca (iE c) c.length=0:=cK fun k hk=>by
  unfold iE
  rw [h2 _ (aU hk),if_neg (by simp),if_neg]
  rintro ⟨h0,h5⟩
  have:=dU h3 (i:=k - 1) (j:=k) (by omega) hk
  omega
 unfold aN
 rw [if_neg (by omega),hz,if_neg (by simp),if_neg]
 rw [List.any_eq_true]
 rintro ⟨s,hs,h⟩
 rw [h4 s hs] at h; cases h
theorem ws {l:List Spx} {s:Spx} {p:Spx→Bool} (h0:0 < s.length) (hp:∀ t,p t=true→s.getD 0 default ∈ t):((fo l l.length (s.getD 0 default)).map fun (n:Nat)=>(n:Int)).any (fun i=>p (l.getD i.toNat default))=l.any p:=by
 rw [Bool.eq_iff_iff,List.any_eq_true,List.any_eq_true]
 constructor
 ·rintro ⟨x,hx,h⟩
  obtain ⟨n,hn,rfl⟩:=List.mem_map.1 hx
  unfold fo at hn
  obtain ⟨h1,_⟩:=List.mem_filter.1 hn
  rw [Int.toNat_natCast] at h
  exact ⟨_,aU (List.mem_range.1 h1),h⟩
 ·rintro ⟨t,ht,h⟩
  obtain ⟨i,hi,rfl⟩:=List.getElem_of_mem ht
  have e:l.getD i default=l[i]:=by simp [List.getD,hi]
  refine ⟨(i:Int),List.mem_map.2 ⟨i,List.mem_filter.2 ⟨List.mem_range.2 hi,decide_eq_true ?_⟩,rfl⟩,?_⟩
  ·rw [e]; exact hp _ h
  ·rw [Int.toNat_natCast,e]; exact h
attribute [local irreducible] aE ah aX aP aH aJ az aK aQ bf Go.Abs.Fn aM Go.Abs.Pure ap aD Yl
theorem tE (l:List Int) (p:Int→Bool) (g:Nat) (caps:List AV) (hd:∀ x ∈ caps,Dat x) (hg:∀ x ∈ l,Pure Try.prog g (.int .i64 x :: caps) (.bool (p x))) (hl:Shn l):Pure Try.prog 82 [dt l,.func g caps] (.int .i64 (if l.any p then (l.findIdx p:Nat) else -1)):=by
 refine Pure.of_c2 follows y4 (Nat.le_of_ble_eq_true rfl) ?_
 simp only [b82,cO,cG,cN,cM,cD,cF,cB,ay,aO]
 have hl':l.length ≤ 17592186044416:=hl
 (have zz:=and_self; repeat' (first|refine zW ?_|apply a_n|refine zO ?_|refine vZ ?_|fail)) <;> (try clear zz)
 refine aR (X:=Nat) (fun k=>[(0,dt l),(1,.func g caps),(6,dt l),(7,.int .i64 l.length),(8,.int .i64 k)]) (fun k H nx=>k ≤ l.length∧∀ i,i < k→p (l.getD i default)=false) (fun k=>l.length - k) 0 ⟨Nat.zero_le _,fun i h=>absurd h (by omega)⟩ ag0 ?_
 rintro k H nx ⟨hk,hz⟩
 by_cases hk2:k < l.length
 rotate_left
 ·rw [hY fun i hi=>hz i (by omega),if_neg (by decide)]
  (have zz:=and_self; repeat' (first|refine zW ?_|apply a_n|apply a_x|refine zO ?_|refine vY ?_|(refine zGY ?_ ?_ <;> (intro _hg; try (exfalso; omega)))|refine af rfl ?_|refine r1Y ?_|fail)) <;> (try clear zz)
  exact cz rfl
 have hc:=hg _ (aA hk2)
 cases hp:p (l.getD k default)
 ·rw [hp] at hc
  (have zz:=and_self; repeat' (first|refine zW ?_|apply a_n|refine zO ?_|refine vY ?_|(refine zGY ?_ ?_ <;> (intro _hg; try (exfalso; omega)))|fail)) <;> (try clear zz)
  refine dp ev0 ev0 hc (ac (ax (.int _ _) (ar hd))) ?_
  (have zz:=and_self; repeat' (first|apply a_n|refine zO ?_|refine vY ?_|refine cFY ?_|fail)) <;> (try clear zz)
  exact ⟨k + 1,by omega,⟨by omega,fun i hi=>by
   rcases Nat.lt_succ_iff_lt_or_eq.1 hi with h | rfl
   ·exact hz i h
   ·exact hp⟩,ag0⟩
 ·rw [hp] at hc
  obtain ⟨e1,e2⟩:=kg hk2 hz hp
  rw [e1,e2,if_pos rfl]
  (have zz:=and_self; repeat' (first|refine zW ?_|apply a_n|refine zO ?_|refine vY ?_|(refine zGY ?_ ?_ <;> (intro _hg; try (exfalso; omega)))|fail)) <;> (try clear zz)
  refine dp ev0 ev0 hc (ac (ax (.int _ _) (ar hd))) ?_
  (have zz:=and_self; repeat' (first|refine zW ?_|apply a_n|apply a_r|refine zO ?_|refine vY ?_|refine cTY ?_|refine af rfl ?_|refine r1Y ?_|fail)) <;> (try clear zz)
  exact .int _ _
theorem o6 (l:List Int) (p:Int→Bool) (g:Nat) (caps:List AV) (hd:∀ x ∈ caps,Dat x) (hg:∀ x ∈ l,Pure Try.prog g (.int .i64 x :: caps) (.bool (p x))) (hl:Shn l):Pure Try.prog 64 [dt l,.func g caps] (.bool (l.any p)):=by
 refine Pure.of_c2 follows yd (Nat.le_of_ble_eq_true rfl) ?_
 simp only [b64,cO,cG,cN,cM,cD,cF,cB,ay,aO]
 have h:=tE l p g caps hd hg hl
 (have zz:=and_self; repeat' (first|refine zW ?_|apply a_n|refine zO ?_|refine vZ ?_|refine cZ ?_ (hp:=h) (hs:=by (first | refine aa ?_ rfl | apply ac); (repeat' (first | exact ab | apply ak | apply ae | exact gK _ | exact Dat.func hd)); first | done | fail)|refine af rfl ?_|refine r1Z ?_|fail)) <;> (try clear zz)
 cases hA:l.any p
 ·exact bF (by simp)
 ·exact bF (by simp)
def OkS (l:List Spx):Prop:=l.length ≤ 100000∧∀ s ∈ l,bP be s∧s.length ≤ 1000
theorem rp (l:List Spx) (s:Spx) (i:Nat) (hl:OkS l) (hs:bP be s∧s.length ≤ 1000) (hi:i < l.length):Pure Try.prog 65 [.int .i64 i,.iptr [av l] 0,.iptr [aq s] 0] (.bool (decide (s.length < (l.getD i default).length) && bR s (l.getD i default))):=by
 refine Pure.of_c2 follows yt (Nat.le_of_ble_eq_true rfl) ?_
 simp only [b65,cO,cG,cN,cM,cD,cF,cB,ay,aO]
 have ix:=dZ hi
 obtain ⟨t1,t2⟩:=hl.2 _ (aU hi)
 have hf:=vu s (l.getD i default) hs.1 t1 (by omega) (by omega)
 generalize l.getD i default=t at *
 by_cases h:s.length < t.length
 ·have z:decide ((s.length:Int) < t.length)=true:=decide_eq_true (by omega)
  rw [decide_eq_true h,Bool.true_and]
  (have zz:=aI @an (aI @ix @z); repeat' (first|refine zW ?_|refine zM ?_|apply a_n|refine zO ?_|refine vZ ?_|refine cZ ?_ (hp:=hf) (hs:=by (first | refine aa ?_ rfl | apply ac); (repeat' (first | exact ab | apply ak | apply ae | exact aB _)); first | done | fail)|refine gTZ ?_|refine af rfl ?_|refine r1Z ?_|fail)) <;> (try clear zz)
  exact .bool _
 ·have z:decide ((s.length:Int) < t.length)=false:=decide_eq_false (by omega)
  rw [decide_eq_false h,Bool.false_and]
  (have zz:=aI @an (aI @ix @z); repeat' (first|refine zW ?_|refine zM ?_|apply a_n|refine zO ?_|refine vZ ?_|refine gFZ ?_|refine af rfl ?_|refine r1Z ?_|fail)) <;> (try clear zz)
  exact .bool _
theorem nD (l:List Spx) (s:Spx) (hl:OkS l) (hs:bP be s∧s.length ≤ 1000) (h0:0 < s.length):Pure Try.prog 44 [av l,dt ((fo l l.length (s.getD 0 default)).map fun (n:Nat)=>(n:Int)),aq s] (.bool (bd l s)):=by
 refine Pure.of_c2 follows yr (Nat.le_of_ble_eq_true rfl) ?_
 simp only [b44,cO,cG,cN,cM,cD,cF,cB,ay,aO]
 have hll:=hl.1
 have h:=o6 ((fo l l.length (s.getD 0 default)).map fun (n:Nat)=>(n:Int)) (fun i=>decide (s.length < (l.getD i.toNat default).length) && bR s (l.getD i.toNat default)) 65 [.iptr [av l] 0,.iptr [aq s] 0] (DatL.cons (Dat.iptr (DatL.cons (bl _) DatL.nil)) (DatL.cons (Dat.iptr (DatL.cons (aB _) DatL.nil)) DatL.nil)) (fun x hx=>by
  obtain ⟨n,hn,rfl⟩:=List.mem_map.1 hx
  have hn2:n < l.length:=List.mem_range.1 (List.mem_filter.1 hn).1
  rw [Int.toNat_natCast]
  exact rp l s n hl hs hn2) (by rw [Shn,List.length_map]; have:=pe (l:=l) (i:=l.length) (v:=s.getD 0 default); omega)
 rw [ws (p:=fun t=>decide (s.length < t.length) && bR s t) h0 (fun t ht=>by
  rw [Bool.and_eq_true,da] at ht
  exact ht.2 _ (aU h0))] at h
 (have zz:=aI @aC (aI @au (aI @bx @bk)); repeat' (first|refine zW ?_|apply a_n|refine zO ?_|refine vZ ?_|refine bxZ ?_|fail)) <;> (try clear zz)
 refine dp (have zz:=aI @aC (aI @au (aI @bx @bk)); evZ) (have zz:=aI @aC (aI @au (aI @bx @bk)); evZ) h (aa (ax (gK _ _) (ax (tB (ax (gA rfl rfl (ax (bl _ _) ab)) (ax (gA rfl rfl (ax (aB _ _) ab)) ab))) ab)) rfl) ?_
 (have zz:=and_self; repeat' (first|apply a_n|refine zO ?_|refine vZ ?_|refine af rfl ?_|refine r1Z ?_|fail)) <;> (try clear zz)
 exact .bool _
end Go.Proofs.Ytpfkjcjgdilkkaa
namespace Go.Proofs.Ytpfkjcjgdilkkaa
open Go Go.Abs
theorem qa {H:Hp} {sv:AV} {F:List Nat} (h:Row H 1 sv (F.map sZ)):Snap H sv (dt (F.map fun (n:Nat)=>(n:Int))):=by
 refine Row.snapI ?_
 rw [List.map_map]; exact h
theorem mL {c:List Spx} {k:Nat}:iE c k=if bu (c.getD k default) ≠ 0 then bu (c.getD k default) else if 0 < k∧0 ≤ bw (c.getD (k - 1) default) (c.getD k default) then 14 else 0:=rfl
theorem u0 {c:List Spx} (h1:c.length ≤ 4096) (h:∀ s ∈ c,bu s=0):OkS c:=⟨by omega,fun s hs=>by
 obtain ⟨a1,a2,a3,a4⟩:=bz (h s hs)
 exact ⟨a3,by omega⟩⟩
theorem ph {H:Hp} {b:Nat} {cs:List AV} (h:H b=some cs):Sub (only b cs) H:=fun x c hx=>by
 unfold only at hx
 split at hx
 ·rename_i e; rw [e,h]; exact hx
 ·cases hx
def on2 (b1:Nat) (c1:List AV) (b2:Nat) (c2:List AV):Hp:=fun x=>if x=b1 then some c1 else if x=b2 then some c2 else none
theorem yz {b1 b2:Nat} {c1 c2:List AV}:on2 b1 c1 b2 c2 b1=some c1:=if_pos rfl
theorem yF {b1 b2:Nat} {c1 c2:List AV} (h:b2 ≠ b1):on2 b1 c1 b2 c2 b2=some c2:=by unfold on2; rw [if_neg h,if_pos rfl]
theorem rU {b1 b2:Nat} {c1 c2:List AV} {H:Hp} (h1:H b1=some c1) (h2:H b2=some c2):Sub (on2 b1 c1 b2 c2) H:=fun x cs h=>by
 unfold on2 at h
 split at h
 ·rename_i e; rw [e,h1]; exact h
 ·split at h
  ·rename_i e; rw [e,h2]; exact h
  ·cases h
theorem oh {P:Program} {T:Tm} {H:Hp} {nx:Nat} (b1 b2:Nat) {c1 c2:List AV} {K:CP} {m:Nat} {l:List Op2} {C:List (Nat × Nat)} (h1:H b1=some c1) (h2:H b2=some c2) (hne:b2 ≠ b1) (k:∀ S:Hp,S b1=some c1→S b2=some c2→(∀ H':Hp,H' b1=some c1→H' b2=some c2→Sub S H')→ba P S (C.map fun k=>(l.getD k.1 ⟨none,none,.dead⟩,k.2)) T H nx fun T H nx=>K .normal T H nx):aE P (.mixS m l C) T H nx K :=
 uH (on2 b1 c1 b2 c2) rfl (rU h1 h2) (k _ yz (yF hne) fun _ a b=>rU a b)
theorem oG {P:Program} {T:Tm} {H:Hp} {nx:Nat} (b:Nat) {c:List AV} {K:CP} {m:Nat} {l:List Op2} {C:List (Nat × Nat)} (h:H b=some c) (k:∀ S:Hp,S b=some c→(∀ H':Hp,H' b=some c→Sub S H')→ba P S (C.map fun k=>(l.getD k.1 ⟨none,none,.dead⟩,k.2)) T H nx fun T H nx=>K .normal T H nx):aE P (.mixS m l C) T H nx K :=
 uH (only b c) rfl (ph h) (k _ fk fun _ h=>ph h)
attribute [local irreducible] aE ah aX aP aH aJ az aK aQ bf Go.Abs.Fn aM Go.Abs.Pure ap aD Yl
set_option maxHeartbeats 2000000 in
theorem mJ (c:List Spx) (hc:Shn c) (hs:∀ s ∈ c,Shn s):Pure Try.prog 30 [bH c] (.int .i64 (aN c)):=by
 refine Pure.of_c2 follows y1 (Nat.le_of_ble_eq_true rfl) ?_
 simp only [b30,cO,cG,cN,cM,cD,cF,cB,ay,aO]
 have hc':c.length ≤ 17592186044416:=hc
 by_cases h0:4096 < c.length
 ·rw [show aN c=5 by unfold aN; rw [if_pos h0]]
  (have zz:=aI @ai (aI @aC @au); repeat' (first|refine zW ?_|apply a_n|apply a_r|refine zO ?_|refine vZ ?_|refine bxZ ?_|(refine zGZ ?_ ?_ <;> (intro _hg; try (exfalso; omega)))|refine af rfl ?_|refine r1Z ?_|fail)) <;> (try clear zz)
  all_goals exact cz rfl
 rw [show aN c=if ca (iE c) c.length ≠ 0 then ca (iE c) c.length else if c.any (bd c)=true then 7 else 0 by unfold aN; rw [if_neg h0]]
 refine cJ ?_
 (have zz:=aI @ai (aI @aC @au); repeat' (first|apply a_n|refine zO ?_|refine vZ ?_|refine bxZ ?_|fail)) <;> (try clear zz)
 refine cJ (cJ ?_)
 (have zz:=aI @ai (aI @aC @au); repeat' (first|apply a_n|refine zO ?_|refine vZ ?_|(refine zGZ ?_ ?_ <;> (intro _hg; try (exfalso; omega)))|fail)) <;> (try clear zz)
 by_cases hz:ca (iE c) c.length ≠ 0
 ·rw [if_pos hz]
  (have zz:=aI @ai (aI @aC @au); repeat' (first|refine zW ?_|apply a_n|refine zO ?_|refine vZ ?_|fail)) <;> (try clear zz)
  refine aR (X:=Nat) (fun k=>[(1,.ptr 0 1 0),(14,av c),(15,.int .i64 c.length),(16,.int .i64 k)]) (fun k H nx=>k ≤ c.length∧H 0=some [av c]∧∀ i,i < k→iE c i=0) (fun k=>c.length - k) 0 ⟨Nat.zero_le _,rfl,fun i h=>absurd h (by omega)⟩ (by (iterate 4 refine And.intro rfl ?_); trivial) ?_
  rintro k H nx ⟨h1,g0,h2⟩
  by_cases hk:k < c.length
  rotate_left
  ·exact absurd (cK fun i hi=>h2 i (by omega)) hz
  have ix:=dZ hk
  have hs1:=hs _ (aU hk)
  have hp:=mM (c.getD k default) hs1
  have hsp:=mL (c:=c) (k:=k)
  by_cases he:bu (c.getD k default) ≠ 0
  ·rw [if_pos he] at hsp
   rw [cL hk h2 (by rw [hsp]; exact he),hsp]
   have z:decide (bu (c.getD k default) ≠ 0)=true:=decide_eq_true he
   (have zz:=aI @ai (aI @ix @z); repeat' (first|refine zW ?_|apply a_n|apply a_r|refine zO ?_|refine vY ?_|refine cY ?_ (hp:=hp) (hs:=by (first | refine aa ?_ rfl | apply ac); (repeat' (first | exact ab | apply ak | apply ae | exact aB _)); first | done | fail)|refine cTY ?_|(refine zGY ?_ ?_ <;> (intro _hg; try (exfalso; omega)))|refine af rfl ?_|refine r1Y ?_|fail)) <;> (try clear zz)
   exact .int _ _
  rw [if_neg he] at hsp
  have he:=Decidable.of_not_not he
  rw [he] at hp
  have z:decide ((0:Int) ≠ 0)=false:=rfl
  by_cases hk0:0 < k
  rotate_left
  ·rw [if_neg (fun h=>hk0 h.1)] at hsp
   have zk:decide (0 < (k:Int))=false:=decide_eq_false (by omega)
   (have zz:=aI @ai (aI @ix (aI @z @zk)); repeat' (first|refine zW ?_|apply a_n|refine zO ?_|refine vY ?_|refine cY ?_ (hp:=hp) (hs:=by (first | refine aa ?_ rfl | apply ac); (repeat' (first | exact ab | apply ak | apply ae | exact aB _)); first | done | fail)|refine gFY ?_|refine cFY ?_|(refine zGY ?_ ?_ <;> (intro _hg; try (exfalso; omega)))|fail)) <;> (try clear zz)
   exact ⟨k + 1,by omega,⟨by omega,g0,fun i hi=>by
    rcases Nat.lt_succ_iff_lt_or_eq.1 hi with h' | rfl
    ·exact h2 i h'
    ·exact hsp⟩,ag0⟩
  have zk:decide (0 < (k:Int))=true:=decide_eq_true (by omega)
  have iy:eh 1 (av c) (.int .i64 ((k:Int) - 1))=some (.iptr [aq (c.getD (k - 1) default)] 0):=by
   have:=dZ (l:=c) (k:=k - 1) (by omega)
   rwa [show ((k - 1:Nat):Int)=(k:Int) - 1 by omega] at this
  have hcm:=gZ (c.getD (k - 1) default) (c.getD k default) (hs _ (aU (by omega))) hs1
  by_cases hv:0 ≤ bw (c.getD (k - 1) default) (c.getD k default)
  ·have z2:decide (0 ≤ bw (c.getD (k - 1) default) (c.getD k default))=true:=decide_eq_true hv
   rw [if_pos ⟨hk0,hv⟩] at hsp
   rw [cL hk h2 (by rw [hsp]; decide),hsp]
   (have zz:=aI @ai (aI @ix (aI @iy (aI @z (aI @zk (aI @z2 @g0))))); repeat' (first|refine zW ?_|apply a_n|apply a_r|refine zO ?_|refine vY ?_|refine cY ?_ (hp:=by first | exact hp | exact hcm) (hs:=by (first | refine aa ?_ rfl | apply ac); (repeat' (first | exact ab | apply ak | apply ae | exact aB _)); first | done | fail)|refine gTY ?_|refine cTY ?_|refine cFY ?_|(refine zGY ?_ ?_ <;> (intro _hg; try (exfalso; omega)))|refine af rfl ?_|refine r1Y ?_|fail)) <;> (try clear zz)
   exact .int _ _
  ·have z2:decide (0 ≤ bw (c.getD (k - 1) default) (c.getD k default))=false:=decide_eq_false hv
   rw [if_neg (fun h=>hv h.2)] at hsp
   (have zz:=aI @ai (aI @ix (aI @iy (aI @z (aI @zk (aI @z2 @g0))))); repeat' (first|refine zW ?_|apply a_n|refine zO ?_|refine vY ?_|refine cY ?_ (hp:=by first | exact hp | exact hcm) (hs:=by (first | refine aa ?_ rfl | apply ac); (repeat' (first | exact ab | apply ak | apply ae | exact aB _)); first | done | fail)|refine gTY ?_|refine cFY ?_|(refine zGY ?_ ?_ <;> (intro _hg; try (exfalso; omega)))|fail)) <;> (try clear zz)
   exact ⟨k + 1,by omega,⟨by omega,g0,fun i hi=>by
    rcases Nat.lt_succ_iff_lt_or_eq.1 hi with h' | rfl
    ·exact h2 i h'
    ·exact hsp⟩,ag0⟩
 have hz:=Decidable.of_not_not hz
 rw [if_neg (fun h=>h hz)]
 obtain ⟨a1,a2⟩:=rJ hz
 have hall:=fT hz
 have hok:=u0 (by omega) a1
 refine aW (fun T H nx=>T 1=.ptr 0 1 0∧H 0=some [av c]∧1 ≤ nx) ?_ ?_
 ·(have zz:=aI @ai (aI @aC @au); repeat' (first|refine zW ?_|apply a_n|refine zO ?_|refine vZ ?_|fail)) <;> (try clear zz)
  refine aR (X:=Nat) (fun k=>[(1,.ptr 0 1 0),(14,av c),(15,.int .i64 c.length),(16,.int .i64 k)]) (fun k H nx=>k ≤ c.length∧H 0=some [av c]∧1 ≤ nx) (fun k=>c.length - k) 0 ⟨Nat.zero_le _,rfl,by omega⟩ (by (iterate 4 refine And.intro rfl ?_); trivial) ?_
  rintro k H nx ⟨h1,g0,hnx⟩
  by_cases hk:k < c.length
  rotate_left
  ·(have zz:=and_self; repeat' (first|refine zW ?_|apply a_n|apply a_x|refine zO ?_|refine vY ?_|(refine zGY ?_ ?_ <;> (intro _hg; try (exfalso; omega)))|fail)) <;> (try clear zz)
   exact ⟨rfl,g0,hnx⟩
  have ix:=dZ hk
  have hs1:=hs _ (aU hk)
  have hp:=mM (c.getD k default) hs1
  rw [a1 _ (aU hk)] at hp
  have z:decide ((0:Int) ≠ 0)=false:=rfl
  by_cases hk0:0 < k
  rotate_left
  ·have zk:decide (0 < (k:Int))=false:=decide_eq_false (by omega)
   (have zz:=aI @ai (aI @ix (aI @z @zk)); repeat' (first|refine zW ?_|apply a_n|refine zO ?_|refine vY ?_|refine cY ?_ (hp:=hp) (hs:=by (first | refine aa ?_ rfl | apply ac); (repeat' (first | exact ab | apply ak | apply ae | exact aB _)); first | done | fail)|refine gFY ?_|refine cFY ?_|(refine zGY ?_ ?_ <;> (intro _hg; try (exfalso; omega)))|fail)) <;> (try clear zz)
   exact ⟨k + 1,by omega,⟨by omega,g0,hnx⟩,ag0⟩
  have zk:decide (0 < (k:Int))=true:=decide_eq_true (by omega)
  have iy:eh 1 (av c) (.int .i64 ((k:Int) - 1))=some (.iptr [aq (c.getD (k - 1) default)] 0):=by
   have:=dZ (l:=c) (k:=k - 1) (by omega)
   rwa [show ((k - 1:Nat):Int)=(k:Int) - 1 by omega] at this
  have hcm:=gZ (c.getD (k - 1) default) (c.getD k default) (hs _ (aU (by omega))) hs1
  have z2:decide (0 ≤ bw (c.getD (k - 1) default) (c.getD k default))=false:=decide_eq_false (by have:=dU a2 (i:=k - 1) (j:=k) (by omega) hk; omega)
  (have zz:=aI @ai (aI @ix (aI @iy (aI @z (aI @zk (aI @z2 @g0))))); repeat' (first|refine zW ?_|apply a_n|refine zO ?_|refine vY ?_|refine cY ?_ (hp:=by first | exact hp | exact hcm) (hs:=by (first | refine aa ?_ rfl | apply ac); (repeat' (first | exact ab | apply ak | apply ae | exact aB _)); first | done | fail)|refine gTY ?_|refine cFY ?_|(refine zGY ?_ ?_ <;> (intro _hg; try (exfalso; omega)))|fail)) <;> (try clear zz)
  exact ⟨k + 1,by omega,⟨by omega,g0,hnx⟩,ag0⟩
 rintro T H nx ⟨t1,g0,hnx⟩
 (have zz:=aI @t1 @g0; repeat' (first|refine zW ?_|apply a_n|refine zO ?_|refine vY ?_|fail)) <;> (try clear zz)
 refine aw ev0 (have zz:=@t1; evZ) (gN c hok.1 (fun s hs=>⟨(hok.2 s hs).1,by have:=(hok.2 s hs).2; omega⟩) _ _) ?_
 rintro _ H1 nx1 ⟨ks,vs,rfl,hinc,hsame,hlt⟩
 have g0':H1 0=some [av c]:=(hsame 0 (by omega)).trans g0
 (have zz:=aI @t1 (aI @g0' @ai); repeat' (first|refine zW ?_|apply a_n|refine zO ?_|refine vY ?_|fail)) <;> (try clear zz)
 refine aR (X:=Nat) (fun k=>[(1,.ptr 0 1 0),(6,.mp nx),(44,av c),(45,.int .i64 c.length),(46,.int .i64 k)]) (fun k H' nx'=>k ≤ c.length∧H'=H1∧nx'=nx1∧∀ i,i < k→bd c (c.getD i default)=false) (fun k=>c.length - k) 0 ⟨Nat.zero_le _,rfl,rfl,fun i h=>absurd h (by omega)⟩ (have zz:=@t1; agZ) ?_
 rintro k H' nx' ⟨h1,rfl,rfl,h2⟩
 by_cases hk:k < c.length
 rotate_left
 ·rw [hY fun i hi=>h2 i (by omega),if_neg (by decide)]
  (have zz:=and_self; repeat' (first|refine zW ?_|apply a_n|apply a_x|refine zO ?_|refine vY ?_|(refine zGY ?_ ?_ <;> (intro _hg; try (exfalso; omega)))|refine af rfl ?_|refine r1Y ?_|fail)) <;> (try clear zz)
  exact .int _ _
 have ix:=dZ hk
 obtain ⟨p1,p2,p3,p4⟩:=bz (a1 _ (aU hk))
 have hcv:=nD c (c.getD k default) hok (hok.2 _ (aU hk)) (by omega)
 have iy:=ix2 (l:=c.getD k default) (k:=0) (by omega)
 rw [show ((0:Nat):Int)=0 from rfl] at iy
 have hks:(c.getD k default).getD 0 default ∈ ks:=(hinc.dom _).2 fun e=>by
  have:k ∈ fo c c.length ((c.getD k default).getD 0 default):=List.mem_filter.2 ⟨List.mem_range.2 hk,decide_eq_true (aU (by omega))⟩
  rw [e] at this; cases this
 have hmf:=n8 ((c.getD k default).getD 0 default) ks
 rw [if_pos hks] at hmf
 obtain ⟨m1,m2⟩:=lf hks
 have hr:=hinc.row _ m1
 rw [m2] at hr
 have hcb:bd c (c.getD k default)=true→c.any (bd c)=true:=fun h=>List.any_eq_true.2 ⟨_,aU hk,h⟩
 generalize hsk:c.getD k default=s at *
 (have zz:=@ix; repeat' (first|refine zW ?_|apply a_n|refine zO ?_|refine vY ?_|(refine zGY ?_ ?_ <;> (intro _hg; try (exfalso; omega)))|fail)) <;> (try clear zz)
 refine oG 0 g0' fun S hS0 hsub'=>?_
 have hsub:=hsub' H' g0'
 (have zz:=aI @hS0 @iy; repeat' (first|apply a_n|refine zO ?_|refine nvY ?_|fail)) <;> (try clear zz)
 refine lZ ?_
 refine qZ ev0 hinc.box ev0 (pM _) hmf ?_
 refine qc ⟨hsub,?_⟩
 rw [show mget .esl false (some (ks.idxOf (s.getD 0 default))) vs=vs.getD (ks.idxOf (s.getD 0 default)) .undef from rfl]
 refine ig ?_
 cases hb:bd c s
 ·rw [hb] at hcv
  refine dp ev0 ev0 hcv (aa (ax (bl _ _) (ax (qa hr) (ax (aB _ _) ab))) rfl) ?_
  (have zz:=and_self; repeat' (first|apply a_n|refine zO ?_|refine vY ?_|refine cFY ?_|fail)) <;> (try clear zz)
  exact ⟨k + 1,by omega,⟨by omega,rfl,rfl,fun i hi=>by
   rcases Nat.lt_succ_iff_lt_or_eq.1 hi with h' | rfl
   ·exact h2 i h'
   ·rw [hsk]; exact hb⟩,ag0⟩
 ·rw [hb] at hcv
  rw [hcb hb,if_pos rfl]
  refine dp ev0 ev0 hcv (aa (ax (bl _ _) (ax (qa hr) (ax (aB _ _) ab))) rfl) ?_
  (have zz:=and_self; repeat' (first|refine zW ?_|apply a_n|apply a_r|refine zO ?_|refine vY ?_|refine cTY ?_|refine af rfl ?_|refine r1Y ?_|fail)) <;> (try clear zz)
  exact .int _ _
end Go.Proofs.Ytpfkjcjgdilkkaa
namespace Go.Proofs.Ytpfkjcjgdilkkaa
open Go Go.Abs
theorem tW {c:List Spx} (h1:∀ s ∈ c,bP be s) (h2:bP bw c) {i k:Nat} (hi:i < c.length) (hk:k < c.length) (hik:i ≠ k) (h:bR (c.getD i default) (c.getD k default)=true):bd c (c.getD i default)=true:=by
 refine bm.2 ⟨_,aU hk,qQ (h1 _ (aU hi)) (h1 _ (aU hk)) (da.1 h) fun e=>?_,da.1 h⟩
 rcases Nat.lt_trichotomy i k with q | q | q
 ·have:=dU h2 q hk; rw [e] at this; exact nj.ord.irr _ this
 ·exact hik q
 ·have:=dU h2 q hi; rw [e] at this; exact nj.ord.irr _ this
theorem ve {c:List Spx} {i:Nat} (h:bd c (c.getD i default)=true):∃ k,k < c.length∧i ≠ k∧bR (c.getD i default) (c.getD k default)=true:=by
 obtain ⟨t,ht,h1,h2⟩:=bm.1 h
 obtain ⟨k,hk,rfl⟩:=List.getElem_of_mem ht
 have e:c.getD k default=c[k]:=by simp [List.getD,hk]
 refine ⟨k,hk,fun hik=>?_,by rw [e]; exact da.2 h2⟩
 subst hik
 rw [e] at h1; omega
attribute [local irreducible] aE ah aX aP aH aJ az aK aQ bf Go.Abs.Fn aM Go.Abs.Pure ap aD Yl
set_option maxHeartbeats 2000000 in
theorem we (c:List Spx) (hc:Shn c) (hs:∀ s ∈ c,Shn s):Pure Try.prog 15 [bH c] (.int .i64 (aN c)):=by
 refine Pure.of_c2 follows z7 (Nat.le_of_ble_eq_true rfl) ?_
 simp only [b15,cO,cG,cN,cM,cD,cF,cB,ay,aO]
 have hc':c.length ≤ 17592186044416:=hc
 by_cases h0:4096 < c.length
 ·rw [show aN c=5 by unfold aN; rw [if_pos h0]]
  (have zz:=aI @ai (aI @aC @au); repeat' (first|refine zW ?_|apply a_n|apply a_r|refine zO ?_|refine vZ ?_|refine bxZ ?_|(refine zGZ ?_ ?_ <;> (intro _hg; try (exfalso; omega)))|refine af rfl ?_|refine r1Z ?_|fail)) <;> (try clear zz)
  all_goals exact cz rfl
 rw [show aN c=if ca (iE c) c.length ≠ 0 then ca (iE c) c.length else if c.any (bd c)=true then 7 else 0 by unfold aN; rw [if_neg h0]]
 refine cJ ?_
 (have zz:=aI @ai (aI @aC @au); repeat' (first|apply a_n|refine zO ?_|refine vZ ?_|refine bxZ ?_|fail)) <;> (try clear zz)
 refine cJ ?_
 (have zz:=aI @ai (aI @aC @au); repeat' (first|apply a_n|refine zO ?_|refine vZ ?_|fail)) <;> (try clear zz)
 refine cJ (cJ ?_)
 (have zz:=aI @ai (aI @aC @au); repeat' (first|apply a_n|refine zO ?_|refine vZ ?_|(refine zGZ ?_ ?_ <;> (intro _hg; try (exfalso; omega)))|fail)) <;> (try clear zz)
 by_cases hz:ca (iE c) c.length ≠ 0
 ·rw [if_pos hz]
  (have zz:=aI @ai (aI @aC @au); repeat' (first|refine zW ?_|apply a_n|refine zO ?_|refine vZ ?_|fail)) <;> (try clear zz)
  refine aR (X:=Nat) (fun k=>[(3,av c),(4,.int .i64 k)]) (fun k H nx=>k ≤ c.length∧∀ i,i < k→iE c i=0) (fun k=>c.length - k) 0 ⟨Nat.zero_le _,fun i h=>absurd h (by omega)⟩ ag0 ?_
  rintro k H nx ⟨h1,h2⟩
  by_cases hk:k < c.length
  rotate_left
  ·exact absurd (cK fun i hi=>h2 i (by omega)) hz
  have ix:=dZ hk
  have hs1:=hs _ (aU hk)
  have hp:=rQ (c.getD k default) hs1
  have hsp:=mL (c:=c) (k:=k)
  by_cases he:bu (c.getD k default) ≠ 0
  ·rw [if_pos he] at hsp
   rw [cL hk h2 (by rw [hsp]; exact he),hsp]
   have z:decide (bu (c.getD k default) ≠ 0)=true:=decide_eq_true he
   (have zz:=aI @ai (aI @ix @z); repeat' (first|refine zW ?_|apply a_n|apply a_r|refine zO ?_|refine vY ?_|refine cY ?_ (hp:=hp) (hs:=by (first | refine aa ?_ rfl | apply ac); (repeat' (first | exact ab | apply ak | apply ae | exact aB _)); first | done | fail)|refine cTY ?_|(refine zGY ?_ ?_ <;> (intro _hg; try (exfalso; omega)))|refine af rfl ?_|refine r1Y ?_|fail)) <;> (try clear zz)
   exact .int _ _
  rw [if_neg he] at hsp
  have he:=Decidable.of_not_not he
  rw [he] at hp
  have z:decide ((0:Int) ≠ 0)=false:=rfl
  by_cases hk0:0 < k
  rotate_left
  ·rw [if_neg (fun h=>hk0 h.1)] at hsp
   have zk:decide (0 < (k:Int))=false:=decide_eq_false (by omega)
   (have zz:=aI @ai (aI @ix (aI @z @zk)); repeat' (first|refine zW ?_|refine zM ?_|apply a_n|refine zO ?_|refine vY ?_|refine cY ?_ (hp:=hp) (hs:=by (first | refine aa ?_ rfl | apply ac); (repeat' (first | exact ab | apply ak | apply ae | exact aB _)); first | done | fail)|refine gFY ?_|refine cFY ?_|(refine zGY ?_ ?_ <;> (intro _hg; try (exfalso; omega)))|fail)) <;> (try clear zz)
   exact ⟨k + 1,by omega,⟨by omega,fun i hi=>by
    rcases Nat.lt_succ_iff_lt_or_eq.1 hi with h' | rfl
    ·exact h2 i h'
    ·exact hsp⟩,ag0⟩
  have zk:decide (0 < (k:Int))=true:=decide_eq_true (by omega)
  have iy:eh 1 (av c) (.int .i64 ((k:Int) - 1))=some (.iptr [aq (c.getD (k - 1) default)] 0):=by
   have:=dZ (l:=c) (k:=k - 1) (by omega)
   rwa [show ((k - 1:Nat):Int)=(k:Int) - 1 by omega] at this
  have hcm:=iO (c.getD (k - 1) default) (c.getD k default) (hs _ (aU (by omega))) hs1
  by_cases hv:0 ≤ bw (c.getD (k - 1) default) (c.getD k default)
  ·have z2:decide (0 ≤ bw (c.getD (k - 1) default) (c.getD k default))=true:=decide_eq_true hv
   rw [if_pos ⟨hk0,hv⟩] at hsp
   rw [cL hk h2 (by rw [hsp]; decide),hsp]
   (have zz:=aI @ai (aI @ix (aI @iy (aI @z (aI @zk @z2)))); repeat' (first|refine zW ?_|refine zM ?_|apply a_n|apply a_r|refine zO ?_|refine vY ?_|refine cY ?_ (hp:=by first | exact hp | exact hcm) (hs:=by (first | refine aa ?_ rfl | apply ac); (repeat' (first | exact ab | apply ak | apply ae | exact aB _)); first | done | fail)|refine gTY ?_|refine cTY ?_|refine cFY ?_|(refine zGY ?_ ?_ <;> (intro _hg; try (exfalso; omega)))|refine af rfl ?_|refine r1Y ?_|fail)) <;> (try clear zz)
   exact .int _ _
  ·have z2:decide (0 ≤ bw (c.getD (k - 1) default) (c.getD k default))=false:=decide_eq_false hv
   rw [if_neg (fun h=>hv h.2)] at hsp
   (have zz:=aI @ai (aI @ix (aI @iy (aI @z (aI @zk @z2)))); repeat' (first|refine zW ?_|refine zM ?_|apply a_n|refine zO ?_|refine vY ?_|refine cY ?_ (hp:=by first | exact hp | exact hcm) (hs:=by (first | refine aa ?_ rfl | apply ac); (repeat' (first | exact ab | apply ak | apply ae | exact aB _)); first | done | fail)|refine gTY ?_|refine cFY ?_|(refine zGY ?_ ?_ <;> (intro _hg; try (exfalso; omega)))|fail)) <;> (try clear zz)
   exact ⟨k + 1,by omega,⟨by omega,fun i hi=>by
    rcases Nat.lt_succ_iff_lt_or_eq.1 hi with h' | rfl
    ·exact h2 i h'
    ·exact hsp⟩,ag0⟩
 have hz:=Decidable.of_not_not hz
 rw [if_neg (fun h=>h hz)]
 obtain ⟨a1,a2⟩:=rJ hz
 have hok:=u0 (by omega) a1
 refine aW (fun T H nx=>T 3=av c) ?_ ?_
 ·(have zz:=aI @ai (aI @aC @au); repeat' (first|refine zW ?_|apply a_n|refine zO ?_|refine vZ ?_|fail)) <;> (try clear zz)
  refine aR (X:=Nat) (fun k=>[(3,av c),(4,.int .i64 k)]) (fun k H nx=>k ≤ c.length) (fun k=>c.length - k) 0 (Nat.zero_le _) ag0 ?_
  rintro k H nx h1
  by_cases hk:k < c.length
  rotate_left
  ·(have zz:=@ai; repeat' (first|refine zW ?_|apply a_n|apply a_x|refine zO ?_|refine vY ?_|(refine zGY ?_ ?_ <;> (intro _hg; try (exfalso; omega)))|fail)) <;> (try clear zz)
   exact rfl
  have ix:=dZ hk
  have hs1:=hs _ (aU hk)
  have hp:=rQ (c.getD k default) hs1
  rw [a1 _ (aU hk)] at hp
  have z:decide ((0:Int) ≠ 0)=false:=rfl
  by_cases hk0:0 < k
  rotate_left
  ·have zk:decide (0 < (k:Int))=false:=decide_eq_false (by omega)
   (have zz:=aI @ai (aI @ix (aI @z @zk)); repeat' (first|refine zW ?_|refine zM ?_|apply a_n|refine zO ?_|refine vY ?_|refine cY ?_ (hp:=hp) (hs:=by (first | refine aa ?_ rfl | apply ac); (repeat' (first | exact ab | apply ak | apply ae | exact aB _)); first | done | fail)|refine gFY ?_|refine cFY ?_|(refine zGY ?_ ?_ <;> (intro _hg; try (exfalso; omega)))|fail)) <;> (try clear zz)
   exact ⟨k + 1,by omega,by omega,ag0⟩
  have zk:decide (0 < (k:Int))=true:=decide_eq_true (by omega)
  have iy:eh 1 (av c) (.int .i64 ((k:Int) - 1))=some (.iptr [aq (c.getD (k - 1) default)] 0):=by
   have:=dZ (l:=c) (k:=k - 1) (by omega)
   rwa [show ((k - 1:Nat):Int)=(k:Int) - 1 by omega] at this
  have hcm:=iO (c.getD (k - 1) default) (c.getD k default) (hs _ (aU (by omega))) hs1
  have z2:decide (0 ≤ bw (c.getD (k - 1) default) (c.getD k default))=false:=decide_eq_false (by have:=dU a2 (i:=k - 1) (j:=k) (by omega) hk; omega)
  (have zz:=aI @ai (aI @ix (aI @iy (aI @z (aI @zk @z2)))); repeat' (first|refine zW ?_|refine zM ?_|apply a_n|refine zO ?_|refine vY ?_|refine cY ?_ (hp:=by first | exact hp | exact hcm) (hs:=by (first | refine aa ?_ rfl | apply ac); (repeat' (first | exact ab | apply ak | apply ae | exact aB _)); first | done | fail)|refine gTY ?_|refine cFY ?_|(refine zGY ?_ ?_ <;> (intro _hg; try (exfalso; omega)))|fail)) <;> (try clear zz)
  exact ⟨k + 1,by omega,by omega,ag0⟩
 rintro T H nx t3
 (have zz:=@t3; repeat' (first|refine zW ?_|apply a_n|refine zO ?_|refine vY ?_|fail)) <;> (try clear zz)
 refine aR (X:=Nat) (fun k=>[(3,av c),(6,.int .i64 k)]) (fun k H' nx'=>k ≤ c.length∧∀ i,i < k→bd c (c.getD i default)=false) (fun k=>c.length - k) 0 ⟨Nat.zero_le _,fun i h=>absurd h (by omega)⟩ (have zz:=@t3; agZ) ?_
 clear t3
 rintro i H1 nx1 ⟨h1,h2⟩
 by_cases hi:i < c.length
 rotate_left
 ·rw [hY fun i hi=>h2 i (by omega),if_neg (by decide)]
  (have zz:=@ai; repeat' (first|refine zW ?_|apply a_n|apply a_x|refine zO ?_|refine vY ?_|(refine zGY ?_ ?_ <;> (intro _hg; try (exfalso; omega)))|refine af rfl ?_|refine r1Y ?_|fail)) <;> (try clear zz)
  exact .int _ _
 (have zz:=@ai; repeat' (first|refine zW ?_|apply a_n|refine zO ?_|refine vY ?_|(refine zGY ?_ ?_ <;> (intro _hg; try (exfalso; omega)))|fail)) <;> (try clear zz)
 refine aR (X:=Nat) (fun k=>[(3,av c),(6,.int .i64 i),(7,.int .i64 k)]) (fun k H' nx'=>k ≤ c.length∧∀ j,j < k→i ≠ j→bR (c.getD i default) (c.getD j default)=false) (fun k=>c.length - k) 0 ⟨Nat.zero_le _,fun i h=>absurd h (by omega)⟩ ag0 ?_
 rintro k H2 nx2 ⟨k1,k2⟩
 by_cases hk:k < c.length
 rotate_left
 ·(have zz:=@ai; repeat' (first|refine zW ?_|apply a_n|apply a_x|refine zO ?_|refine vY ?_|(refine zGY ?_ ?_ <;> (intro _hg; try (exfalso; omega)))|fail)) <;> (try clear zz)
  refine ⟨i + 1,by omega,⟨by omega,fun j hj=>?_⟩,ag0⟩
  rcases Nat.lt_succ_iff_lt_or_eq.1 hj with h' | rfl
  ·exact h2 j h'
  ·cases hb:bd c (c.getD j default)
   ·rfl
   ·obtain ⟨q,q1,q2,q3⟩:=ve hb
    rw [k2 q (by omega) q2] at q3; cases q3
 have ix:=dZ hi
 have iy:=dZ hk
 by_cases hik:i=k
 ·have z:decide ((i:Int) ≠ (k:Int))=false:=decide_eq_false (by omega)
  (have zz:=aI @ai @z; repeat' (first|refine zW ?_|refine zM ?_|apply a_n|refine zO ?_|refine vY ?_|refine gFY ?_|refine cFY ?_|(refine zGY ?_ ?_ <;> (intro _hg; try (exfalso; omega)))|fail)) <;> (try clear zz)
  exact ⟨k + 1,by omega,⟨by omega,fun j hj hij=>k2 j (by omega) hij⟩,ag0⟩
 have z:decide ((i:Int) ≠ (k:Int))=true:=decide_eq_true (by omega)
 have hin:=uc (c.getD i default) (c.getD k default) (hs _ (aU hi)) (hs _ (aU hk))
 have ht:=tW (fun s hs=>(hok.2 s hs).1) a2 hi hk hik
 cases hb:bR (c.getD i default) (c.getD k default)
 ·rw [hb] at hin
  (have zz:=aI @ai (aI @ix (aI @iy @z)); repeat' (first|refine zW ?_|refine zM ?_|apply a_n|refine zO ?_|refine vY ?_|refine cY ?_ (hp:=hin) (hs:=by (first | refine aa ?_ rfl | apply ac); (repeat' (first | exact ab | apply ak | apply ae | exact aB _)); first | done | fail)|refine gTY ?_|refine cFY ?_|(refine zGY ?_ ?_ <;> (intro _hg; try (exfalso; omega)))|fail)) <;> (try clear zz)
  exact ⟨k + 1,by omega,⟨by omega,fun j hj hij=>by
   rcases Nat.lt_succ_iff_lt_or_eq.1 hj with h' | rfl
   ·exact k2 j h' hij
   ·exact hb⟩,ag0⟩
 ·rw [hb] at hin
  rw [if_pos (List.any_eq_true.2 ⟨_,aU hi,ht hb⟩)]
  (have zz:=aI @ai (aI @ix (aI @iy @z)); repeat' (first|refine zW ?_|refine zM ?_|apply a_n|apply a_r|refine zO ?_|refine vY ?_|refine cY ?_ (hp:=hin) (hs:=by (first | refine aa ?_ rfl | apply ac); (repeat' (first | exact ab | apply ak | apply ae | exact aB _)); first | done | fail)|refine gTY ?_|refine cTY ?_|(refine zGY ?_ ?_ <;> (intro _hg; try (exfalso; omega)))|refine af rfl ?_|refine r1Y ?_|fail)) <;> (try clear zz)
  exact .int _ _
end Go.Proofs.Ytpfkjcjgdilkkaa
namespace Go.Proofs.Ytpfkjcjgdilkkaa
open Go Go.Abs
structure MapV where
 fr:Spx
 to:Spx
 deriving Inhabited,DecidableEq
abbrev za (m:MapV):AV:=.agg [aq m.fr,aq m.to]
theorem uM (m:MapV):Dat (za m):=Dat.agg (DatL.cons (aB _) (DatL.cons (aB _) DatL.nil))
instance datI_encM {m:MapV}:DatI (za m):=⟨uM m⟩
attribute [local irreducible] aE ah aX aP aH aJ az aK aQ bf Go.Abs.Fn aM Go.Abs.Pure ap aD Yl
end Go.Proofs.Ytpfkjcjgdilkkaa
namespace Go.Proofs.Ytpfkjcjgdilkkaa
open Go Go.Abs
attribute [local irreducible] aE ah aX aP aH aJ az aK aQ bf Go.Abs.Fn aM Go.Abs.Pure ap aD Yl
end Go.Proofs.Ytpfkjcjgdilkkaa
namespace Go.Proofs.Ytpfkjcjgdilkkaa
open Go Go.Abs
open Nat (reduceEqDiff reduceAdd reduceLeDiff)
theorem rf {H:Hp} {B n len:Nat} {C:List AV} {l:Spx} (hB:H B=some C) (hn:C.length=n) (hf:len * 2 ≤ n) (hl:l.length=len) (ht:C.take (len * 2)=cX l):Snap H (.msl B n 2 0 len) (aq l):=by
 refine .msl B n 2 0 len C (l.map bC) hB hn (by omega) (by simp [hl]) (fun y hy=>?_) (fun i j y a c hy hc ha=>?_)
 ·obtain ⟨v,_,rfl⟩:=List.mem_map.1 hy; rfl
 ·have hi:i < l.length:=by
    have:=(List.getElem?_eq_some_iff.1 hy).1
    simpa using this
  have hy':y=bC (l.getD i default):=by
   rw [List.getElem?_map,List.getElem?_eq_getElem hi] at hy
   simp at hy
   rw [← hy]; simp [List.getD,hi]
  subst hy'
  have hj:j < 2:=(List.getElem?_eq_some_iff.1 hc).1
  have h1:C[0 + i * 2 + j]?=(cX l)[i * 2 + j]?:=by
   rw [← ht,List.getElem?_take,if_pos (by omega)]; congr 1; omega
  have h2:(cX l)[i * 2 + j]?=(((cX l).drop (i * 2)).take 2)[j]?:=by
   rw [List.getElem?_take,if_pos hj,List.getElem?_drop]
  rw [h1,h2,rdX hi] at ha
  have:[AV.int .i64 (l.getD i default).color,AV.int .i64 (l.getD i default).label][j]?=some c:=hc
  rw [this] at ha
  cases ha
  match j,hj with
  | 0,_=>cases this; exact .int _ _
  | 1,_=>cases this; exact .int _ _
attribute [local irreducible] aE ah aX aP aH aJ az aK aQ bf Go.Abs.Fn aM Go.Abs.Pure ap aD Yl
end Go.Proofs.Ytpfkjcjgdilkkaa
namespace Go.Proofs.Ytpfkjcjgdilkkaa
open Go Go.Abs
attribute [local irreducible] aE ah aX aP aH aJ az aK aQ bf Go.Abs.Fn aM Go.Abs.Pure ap aD Yl
end Go.Proofs.Ytpfkjcjgdilkkaa
namespace Go.Proofs.Ytpfkjcjgdilkkaa
open Go Go.Abs
attribute [local irreducible] aE ah aX aP aH aJ az aK aQ bf Go.Abs.Fn aM Go.Abs.Pure ap aD Yl
end Go.Proofs.Ytpfkjcjgdilkkaa
namespace Go.Proofs.Ytpfkjcjgdilkkaa
open Go Go.Abs
theorem sJ {v w:Vtx} {l m:Spx}:bw (v :: l) (w :: m)=if be v w ≠ 0 then be v w else bw l m:=rfl
end Go.Proofs.Ytpfkjcjgdilkkaa
namespace Go.Proofs.Ytpfkjcjgdilkkaa
open Go Go.Abs
open Nat (reduceEqDiff reduceAdd reduceLeDiff)
attribute [local irreducible] aE ah aX aP aH aJ az aK aQ bf Go.Abs.Fn aM Go.Abs.Pure ap aD Yl
end Go.Proofs.Ytpfkjcjgdilkkaa
namespace Go.Proofs.Ytpfkjcjgdilkkaa
open Go Go.Abs
attribute [local irreducible] aE ah aX aP aH aJ az aK aQ bf Go.Abs.Fn aM Go.Abs.Pure ap aD Yl
end Go.Proofs.Ytpfkjcjgdilkkaa
namespace Go.Proofs.Ytpfkjcjgdilkkaa
open Go Go.Abs
def ez (l:List Spx):List Spx:=(cC bw l).filter fun s=>!bd (cC bw l) s
theorem fN {l:List Spx} {s:Spx}:s ∈ ez l ↔ s ∈ l∧bd l s=false:=by
 unfold ez
 rw [List.mem_filter,ef]
 refine and_congr_right fun _=>?_
 cases h:bd l s
 ·refine ⟨fun _=>rfl,fun _=>?_⟩
  cases h2:bd (cC bw l) s
  ·rfl
  ·obtain ⟨t,t1,t2⟩:=bm.1 h2
   rw [bm.2 ⟨t,ef.1 t1,t2⟩] at h; cases h
 ·refine ⟨fun h2=>?_,fun h2=>by cases h2⟩
  obtain ⟨t,t1,t2⟩:=bm.1 h
  rw [bm.2 ⟨t,ef.2 t1,t2⟩] at h2; cases h2
theorem iV {l:List Spx}:bP bw (ez l):=(gr nj l).sublist List.filter_sublist
theorem pN {l:List Spx} {s:Spx} (h:s ∈ ez l):s ∈ l:=(fN.1 h).1
theorem vP {l:List Spx}:(ez l).length ≤ l.length:=Nat.le_trans (List.length_filter_le _ _) ja
theorem oV {l:List Spx} (h1:l.length ≤ 4096) (h2:∀ s ∈ l,bu s=0):aN (ez l)=0:=by
 refine gI (Nat.le_trans vP h1) (fun s hs=>h2 s (pN hs)) iV fun s hs=>?_
 cases h:bd (ez l) s
 ·rfl
 ·obtain ⟨t,t1,t2⟩:=bm.1 h
  have:=(fN.1 hs).2
  rw [bm.2 ⟨t,pN t1,t2⟩] at this; cases this
theorem nJ {c:List Spx} (h:aN c=0):ez c=c:=by
 obtain ⟨h1,h2,h3,h4⟩:=a8 h
 refine eT nj iV h3 fun s=>?_
 rw [fN]
 exact ⟨fun h=>h.1,fun h=>⟨h,h4 s h⟩⟩
theorem qs {l m:List Spx} (h:∀ s,s ∈ l ↔ s ∈ m):ez l=ez m:=by
 refine eT nj iV iV fun s=>?_
 rw [fN,fN,h]
 refine and_congr_right fun _=>?_
 rw [← Bool.not_eq_true,← Bool.not_eq_true]
 refine not_congr ?_
 rw [bm,bm]
 exact ⟨fun ⟨t,t1,t2⟩=>⟨t,(h t).1 t1,t2⟩,fun ⟨t,t1,t2⟩=>⟨t,(h t).2 t1,t2⟩⟩
end Go.Proofs.Ytpfkjcjgdilkkaa
namespace Go.Proofs.Ytpfkjcjgdilkkaa
open Go Go.Abs
theorem j7 {H:Hp} {s:AV} {l:List Spx} {e f:Int} (h:Snap H s (av l)) (he:e=f):Snap H (.tup [.agg [s],.int .i64 e]) (.tup [bH l,.int .i64 f]):=by
 subst he; exact jn (ax (mU (ax h ab)) (ax (.int _ _) ab))
attribute [local irreducible] aE ah aX aP aH aJ az aK aQ bf Go.Abs.Fn aM Go.Abs.Pure ap aD Yl
end Go.Proofs.Ytpfkjcjgdilkkaa
namespace Go.Proofs.Ytpfkjcjgdilkkaa
open Go Go.Abs
attribute [local irreducible] aE ah aX aP aH aJ az aK aQ bf Go.Abs.Fn aM Go.Abs.Pure ap aD Yl
end Go.Proofs.Ytpfkjcjgdilkkaa
namespace Go.Proofs.Ytpfkjcjgdilkkaa
open Go Go.Abs
attribute [local irreducible] aE ah aX aP aH aJ az aK aQ bf Go.Abs.Fn aM Go.Abs.Pure ap aD Yl
end Go.Proofs.Ytpfkjcjgdilkkaa
namespace Go.Proofs.Ytpfkjcjgdilkkaa
open Go Go.Abs
attribute [local irreducible] aE ah aX aP aH aJ az aK aQ bf Go.Abs.Fn aM Go.Abs.Pure ap aD Yl
end Go.Proofs.Ytpfkjcjgdilkkaa
namespace Go.Proofs.Ytpfkjcjgdilkkaa
open Go Go.Abs
open Nat (reduceEqDiff reduceAdd reduceLeDiff)
theorem th {L:List Spx} {h:Nat} {x:Spx} (hh:h < L.length):(L.set h x).take (h + 1)=L.take h ++ [x]:=by
 rw [bV (by simpa using hh),List.take_set_of_le (Nat.le_refl h)]
 simp [List.getD,hh]
theorem lm {B n len k:Nat} (h:k < len) (hn:n ≠ 0):iA 1 (.msl B n 1 0 len) (some (.int .i64 k)) none none=some (.msl B n 1 k (len - k)):=by
 simp only [iA,bc,Int.natCast_nonneg,if_true,Int.toNat_natCast]
 rw [if_pos ⟨trivial,by omega,Nat.le_refl _,hn⟩,if_pos (.inr h),Nat.zero_add,Nat.mul_one]
theorem ro {B n len k:Nat} (h:k ≤ len) (hn:n ≠ 0):iA 1 (.msl B n 1 0 len) none (some (.int .i64 k)) none=some (.msl B n 1 0 k):=by
 simp only [iA,bc,Int.natCast_nonneg,if_true,Int.toNat_natCast]
 rw [if_pos ⟨trivial,by omega,h,hn⟩,if_pos (.inl trivial),Nat.zero_mul,Nat.sub_zero]
attribute [local irreducible] aE ah aX aP aH aJ az aK aQ bf Go.Abs.Fn aM Go.Abs.Pure ap aD Yl
theorem pU (l:List Spx) (hl:Shn l) (hls:∀ s ∈ l,Shn s) (h0:l ≠ []) (H:Hp) (B nx:Nat) (hH:H B=some (l.map aq)) (hB:B < nx) :
    Abs.Fn Try.prog 43 [.msl B l.length 1 0 l.length,.func 12 []] H nx fun r H' nx'=>r=.msl B l.length 1 0 (bn l l.length)∧(∃ C,H'=ag H B C∧C.length=l.length∧C.take (bn l l.length)=(cR l l.length).map aq)∧nx'=nx:=by
 refine Abs.Fn.of_c2 follows xk (Nat.le_of_ble_eq_true rfl) ?_
 simp only [b43,cO,cG,cN,cM,cD,cF,cB,ay,aO]
 have hl':l.length ≤ 17592186044416:=hl
 have hpos:=List.length_pos_iff.2 h0
 have hid:H=ag H B (l.map aq):=dx hH
 (have zz:=and_self; repeat' (first|refine zW ?_|apply a_n|apply a_r|refine zO ?_|refine vZ ?_|(refine zGZ ?_ ?_ <;> (intro _hg; try (exfalso; omega)))|refine af rfl ?_|refine r1Z ?_|fail)) <;> (try clear zz)
 ·have e1:l.length=1:=by omega
  have e2:cR l l.length=l:=by
   match l,e1 with
   | [a],_=>rfl
  refine ⟨?_,⟨_,hid,by simp,?_⟩,rfl⟩
  ·rw [show bn l l.length=l.length by rw [e1]; rfl]
  ·rw [e2,show bn l l.length=l.length by rw [e1]; rfl,List.take_of_length_le (by simp)]
 refine aR (X:=Nat) (fun k=>[(0,.msl B l.length 1 0 l.length),(1,.func 12 []),(5,.int .i64 k)]) (fun k H' nx'=>H'=H∧nx'=nx∧1 ≤ k∧k ≤ l.length∧bn l k=k∧cR l k=l.take k) (fun k=>l.length - k) 1 ⟨rfl,rfl,Nat.le_refl _,hpos,rfl,by match l,h0 with | a :: r,_=>rfl⟩ ag0 ?_
 rintro k H' nx' ⟨rfl,rfl,k1,k2,k3,k4⟩
 by_cases hk:k < l.length
 ·have tk:(k:Int) - 1=(k - 1:Nat):=by omega
  have heq:=qg (l.getD k default) (l.getD (k - 1) default) (hls _ (aU hk)) (hls _ (aU (by omega)))
  by_cases he:l.getD k default=l.getD (k - 1) default
  ·have hs:=lm (B:=B) (n:=l.length) hk (Nat.ne_of_gt hpos)
   rw [decide_eq_true he] at heq
   (have zz:=aI @tk (aI @hH (aI @Int.toNat_natCast (aI @hs (aI @bx @bk)))); repeat' (first|refine zW ?_|refine zM ?_|apply a_n|refine zO ?_|refine vZ ?_|refine cZ ?_ (hp:=heq) (hs:=by (first | refine aa ?_ rfl | apply ac); (repeat' (first | exact ab | apply ak | apply ae | exact aB _)); first | done | fail)|refine cTZ ?_|(refine zGZ ?_ ?_ <;> (intro _hg; try (exfalso; omega)))|fail)) <;> (try clear zz)
   refine aR (X:=Nat × List Spx) (fun x=>[(0,.msl B l.length 1 0 l.length),(1,.func 12 []),(5,.int .i64 (bn l (k + x.1):Nat)),(6,.msl B l.length 1 k (l.length - k)),(7,.int .i64 x.1)]) (fun x H2 nx2=>x.2.length=l.length∧1 ≤ x.1∧k + x.1 ≤ l.length∧bn l (k + x.1) + 1 ≤ k + x.1∧H2=ag H' B (x.2.map aq)∧nx2=nx'∧(∀ p,k + x.1 ≤ p + 1→x.2.getD p default=l.getD p default)∧x.2.take (bn l (k + x.1))=cR l (k + x.1)) (fun x=>l.length - x.1) (1,l)
    ⟨rfl,Nat.le_refl _,hk,by dsimp only; rw [de (by omega) he]; omega,hid,rfl,fun _ _=>rfl,by dsimp only; rw [de (by omega) he,f5 (by omega) he,k3,k4]⟩ (by simp (disch:=omega) only [agr,ZG,reduceEqDiff,↓reduceIte,de (show k ≠ 0 by omega) he,k3]) ?_
   rintro ⟨j,L⟩ H2 nx2 ⟨a1,a2,a3,a4,rfl,rfl,a5,a6⟩
   dsimp only at a1 a2 a3 a4 a5 a6 ⊢
   by_cases hj:k + j < l.length
   ·have tj:(j:Int) - 1=(j - 1:Nat):=by omega
    have r1:=a5 (k + j) (by omega)
    have r2:=a5 (k + (j - 1)) (by omega)
    have heq2:=qg (l.getD (k + j) default) (l.getD (k + (j - 1)) default) (hls _ (aU hj)) (hls _ (aU (by omega)))
    by_cases hd:l.getD (k + j) default=l.getD (k + (j - 1)) default
    ·have hq:bn l (k + (j + 1))=bn l (k + j):=de (l:=l) (k:=k + j) (by omega) (by rw [hd,show k + j - 1=k + (j - 1) by omega])
     rw [decide_eq_true hd] at heq2
     (have zz:=aI @tj (aI @Int.toNat_natCast (aI @r1 (aI @r2 (aI @bx @bk)))); repeat' (first|refine zW ?_|refine zM ?_|apply a_n|refine zO ?_|refine vZ ?_|refine cZ ?_ (hp:=heq2) (hs:=by (first | refine aa ?_ rfl | apply ac); (repeat' (first | exact ab | apply ak | apply ae | exact aB _)); first | done | fail)|refine cFZ ?_|(refine zGZ ?_ ?_ <;> (intro _hg; try (exfalso; omega)))|fail)) <;> (try clear zz)
     refine ⟨(j + 1,L),by dsimp only; omega,⟨a1,by dsimp only; omega,by dsimp only; omega,?_,rfl,rfl,fun p hp=>a5 p (by dsimp only at hp; omega),by dsimp only; rw [hq,show k + (j + 1)=k + j + 1 from rfl,f5 (by omega) (by rw [hd,show k + j - 1=k + (j - 1) by omega])]; exact a6⟩,(have zz:=@hq; agZ)⟩
     dsimp only
     rw [hq]
     omega
    ·have hq:bn l (k + (j + 1))=bn l (k + j) + 1:=fX (l:=l) (k:=k + j) (by rw [show k + j - 1=k + (j - 1) by omega]; exact hd)
     have hlm:=fu (f:=aq) (l:=L) (k:=bn l (k + j)) (x:=l.getD (k + j) default) (by omega)
     rw [decide_eq_false hd] at heq2
     (have zz:=aI @tj (aI @Int.toNat_natCast (aI @r1 (aI @r2 (aI @bx @bk)))); repeat' (first|refine zW ?_|refine zM ?_|apply a_n|refine zO ?_|refine vZ ?_|refine cZ ?_ (hp:=heq2) (hs:=by (first | refine aa ?_ rfl | apply ac); (repeat' (first | exact ab | apply ak | apply ae | exact aB _)); first | done | fail)|refine stZ ?_|refine cTZ ?_|(refine zGZ ?_ ?_ <;> (intro _hg; try (exfalso; omega)))|fail)) <;> (try clear zz)
     refine ⟨(j + 1,L.set (bn l (k + j)) (l.getD (k + j) default)),by dsimp only; omega,⟨by simp [a1],by dsimp only; omega,by dsimp only; omega,?_,?_,rfl,fun p hp=>?_,by dsimp only; rw [hq,th (by omega),a6,show k + (j + 1)=k + j + 1 from rfl,gd (by rw [show k + j - 1=k + (j - 1) by omega]; exact hd)]⟩,(have zz:=@hq; agZ)⟩
     ·dsimp only
      rw [hq]
      omega
     ·dsimp only
      rw [am,hlm]
     ·dsimp only at hp ⊢
      rw [List.getD_eq_getElem?_getD,List.getElem?_set_ne (by omega),← List.getD_eq_getElem?_getD]
      exact a5 p (by omega)
   ·have hn:k + j=l.length:=by omega
    have hl1:=lm (B:=B) (n:=l.length) (show bn l (k + j) < l.length by omega) (Nat.ne_of_gt hpos)
    have hl2:=ro (B:=B) (n:=l.length) (show bn l (k + j) ≤ l.length by omega) (Nat.ne_of_gt hpos)
    (have zz:=aI @hl1 @hl2; repeat' (first|refine zW ?_|apply a_n|apply a_x|refine zO ?_|refine vZ ?_|(refine zGZ ?_ ?_ <;> (intro _hg; try (exfalso; omega)))|fail)) <;> (try clear zz)
    refine wW (H':=ag (ag H' B (L.map aq)) B (bg (L.map aq) (bn l (k + j)) (a7 .esl (l.length - bn l (k + j))))) ?_ ?_
    ·((try simp only [cH,ZA,reduceEqDiff,↓reduceIte,reduceAdd,reduceLeDiff]); (try with_reducible rfl))
     simp only [eZ]
     rw [if_neg (by omega),aj]
     dsimp only
     rw [if_pos ⟨by simp [a1],trivial,rfl,rfl,by omega⟩]
     rfl
    ·(have zz:=@hl2; repeat' (first|refine zW ?_|apply a_n|apply a_r|refine zO ?_|refine vZ ?_|refine af rfl ?_|refine r1Z ?_|fail)) <;> (try clear zz)
     refine ⟨by rw [hn],⟨_,am _ _ _ _,?_,?_⟩,rfl⟩
     ·have hz:(a7 AV.esl (l.length - bn l (k + j))).length=l.length - bn l (k + j):=by simp [a7,show AV.esl.cells.length=1 from rfl]
      simp [bg,hz]
      omega
     ·rw [← hn,← a6,List.map_take]
      simp only [bg]
      rw [List.append_assoc,List.take_append_of_le_length (by simp; omega),List.take_of_length_le (by simp; omega)]
  ·rw [decide_eq_false he] at heq
   (have zz:=aI @tk (aI @hH (aI @Int.toNat_natCast (aI @bx @bk))); repeat' (first|refine zW ?_|refine zM ?_|apply a_n|refine zO ?_|refine vZ ?_|refine cZ ?_ (hp:=heq) (hs:=by (first | refine aa ?_ rfl | apply ac); (repeat' (first | exact ab | apply ak | apply ae | exact aB _)); first | done | fail)|refine cFZ ?_|(refine zGZ ?_ ?_ <;> (intro _hg; try (exfalso; omega)))|fail)) <;> (try clear zz)
   exact ⟨k + 1,by omega,⟨rfl,rfl,by omega,by omega,by rw [fX he,k3],by rw [gd he,k4,bV hk]⟩,ag0⟩
 ·(have zz:=and_self; repeat' (first|refine zW ?_|apply a_n|apply a_x|refine zO ?_|refine vZ ?_|(refine zGZ ?_ ?_ <;> (intro _hg; try (exfalso; omega)))|refine af rfl ?_|refine r1Z ?_|fail)) <;> (try clear zz)
  have e:l.length=k:=by omega
  refine ⟨by rw [e,k3],⟨_,hid,by simp,?_⟩,rfl⟩
  rw [e,k3,k4,← List.map_take]
end Go.Proofs.Ytpfkjcjgdilkkaa
namespace Go.Proofs.Ytpfkjcjgdilkkaa
open Go Go.Abs
open Nat (reduceEqDiff reduceAdd reduceLeDiff)
theorem sA {H:Hp} {sz:Nat} {s:AV} {elems:List AV} (h:Row H sz s (elems.flatMap AV.cells)) (hc:∀ y ∈ elems,y.cells.length=sz) (hz:0 < sz) (hd:∀ y ∈ elems,∀ c ∈ y.cells,SnapF H c c):SnapF H s (.sl sz elems):=by
 obtain ⟨f1,f2⟩:=ce elems hc
 generalize he:elems.flatMap AV.cells=cs at h
 cases h with
 | nil =>
  have:elems.length * sz=0:=by rw [← f1,he]; rfl
  have:elems=[]:=List.length_eq_zero_iff.1 (by
   rcases Nat.mul_eq_zero.1 this with h | h
   ·exact h
   ·omega)
  subst this; exact .eslsl sz
 | box b len cs hb hl =>
  have hlen:elems.length=len:=Nat.eq_of_mul_eq_mul_right hz (by rw [← f1,he,hl])
  refine .msl b (len * sz) sz 0 len cs elems hb hl (by omega) hlen hc (fun i j y a c hy hc' ha=>?_)
  have hj:j < sz:=by rw [← hc y (List.mem_of_getElem? hy)]; exact (List.getElem?_eq_some_iff.1 hc').1
  have key:∀ (l:List AV) (i j:Nat) (y c:AV),(∀ z ∈ l,z.cells.length=sz)→l[i]?=some y→y.cells[j]?=some c→j < sz→(l.flatMap AV.cells)[i * sz + j]?=some c:=by
   intro l
   induction l with
   | nil=>intro i j y c _ h; simp at h
   | cons x l ih =>
    intro i j y c hl hy hc hj
    rw [List.flatMap_cons]
    cases i with
    | zero =>
     simp at hy; subst hy
     rw [Nat.zero_mul,Nat.zero_add,List.getElem?_append_left (by rw [hl x (by simp)]; exact hj)]; exact hc
    | succ i =>
     rw [List.getElem?_append_right (by rw [hl x (by simp),Nat.add_mul]; omega),hl x (by simp)]
     have:=ih i j y c (fun z hz=>hl z (by simp [hz])) (by simpa using hy) hc hj
     rw [← this]; congr 1; rw [Nat.add_mul]; omega
  have:=key elems i j y c hc hy hc' hj
  rw [he,← Nat.zero_add (i * sz)] at this
  rw [this] at ha; cases ha
  exact hd y (List.mem_of_getElem? hy) a (List.mem_of_getElem? hc')
theorem rR {H:Hp} {s:AV} {l:Spx} (h:Row H 2 s (cX l)):SnapF H s (aq l):=by
 refine sA (elems:=l.map bC) (by rw [rI]; exact h) (fun y hy=>?_) (by omega) (fun y hy c hx=>?_)
 ·obtain ⟨n,_,rfl⟩:=List.mem_map.1 hy; rfl
 ·obtain ⟨n,_,rfl⟩:=List.mem_map.1 hy
  simp only [bC,AV.cells,List.mem_cons,List.not_mem_nil,or_false] at hx
  rcases hx with rfl | rfl <;> exact .int _ _
attribute [local irreducible] aE ah aX aP aH aJ az aK aQ bf Go.Abs.Fn aM Go.Abs.Pure ap aD Yl
theorem tP (l:Spx) (hl:l.length ≤ 1000000):fl Try.prog 45 [aq l] (aq l):=by
 refine fl.of_c2 follows ye (Nat.le_of_ble_eq_true rfl) ?_
 simp only [b45,cO,cG,cN,cM,cD,cF,cB,ay,aO]
 (have zz:=and_self; repeat' (first|refine zW ?_|apply a_n|refine zO ?_|refine vY ?_|fail)) <;> (try clear zz)
 have hn:dW (aq l)=some l.length:=by unfold aq e5; simp [dW]
 refine ul (k:=l.length) (by ((try simp only [cH,ZA,reduceEqDiff,↓reduceIte,reduceAdd,reduceLeDiff]); (try with_reducible rfl)); exact hn) (fun h=>?_) (fun h=>?_) (fun h=>?_)
 ·(have zz:=and_self; repeat' (first|refine zW ?_|apply a_n|refine zO ?_|refine vY ?_|refine b0Y ?_|refine cFY ?_|fail)) <;> (try clear zz)
  refine ma rfl ev0 ev0 uz (og _) (by omega) (by omega) ?_
  (have zz:=and_self; repeat' (first|apply a_n|refine zO ?_|refine vY ?_|refine af rfl ?_|refine r1Y ?_|fail)) <;> (try clear zz)
  exact rR (Row.box _ l.length (cX l) aj (eW l))
 ·(have zz:=and_self; repeat' (first|refine zW ?_|apply a_n|apply a_r|refine zO ?_|refine vY ?_|refine cTY ?_|refine af rfl ?_|refine r1Y ?_|fail)) <;> (try clear zz)
  obtain rfl:=List.length_eq_zero_iff.1 h
  exact .eslsl 2
 ·(have zz:=and_self; repeat' (first|refine zW ?_|apply a_n|refine zO ?_|refine vY ?_|refine b0Y ?_|refine cFY ?_|fail)) <;> (try clear zz)
  refine ma rfl ev0 ev0 uz (og _) (by omega) (by omega) ?_
  (have zz:=and_self; repeat' (first|apply a_n|refine zO ?_|refine vY ?_|refine af rfl ?_|refine r1Y ?_|fail)) <;> (try clear zz)
  exact rR (Row.box _ l.length (cX l) aj (eW l))
theorem jG (s:AV) (l:List Spx) (hl:l.length ≤ 1000000) (H:Hp) (nx:Nat) (hn:dW s=some l.length) (hs:∀ H',(∀ x,x < nx→H' x=H x)→dg 1 H' s=some (l.length,l.map aq)):Abs.Fn Try.prog 23 [s] H nx fun r H' nx'=>nx' ≤ nx + 1∧nx ≤ nx'∧(∀ x,x < nx→H' x=H x)∧if l=[] then cg r=some (.int .i64 0)∧∀ H'',Snap H'' r (av []) else r=.msl nx l.length 1 0 l.length∧H'=ag H nx (l.map aq)∧nx'=nx + 1:=by
 refine Abs.Fn.of_c2 follows y7 (Nat.le_of_ble_eq_true rfl) ?_
 simp only [b23,cO,cG,cN,cM,cD,cF,cB,ay,aO]
 have hones:AV.ones (l.map aq)=true:=by
  unfold AV.ones
  rw [List.all_eq_true]
  intro x hx
  obtain ⟨y,_,rfl⟩:=List.mem_map.1 hx
  rfl
 (have zz:=and_self; repeat' (first|refine zW ?_|apply a_n|refine zO ?_|refine vY ?_|fail)) <;> (try clear zz)
 refine ul (k:=l.length) (by ((try simp only [cH,ZA,reduceEqDiff,↓reduceIte,reduceAdd,reduceLeDiff]); (try with_reducible rfl)); exact hn) (fun h=>?_) (fun h=>?_) (fun h=>?_)
 ·(have zz:=and_self; repeat' (first|refine zW ?_|apply a_n|refine zO ?_|refine vY ?_|refine b0Y ?_|refine cFY ?_|fail)) <;> (try clear zz)
  refine ma rfl ev0 ev0 (hs _ fun x _=>rfl) hones (by omega) (by omega) ?_
  (have zz:=and_self; repeat' (first|apply a_n|refine zO ?_|refine vY ?_|refine af rfl ?_|refine r1Y ?_|fail)) <;> (try clear zz)
  refine ⟨Nat.le_refl _,by omega,fun x hx=>ao (by omega),?_⟩
  rw [if_neg (by rintro rfl; exact absurd h (by simp))]
  exact ⟨rfl,rfl,rfl⟩
 ·(have zz:=and_self; repeat' (first|refine zW ?_|apply a_n|apply a_r|refine zO ?_|refine vY ?_|refine cTY ?_|refine af rfl ?_|refine r1Y ?_|fail)) <;> (try clear zz)
  refine ⟨by omega,Nat.le_refl _,fun x hx=>rfl,?_⟩
  rw [if_pos (List.length_eq_zero_iff.1 h)]
  exact ⟨rfl,fun _=>.eslsl 1⟩
 ·(have zz:=and_self; repeat' (first|refine zW ?_|apply a_n|refine zO ?_|refine vY ?_|refine b0Y ?_|refine cFY ?_|fail)) <;> (try clear zz)
  refine ma rfl ev0 ev0 (hs _ fun x _=>rfl) hones (by omega) (by omega) ?_
  (have zz:=and_self; repeat' (first|apply a_n|refine zO ?_|refine vY ?_|refine af rfl ?_|refine r1Y ?_|fail)) <;> (try clear zz)
  refine ⟨Nat.le_refl _,by omega,fun x hx=>ao (by omega),?_⟩
  obtain rfl:=List.length_eq_zero_iff.1 h
  rw [if_pos rfl]
  exact ⟨rfl,fun _=>.mslnil _ _ _ _ _⟩
section
variable {g:Nat} {caps:List AV} {s:AV}
theorem x5 (hs:cg s=some (.int .i64 0)) {H:Hp} {nx:Nat}:Abs.Fn Try.prog 72 [s,.int .i64 0,.int .i64 0,.func g caps] H nx fun r H' nx'=>nx'=nx∧H'=H:=by
 refine Abs.Fn.of_c2 follows xM (Nat.le_of_ble_eq_true rfl) ?_
 simp only [b72,cO,cG,cN,cM,cD,cF,cB,ay,aO]
 (have zz:=and_self; repeat' (first|refine zW ?_|apply a_n|refine zO ?_|refine vZ ?_|fail)) <;> (try clear zz)
 refine aR (X:=Unit) (fun x=>[(0,s),(1,.int .i64 0),(2,.int .i64 0),(3,.func g caps),(8,.int .i64 1)]) (fun x H' nx'=>H'=H∧nx'=nx) (fun x=>0) () ⟨rfl,rfl⟩ (by simp (disch:=omega) only [agr,ZG,reduceEqDiff,↓reduceIte,Int.zero_add,true_and]) ?_
 rintro _ _ _ ⟨rfl,rfl⟩
 (have zz:=and_self; repeat' (first|refine zW ?_|apply a_n|apply a_x|refine zO ?_|refine vZ ?_|(refine zGZ ?_ ?_ <;> (intro _hg; try (exfalso; omega)))|refine af rfl ?_|fail)) <;> (try clear zz)
 exact ⟨rfl,rfl⟩
theorem xF (hs:cg s=some (.int .i64 0)) {H:Hp} {nx:Nat}:Abs.Fn Try.prog 61 [s,.int .i64 0,.int .i64 0,.int .i64 0,.func g caps] H nx fun r H' nx'=>nx'=nx∧H'=H:=by
 refine Abs.Fn.of_c2 follows xn (Nat.le_of_ble_eq_true rfl) ?_
 simp only [b61,cO,cG,cN,cM,cD,cF,cB,ay,aO]
 (have zz:=and_self; repeat' (first|refine zW ?_|apply a_n|refine zO ?_|refine vZ ?_|fail)) <;> (try clear zz)
 refine aR (X:=Unit) (fun x=>[(0,s),(1,.int .i64 0),(2,.int .i64 0),(3,.int .i64 0),(4,.func g caps)]) (fun x H' nx'=>H'=H∧nx'=nx) (fun x=>0) () ⟨rfl,rfl⟩ ag0 ?_
 rintro _ _ _ ⟨rfl,rfl⟩
 (have zz:=and_self; repeat' (first|refine zW ?_|apply a_n|refine zO ?_|refine vZ ?_|(refine zGZ ?_ ?_ <;> (intro _hg; try (exfalso; omega)))|fail)) <;> (try clear zz)
 refine aw ev0 ev0 (x5 hs) ?_
 rintro _ _ _ ⟨rfl,rfl⟩
 (have zz:=and_self; repeat' (first|apply a_n|apply a_r|refine zO ?_|refine af rfl ?_|fail)) <;> (try clear zz)
 exact ⟨rfl,rfl⟩
theorem uY (hs:cg s=some (.int .i64 0)) {H:Hp} {nx:Nat}:Abs.Fn Try.prog 41 [s,.func g caps] H nx fun r H' nx'=>nx'=nx∧H'=H:=by
 refine Abs.Fn.of_c2 follows xQ (Nat.le_of_ble_eq_true rfl) ?_
 simp only [b41,cO,cG,cN,cM,cD,cF,cB,ay,aO]
 have w8:IntKind.wrap .u64 0=0:=by decide
 (have zz:=aI @w8 @hs; repeat' (first|refine zW ?_|apply a_n|refine zO ?_|refine vZ ?_|fail)) <;> (try clear zz)
 refine aw ev0 (have zz:=@w8; evZ) wO ?_
 rintro _ _ _ ⟨rfl,rfl,rfl⟩
 (have zz:=and_self; repeat' (first|apply a_n|refine zO ?_|refine vZ ?_|fail)) <;> (try clear zz)
 refine aw ev0 ev0 (xF hs) ?_
 rintro _ _ _ ⟨rfl,rfl⟩
 (have zz:=and_self; repeat' (first|apply a_n|refine zO ?_|refine af rfl ?_|fail)) <;> (try clear zz)
 exact ⟨rfl,rfl⟩
theorem ri (hs:cg s=some (.int .i64 0)) {H:Hp} {nx:Nat}:Abs.Fn Try.prog 43 [s,.func g caps] H nx fun r H' nx'=>r=s∧nx'=nx∧H'=H:=by
 refine Abs.Fn.of_c2 follows xk (Nat.le_of_ble_eq_true rfl) ?_
 simp only [b43,cO,cG,cN,cM,cD,cF,cB,ay,aO]
 (have zz:=@hs; repeat' (first|refine zW ?_|apply a_n|apply a_r|refine zO ?_|refine vZ ?_|(refine zGZ ?_ ?_ <;> (intro _hg; try (exfalso; omega)))|refine af rfl ?_|refine r1Z ?_|fail)) <;> (try clear zz)
 exact ⟨rfl,rfl,rfl⟩
end
end Go.Proofs.Ytpfkjcjgdilkkaa
namespace Go.Proofs.Ytpfkjcjgdilkkaa
open Go Go.Abs
theorem sL {D:List Spx} {k:Nat} {v:Vtx} (hk:k < D.length) (hv:v ∈ D.getD k default):fo D D.length v ≠ []:=fun e=>by
 have:k ∈ fo D D.length v:=List.mem_filter.2 ⟨List.mem_range.2 hk,decide_eq_true hv⟩
 rw [e] at this; cases this
theorem oL {l:List Spx} {p:Spx→Bool} {k:Nat} (hk:k < l.length):(l.take (k + 1)).filter p=(l.take k).filter p ++ if p (l.getD k default)=true then [l.getD k default] else []:=by
 rw [bV hk,List.filter_append]
 cases h:p (l.getD k default)
 ·rw [List.filter_cons_of_neg (by rw [h]; decide),List.filter_nil,if_neg (by decide)]
 ·rw [List.filter_cons_of_pos h,List.filter_nil,if_pos rfl]
attribute [local irreducible] aE ah aX aP aH aJ az aK aQ bf Go.Abs.Fn aM Go.Abs.Pure ap aD Yl
theorem zL:Cmp Try.prog aq bw (fun s=>Shn s) 42 [] where
 cells _:=rfl
 one _:=rfl
 dat x:=aB x
 dcaps x hx:=by cases hx
 run x y hx hy:=gZ x y hx hy
 ord:=nj.ord
theorem ec (l:List Spx) (hl:l.length ≤ 100000) (hs:∀ s ∈ l,bP be s∧s.length ≤ 1000∧s ≠ []):Pure Try.prog 18 [av l] (bH (ez l)):=by
 refine Pure.of_c2 follows zv (Nat.le_of_ble_eq_true rfl) ?_
 simp only [b18,cO,cG,cN,cM,cD,cF,cB,ay,aO]
 have hn:dW (av l)=some l.length:=by unfold av e5; simp [dW]
 (have zz:=@ai; repeat' (first|refine zW ?_|apply a_n|refine zO ?_|refine vY ?_|refine alY ?_|fail)) <;> (try clear zz)
 refine aw ev0 ev0 (jG _ l (by omega) _ _ hn (fun H' _=>lz)) ?_
 rintro r H1 nx1 ⟨c1,c2,c3,c4⟩
 have hD:∀ s ∈ cC bw l,bP be s∧s.length ≤ 1000∧s ≠ []:=fun s h=>hs s (ef.1 h)
 have hDl:(cC bw l).length ≤ 100000:=Nat.le_trans ja hl
 have g0:H1 0=some [.esl]:=(c3 0 (by omega)).trans aj
 have hsort:Abs.Fn Try.prog 41 [r,.func 42 []] H1 nx1 fun _ H' nx'=>nx1 ≤ nx'∧H' 0=some [.esl]∧((l=[]∧cg r=some (.int .i64 0)∧∀ H'',Snap H'' r (av [])) ∨ (l ≠ []∧r=.msl 1 l.length 1 0 l.length∧2 ≤ nx'∧∃ L':List Spx,H' 1=some (L'.map aq)∧L'.Perm l∧aL bw 0 l.length L')):=by
  by_cases h0:l=[]
  ·rw [if_pos h0] at c4
   refine Abs.Fn.mono (uY c4.1) ?_
   rintro _ _ _ ⟨rfl,rfl⟩
   exact ⟨Nat.le_refl _,g0,.inl ⟨h0,c4⟩⟩
  ·rw [if_neg h0] at c4
   obtain ⟨rfl,rfl,rfl⟩:=c4
   have hpos:=List.length_pos_iff.2 h0
   refine Abs.Fn.mono (wh zL (L:=l) (b:=0 + 1) (n:=l.length) aj (by omega) rfl hpos (fun s h=>show s.length ≤ _ by have:=(hs s h).2.1; omega) (by omega)) ?_
   rintro _ H' nx' ⟨L',ps,p1,p2⟩
   exact ⟨ps.le,by rw [ps.fr 0 (by omega) (by omega)]; exact g0,.inr ⟨h0,rfl,ps.le,L',ps.at_,p1,p2⟩⟩
 have hnx1:1 ≤ nx1:=c2
 clear c4
 (have zz:=and_self; repeat' (first|refine zW ?_|apply a_n|refine zO ?_|refine vY ?_|fail)) <;> (try clear zz)
 refine aw ev0 ev0 hsort ?_
 rintro _ H2 nx2 ⟨d1,g2,d3⟩
 have hcmp:Abs.Fn Try.prog 43 [r,.func 12 []] H2 nx2 fun r' H' nx'=>nx2 ≤ nx'∧∃ Hf H3,Fz Hf H' H3∧Snap Hf r' (av (cC bw l))∧H3 0=some [.esl]:=by
  rcases d3 with ⟨h0,e1,e2⟩ | ⟨h0,rfl,e0,L',e1,e2,e3⟩
  ·refine Abs.Fn.mono (ri e1) ?_
   rintro _ _ _ ⟨rfl,rfl,rfl⟩
   refine ⟨Nat.le_refl _,aY,_,Fz.none,?_,g2⟩
   rw [h0]; exact e2 _
  ·have hlen:=e2.length_eq
   have hL0:L' ≠ []:=fun e=>by rw [e] at hlen; simp at hlen; exact h0 (List.length_eq_zero_iff.1 hlen.symm)
   rw [← hlen]
   refine Abs.Fn.mono (pU L' (show _ ≤ _ by omega) (fun s h=>show s.length ≤ _ by have:=(hs s (e2.mem_iff.1 h)).2.1; omega) hL0 H2 1 nx2 e1 (by omega)) ?_
   rintro _ _ _ ⟨rfl,⟨C,rfl,f1,f2⟩,rfl⟩
   have hd:cR L' L'.length=cC bw l:=nU nj e2 (by rw [hlen]; exact e3)
   rw [hd] at f2
   have hle:=ql L' L'.length
   have hdl:=nH L' L'.length
   rw [hd] at hdl
   refine ⟨Nat.le_refl _,only 1 C,bI (ag H2 1 C) 1,Fz.one aj,?_,by rw [eO (by omega),ao (by omega)]; exact g2⟩
   refine l8 (l:=(cC bw l).map aq) fk f1 (by omega) (by rw [List.length_map]; exact hdl) (fun y hy=>?_) (fun i a c ha hc=>?_)
   ·obtain ⟨z,_,rfl⟩:=List.mem_map.1 hy; rfl
   ·rw [← f2,List.getElem?_take] at hc
    split at hc
    ·rw [Nat.zero_add,hc] at ha; cases ha
     have hm:a ∈ (cC bw l).map aq:=by
      rw [← f2]
      exact List.mem_of_getElem? (i:=i) (by rw [List.getElem?_take,if_pos (by assumption)]; exact hc)
     obtain ⟨z,_,rfl⟩:=List.mem_map.1 hm
     exact aB _ _
    ·cases hc
 clear d3 hsort
 (have zz:=and_self; repeat' (first|refine zW ?_|apply a_n|refine zO ?_|refine vY ?_|fail)) <;> (try clear zz)
 refine aw ev0 ev0 hcmp ?_
 rintro r2 H3 nx3 ⟨f1,Hf,H4,hfz,hsn,g4⟩
 have hmx:ez l=(cC bw l).filter fun s=>!bd (cC bw l) s:=rfl
 rw [hmx]
 have hasc:=gr nj l
 generalize cC bw l=D at *
 (have zz:=and_self; repeat' (first|apply a_n|refine zO ?_|refine vY ?_|fail)) <;> (try clear zz)
 refine cJ ?_
 refine js Hf H4 [(0,av D),(2,.ptr 0 1 0)] hfz ⟨.inr hsn,.inl rfl,trivial⟩ ?_
 clear hfz hsn
 (have zz:=and_self; repeat' (first|apply a_n|refine zO ?_|refine vY ?_|fail)) <;> (try clear zz)
 refine aw ev0 ev0 (gN D hDl (fun s h=>⟨(hD s h).1,by have:=(hD s h).2.1; omega⟩) _ _) ?_
 rintro _ H5 nx5 ⟨ks,vs,rfl,hinc,hsame,hlt⟩
 have g5:H5 0=some [.esl]:=(hsame 0 (by omega)).trans g4
 have hOk:OkS D:=⟨hDl,fun s h=>⟨(hD s h).1,(hD s h).2.1⟩⟩
 (have zz:=@ai; repeat' (first|refine zW ?_|apply a_n|refine zO ?_|refine vY ?_|refine alY ?_|fail)) <;> (try clear zz)
 refine aR (X:=Nat × AV) (fun x=>[(0,av D),(2,.ptr 0 1 0),(3,.mp nx3),(4,.ptr nx5 1 0),(15,av D),(16,.int .i64 D.length),(17,.int .i64 x.1)]) (fun x H' nx'=>x.1 ≤ D.length∧nx5 < nx'∧(∀ y,y < nx5→H' y=H5 y)∧H' nx5=some [x.2]∧Row H' 1 x.2 (((D.take x.1).filter fun s=>!bd D s).map aq)∧∀ B,cp x.2=some B→nx5 < B∧B < nx') (fun x=>D.length - x.1) (0,.esl) ⟨Nat.zero_le _,by omega,fun y hy=>ao (by omega),aj,Row.nil,fun B h=>(by cases h)⟩ (by (iterate 7 refine And.intro rfl ?_); trivial) ?_
 rintro ⟨k,sv⟩ H' nx' ⟨h1,hnx',hsm,gb,hrow,hbd⟩
 dsimp only at h1 gb hrow hbd ⊢
 by_cases hk:k < D.length
 rotate_left
 ·rw [List.take_of_length_le (by omega)] at hrow
  obtain ⟨o1,o2⟩:=hrow.one
  have g6:H' 0=some [.esl]:=(hsm 0 (by omega)).trans g5
  (have zz:=aI @gb (aI @g6 (aI @o1 @o2)); repeat' (first|refine zW ?_|apply a_n|apply a_x|refine zO ?_|refine vY ?_|refine stY ?_|(refine zGY ?_ ?_ <;> (intro _hg; try (exfalso; omega)))|refine af rfl ?_|refine r1Y ?_|fail)) <;> (try clear zz)
  exact mU (ax (fR (hrow.same fun B hB=>ao (by have:=hbd B hB; omega))) ab)
 have ix:=dZ hk
 have hDk:=hD _ (aU hk)
 have hpos:0 < (D.getD k default).length:=List.length_pos_iff.2 hDk.2.2
 have hcv:=nD D (D.getD k default) hOk (hOk.2 _ (aU hk)) hpos
 have iy:=ix2 (l:=D.getD k default) (k:=0) hpos
 rw [show ((0:Nat):Int)=0 from rfl] at iy
 have hks:(D.getD k default).getD 0 default ∈ ks:=(hinc.dom _).2 (sL hk (aU hpos))
 have hmf:=n8 ((D.getD k default).getD 0 default) ks
 rw [if_pos hks] at hmf
 obtain ⟨m1,m2⟩:=lf hks
 have hr:=hinc.row _ m1
 rw [m2] at hr
 have hr':=hr.same (H':=H') (fun B hB=>hsm B (hinc.bnd _ B m1 hB).2.1)
 have hbox:=(hsm nx3 hinc.lt).trans hinc.box
 have hft:=oL (p:=fun s=>!bd D s) hk
 have hfl:(((D.take k).filter fun s=>!bd D s).map aq).length ≤ 100000:=by
  rw [List.length_map]
  have:=List.length_filter_le (fun s=>!bd D s) (D.take k)
  rw [List.length_take] at this; omega
 generalize hsk:D.getD k default=s at *
 (have zz:=aI @ix @iy; repeat' (first|refine zW ?_|apply a_n|refine zO ?_|refine vY ?_|(refine zGY ?_ ?_ <;> (intro _hg; try (exfalso; omega)))|fail)) <;> (try clear zz)
 refine qZ ev0 hbox ev0 (pM _) hmf ?_
 rw [show mget .esl false (some (ks.idxOf (s.getD 0 default))) vs=vs.getD (ks.idxOf (s.getD 0 default)) .undef from rfl]
 (have zz:=and_self; repeat' (first|apply a_n|refine zO ?_|refine vY ?_|fail)) <;> (try clear zz)
 cases hb:bd D s
 ·rw [hb] at hcv hft
  rw [if_pos (by decide)] at hft
  refine dp ev0 ev0 hcv (aa (ax (bl _ _) (ax (qa hr') (ax (aB _ _) ab))) rfl) ?_
  (have zz:=and_self; repeat' (first|apply a_n|refine zO ?_|refine vY ?_|refine cTY ?_|fail)) <;> (try clear zz)
  refine oG nx5 gb fun S0 hS hsub=>?_
  (have zz:=@hS; repeat' (first|apply a_n|refine zO ?_|refine nvY ?_|fail)) <;> (try clear zz)
  refine lZ ?_
  refine wL ev0 ev0 (tP s (by omega)) (ax (aB _ _) ab) ?_
  refine qc ⟨hsub _ gb,?_⟩
  refine lZ ?_
  (have zz:=aI @bx @bk; repeat' (first|apply a_n|refine zO ?_|refine blY ?_|fail)) <;> (try clear zz)
  refine ⟨hsub _ (by rw [ao (by omega)]; exact gb),?_⟩
  refine ig ?_
  refine gn rfl ev0 (hrow.same fun B hB=>?_) ev0 fQ rfl rfl Nat.one_pos (by omega) (by omega) ?_
  ·have:=hbd B hB; rw [ao (by omega)]
  rintro s2 H2 nx2 hr2 i1 i2 i3 i4
  have gb2:H2 nx5=some [sv]:=(i3 nx5 (by omega) (fun h=>by have:=hbd _ h; omega)).trans (by rw [ao (by omega)]; exact gb)
  obtain ⟨o1,o2⟩:=hr2.one
  (have zz:=aI @gb2 (aI @o1 @o2); repeat' (first|apply a_n|refine zO ?_|refine vY ?_|refine nvY ?_|apply ig|refine stY ?_|fail)) <;> (try clear zz)
  refine ⟨(k + 1,s2),by dsimp only; omega,⟨by dsimp only; omega,by omega,fun y hy=>?_,by rw [aj]; rfl,?_,fun B hB=>?_⟩,ag0⟩
  ·rw [ao (by omega),i3 y (by omega) (fun h=>by have:=hbd _ h; omega),ao (by omega)]; exact hsm y hy
  ·dsimp only
   rw [hft,List.map_append]
   refine hr2.same fun B hB=>ao ?_
   rcases i4 B hB with h | h
   ·have:=hbd B h; omega
   ·omega
  ·rcases i4 B hB with h | h
   ·have:=hbd B h; omega
   ·omega
 ·rw [hb] at hcv hft
  rw [if_neg (by decide),List.append_nil] at hft
  refine dp ev0 ev0 hcv (aa (ax (bl _ _) (ax (qa hr') (ax (aB _ _) ab))) rfl) ?_
  (have zz:=and_self; repeat' (first|apply a_n|refine zO ?_|refine vY ?_|refine cFY ?_|fail)) <;> (try clear zz)
  exact ⟨(k + 1,sv),by dsimp only; omega,⟨by dsimp only; omega,hnx',hsm,gb,by dsimp only; rw [hft]; exact hrow,hbd⟩,ag0⟩
end Go.Proofs.Ytpfkjcjgdilkkaa
namespace Go.Proofs.Ytpfkjcjgdilkkaa
open Go Go.Abs
theorem u5 {H:Hp} {s:AV} {l:List Spx} (h:Row H 1 s (l.map aq)):∃ Hf H',Fz Hf H H'∧Snap Hf s (av l)∧∀ x,cp s ≠ some x→H' x=H x:=by
 generalize hcs:l.map aq=cs at h
 cases h with
 | nil=>exact ⟨aY,H,Fz.none,fR (by rw [hcs]; exact Row.nil),fun _ _=>rfl⟩
 | box b len cs g1 g2=>exact ⟨only b cs,bI H b,Fz.one g1,fR (by rw [hcs]; exact Row.box b len cs fk g2),fun x hx=>eO (fun e=>hx (by rw [e]; rfl))⟩
attribute [local irreducible] aE ah aX aP aH aJ az aK aQ bf Go.Abs.Fn aM Go.Abs.Pure ap aD Yl
end Go.Proofs.Ytpfkjcjgdilkkaa
namespace Go.Proofs.Ytpfkjcjgdilkkaa
open Go Go.Abs
attribute [local irreducible] aE ah aX aP aH aJ az aK aQ bf Go.Abs.Fn aM Go.Abs.Pure ap aD Yl
end Go.Proofs.Ytpfkjcjgdilkkaa
namespace Go.Proofs.Ytpfkjcjgdilkkaa
open Go Go.Abs
attribute [local irreducible] aE ah aX aP aH aJ az aK aQ bf Go.Abs.Fn aM Go.Abs.Pure ap aD Yl
end Go.Proofs.Ytpfkjcjgdilkkaa
namespace Go.Proofs.Ytpfkjcjgdilkkaa
open Go Go.Abs
attribute [local irreducible] aE ah aX aP aH aJ az aK aQ bf Go.Abs.Fn aM Go.Abs.Pure ap aD Yl
theorem sT (l:List Spx) (p:Spx→Bool) (g:Nat) (caps caps':List AV) (hl:l.length ≤ 1000000) (H:Hp) (nx:Nat) (hcap:∀ H':Hp,(∀ x,x < nx→H' x=H x)→aD H' caps caps') (hg:∀ x ∈ l,Pure Try.prog g (aq x :: caps') (.bool (p x))) :
    Abs.Fn Try.prog 38 [av l,.func g caps] H nx fun r H' nx'=>Row H' 1 r ((l.filter p).map aq)∧(∀ x,x < nx→H' x=H x)∧nx ≤ nx':=by
 refine Abs.Fn.of_c2 follows xb (Nat.le_of_ble_eq_true rfl) ?_
 simp only [b38,cO,cG,cN,cM,cD,cF,cB,ay,aO]
 (have zz:=@ai; repeat' (first|refine zW ?_|apply a_n|refine zO ?_|refine vY ?_|fail)) <;> (try clear zz)
 refine aR (X:=Nat × AV) (fun x=>[(1,.func g caps),(5,x.2),(8,av l),(9,.int .i64 l.length),(10,.int .i64 x.1)]) (fun x H' nx'=>x.1 ≤ l.length∧nx ≤ nx'∧(∀ y,y < nx→H' y=H y)∧Row H' 1 x.2 (((l.take x.1).filter p).map aq)∧∀ b,cp x.2=some b→nx ≤ b∧b < nx') (fun x=>l.length - x.1) (0,.esl) ⟨Nat.zero_le _,Nat.le_refl _,fun _ _=>rfl,Row.nil,fun b h=>(by cases h)⟩ (by (iterate 5 refine And.intro rfl ?_); trivial) ?_
 rintro ⟨k,sv⟩ H1 nx1 ⟨h1,h2,h3,hrow,hbd⟩
 dsimp only at h1 hrow hbd ⊢
 obtain ⟨o1,o2⟩:=hrow.one
 by_cases hk:k < l.length
 rotate_left
 ·rw [List.take_of_length_le (by omega)] at hrow
  (have zz:=aI @o1 @o2; repeat' (first|refine zW ?_|apply a_n|apply a_x|refine zO ?_|refine vY ?_|(refine zGY ?_ ?_ <;> (intro _hg; try (exfalso; omega)))|refine af rfl ?_|refine r1Y ?_|fail)) <;> (try clear zz)
  exact ⟨hrow,h3,h2⟩
 have ix:=dZ hk
 have hp:=hg _ (aU hk)
 have hft:(l.take (k + 1)).filter p=(l.take k).filter p ++ if p (l.getD k default)=true then [l.getD k default] else []:=by
  rw [bV hk,List.filter_append]
  cases h:p (l.getD k default)
  ·rw [List.filter_cons_of_neg (by rw [h]; decide),List.filter_nil,if_neg (by decide)]
  ·rw [List.filter_cons_of_pos h,List.filter_nil,if_pos rfl]
 have hfl:((l.take k).filter p).length ≤ l.length:=Nat.le_trans (List.length_filter_le _ _) (by rw [List.length_take]; omega)
 generalize l.getD k default=v at *
 (have zz:=@ix; repeat' (first|refine zW ?_|apply a_n|refine zO ?_|refine vY ?_|(refine zGY ?_ ?_ <;> (intro _hg; try (exfalso; omega)))|fail)) <;> (try clear zz)
 refine dp ev0 ev0 hp (aa (ax (aB _ _) (hcap _ h3)) rfl) ?_
 cases hpv:p v
 ·rw [hpv,if_neg (by decide),List.append_nil] at hft
  (have zz:=aI @o1 @o2; repeat' (first|apply a_n|refine zO ?_|refine vY ?_|refine cFY ?_|fail)) <;> (try clear zz)
  refine ⟨(k + 1,sv),by dsimp only; omega,⟨by dsimp only; omega,h2,h3,by dsimp only; rw [hft]; exact hrow,hbd⟩,ag0⟩
 ·rw [hpv,if_pos rfl] at hft
  (have zz:=aI @o1 (aI @o2 (aI @bx @bk)); repeat' (first|apply a_n|refine zO ?_|refine vY ?_|refine blY ?_|refine cTY ?_|fail)) <;> (try clear zz)
  refine gn rfl ev0 (hrow.same fun b hb=>?_) ev0 fQ rfl rfl Nat.one_pos (by rw [List.length_map]; omega) (by rw [List.length_map]; omega) ?_
  ·have:=hbd b hb; rw [ao (by omega)]
  rintro s2 H2 nx2 hr2 i1 i2 i3 i4
  obtain ⟨o3,o4⟩:=hr2.one
  (have zz:=aI @o3 @o4; repeat' (first|apply a_n|refine zO ?_|refine vY ?_|fail)) <;> (try clear zz)
  refine ⟨(k + 1,s2),by dsimp only; omega,⟨by dsimp only; omega,by omega,fun y hy=>?_,?_,fun b hb=>?_⟩,ag0⟩
  ·rw [i3 y (by omega) (fun h=>by have:=hbd _ h; omega),ao (by omega)]; exact h3 y hy
  ·dsimp only
   rw [hft,List.map_append]; exact hr2
  ·rcases i4 b hb with h | h
   ·have:=hbd b h; omega
   ·omega
theorem nu (s t:Spx) (hs:bP be s∧s.length ≤ 1000000) (ht:bP be t∧t.length ≤ 1000000):Pure Try.prog 39 [aq t,.iptr [aq s] 0] (.bool (bR s t)):=by
 refine Pure.of_c2 follows zJ (Nat.le_of_ble_eq_true rfl) ?_
 simp only [b39,cO,cG,cN,cM,cD,cF,cB,ay,aO]
 (have zz:=and_self; repeat' (first|refine zW ?_|apply a_n|refine zO ?_|refine vY ?_|refine cY ?_ (hp:=by exact vu s t hs.1 ht.1 hs.2 ht.2) (hs:=by (first | refine aa ?_ rfl | apply ac); (repeat' (first | exact ab | apply ak | apply ae | exact aB _)); first | done | fail)|refine af rfl ?_|refine r1Y ?_|fail)) <;> (try clear zz)
 exact .bool _
theorem u9 (c:List Spx) (s:Spx) (hc:c.length ≤ 1000000) (hcs:∀ t ∈ c,bP be t∧t.length ≤ 1000000) (hs:bP be s∧s.length ≤ 1000000) (H:Hp) (nx:Nat) :
    Abs.Fn Try.prog 17 [bH c,aq s] H nx fun r H' nx'=>Row H' 1 r ((c.filter fun t=>bR s t).map aq)∧(∀ x,x < nx→H' x=H x)∧nx ≤ nx':=by
 refine Abs.Fn.of_c2 follows xE (Nat.le_of_ble_eq_true rfl) ?_
 simp only [b17,cO,cG,cN,cM,cD,cF,cB,ay,aO]
 (have zz:=aI @bx (aI @bk (aI @aC @au)); repeat' (first|refine zW ?_|apply a_n|refine zO ?_|refine vY ?_|refine bxY ?_|fail)) <;> (try clear zz)
 refine aw ev0 ev0 (sT c (fun t=>bR s t) 39 [.ptr (nx + 1) 1 0] [.iptr [aq s] 0] hc _ _ (fun H' h=>ax (gA ((h (nx + 1) (by omega)).trans aj) rfl (ax (aB _ _) ab)) ab) (fun t ht=>nu s t hs (hcs t ht))) ?_
 rintro r H1 nx1 ⟨r1,r2,r3⟩
 obtain ⟨o1,o2⟩:=r1.one
 (have zz:=aI @o1 @o2; repeat' (first|apply a_n|refine zO ?_|refine vY ?_|refine af rfl ?_|refine r1Y ?_|fail)) <;> (try clear zz)
 exact ⟨r1,fun x hx=>(r2 x (by omega)).trans (by rw [ao (by omega),ao (by omega)]),by omega⟩
end Go.Proofs.Ytpfkjcjgdilkkaa
namespace Go.Proofs.Ytpfkjcjgdilkkaa
open Go Go.Abs
def bv (c:List Spx) (s:Spx):List Spx:=c.filter fun f=>bR s f
def eH (l:List Spx) (p:Vtx→Bool):List Spx:=(l.map fun f=>f.filter p).filter fun f=>decide (0 < f.length)
def e7 (c:List Spx) (s:Spx):List Spx:=ez (eH (bv c s) fun v=>decide (v ∉ s))
theorem cT {c:List Spx} {s f:Spx}:f ∈ bv c s ↔ f ∈ c∧∀ v ∈ s,v ∈ f:=by
 unfold bv; rw [List.mem_filter,da]
theorem s5 {L c:List Spx} {s:Spx} (h:∀ t ∈ L,t ∈ c) (hc:bd c s=false):bd L s=false:=by
 rw [← Bool.not_eq_true] at hc ⊢
 refine fun h2=>hc ?_
 obtain ⟨t,t1,t2⟩:=bm.1 h2
 exact bm.2 ⟨t,h t t1,t2⟩
theorem qH {L c:List Spx} (hc:aN c=0) (h:L.Sublist c):aN L=0:=by
 obtain ⟨c1,c2,c3,c4⟩:=a8 hc
 exact gI (Nat.le_trans h.length_le c1) (fun s hs=>c2 s (h.subset hs)) (c3.sublist h) fun s hs=>s5 (fun t ht=>h.subset ht) (c4 s (h.subset hs))
theorem du {c:List Spx} {s:Spx} (hc:aN c=0):aN (bv c s)=0:=qH hc List.filter_sublist
theorem iY {c:List Spx} {s:Spx} (hc:aN c=0):ez (bv c s)=bv c s:=nJ (du hc)
theorem jv {l:List Spx} {p:Vtx→Bool} {t:Spx}:t ∈ eH l p ↔ t ≠ []∧∃ f ∈ l,f.filter p=t:=by
 unfold eH
 rw [List.mem_filter,List.mem_map,decide_eq_true_eq,List.length_pos_iff]
 exact And.comm
theorem p9 {f:Spx} {p:Vtx→Bool} (hf:bu f=0) (h:f.filter p ≠ []):bu (f.filter p)=0:=by
 obtain ⟨p1,p2,p3,p4⟩:=bz hf
 have hsub:(f.filter p).Sublist f:=List.filter_sublist
 exact pO ⟨List.length_pos_iff.2 h,Nat.le_trans hsub.length_le p2⟩ (p3.sublist hsub) fun v hv=>p4 v (hsub.subset hv)
theorem nP {l:List Spx} {p:Vtx→Bool} (hl:∀ f ∈ l,bu f=0):∀ t ∈ eH l p,bu t=0:=fun t ht=>by
 obtain ⟨h1,f,f1,rfl⟩:=jv.1 ht
 exact p9 (hl f f1) h1
theorem j0 {l:List Spx} {p:Vtx→Bool}:(eH l p).length ≤ l.length:=by
 unfold eH
 exact Nat.le_trans (List.length_filter_le _ _) (by simp)
theorem fK {c:List Spx} {s t:Spx} (hc:aN c=0):t ∈ e7 c s ↔ t ≠ []∧∃ f ∈ c,(∀ v ∈ s,v ∈ f)∧f.filter (fun v=>decide (v ∉ s))=t:=by
 obtain ⟨c1,c2,c3,c4⟩:=a8 hc
 have hstar:t ∈ eH (bv c s) (fun v=>decide (v ∉ s)) ↔ t ≠ []∧∃ f ∈ c,(∀ v ∈ s,v ∈ f)∧f.filter (fun v=>decide (v ∉ s))=t:=by
  rw [jv]
  refine and_congr_right fun _=>⟨fun ⟨f,f1,f2⟩=>⟨f,(cT.1 f1).1,(cT.1 f1).2,f2⟩,fun ⟨f,f1,f2,f3⟩=>⟨f,cT.2 ⟨f1,f2⟩,f3⟩⟩
 unfold e7
 rw [fN,hstar]
 refine ⟨fun h=>h.1,fun h=>⟨h,?_⟩⟩
 rw [← Bool.not_eq_true]
 intro hcov
 obtain ⟨u,u1,u2,u3⟩:=bm.1 hcov
 obtain ⟨_,g,g1,rfl⟩:=jv.1 u1
 obtain ⟨_,f,f1,f2,rfl⟩:=h
 have hgc:=(cT.1 g1)
 have hfg:∀ v ∈ f,v ∈ g:=fun v hv=>by
  by_cases hs:v ∈ s
  ·exact hgc.2 v hs
  ·exact (List.mem_filter.1 (u3 v (List.mem_filter.2 ⟨hv,decide_eq_true hs⟩))).1
 by_cases e:f=g
 ·subst e; omega
 ·have hlt:=qQ (bz (c2 f f1)).2.2.1 (bz (c2 g hgc.1)).2.2.1 hfg e
  have:=c4 f f1
  rw [← Bool.not_eq_true] at this
  exact this (bm.2 ⟨g,hgc.1,hlt,hfg⟩)
theorem nV {s f:Spx} (hf:bP be f) (h:∀ v ∈ s,v ∈ f):cC be (s ++ f.filter fun v=>decide (v ∉ s))=f:=by
 refine eT kc (gr kc _) hf fun v=>?_
 rw [ef,List.mem_append,List.mem_filter,decide_eq_true_eq]
 constructor
 ·rintro (h1 | h1)
  ·exact h v h1
  ·exact h1.1
 ·intro h1
  by_cases hs:v ∈ s
  ·exact .inl hs
  ·exact .inr ⟨h1,hs⟩
theorem s7 {c:List Spx} {s:Spx} (hc:aN c=0) (hs:bP be s) (hne:e7 c s ≠ []):ez ((e7 c s).map fun t=>cC be (s ++ t))=bv c s:=by
 obtain ⟨c1,c2,c3,c4⟩:=a8 hc
 have hmem:∀ f,f ∈ (e7 c s).map (fun t=>cC be (s ++ t)) ↔ f ∈ bv c s:=fun f=>by
  rw [List.mem_map,cT]
  constructor
  ·rintro ⟨t,t1,rfl⟩
   obtain ⟨_,g,g1,g2,rfl⟩:=(fK hc).1 t1
   rw [nV (bz (c2 g g1)).2.2.1 g2]
   exact ⟨g1,g2⟩
  ·rintro ⟨f1,f2⟩
   refine ⟨f.filter fun v=>decide (v ∉ s),(fK hc).2 ⟨fun e=>hne ?_,f,f1,f2,rfl⟩,nV (bz (c2 f f1)).2.2.1 f2⟩
   have hfs:∀ v ∈ f,v ∈ s:=fun v hv=>Decidable.byContradiction fun h=>by
    have:v ∈ f.filter fun v=>decide (v ∉ s):=List.mem_filter.2 ⟨hv,decide_eq_true h⟩
    rw [e] at this; cases this
   refine List.eq_nil_iff_forall_not_mem.2 fun t ht=>?_
   obtain ⟨h0,g,g1,g2,rfl⟩:=(fK hc).1 ht
   have hfg:∀ v ∈ f,v ∈ g:=fun v hv=>g2 v (hfs v hv)
   by_cases e2:f=g
   ·subst e2; exact h0 e
   ·have hlt:=qQ (bz (c2 f f1)).2.2.1 (bz (c2 g g1)).2.2.1 hfg e2
    have:=c4 f f1
    rw [← Bool.not_eq_true] at this
    exact this (bm.2 ⟨g,g1,hlt,hfg⟩)
 rw [qs hmem,iY hc]
theorem va {c:List Spx} {s f:Spx} (hc:aN c=0) (hf:f ∈ c) (hs:bP be s) (hsf:∀ v ∈ s,v ∈ f) (h0:e7 c s=[]):bv c s=[s]:=by
 obtain ⟨c1,c2,c3,c4⟩:=a8 hc
 have hall:∀ g ∈ bv c s,g=s:=fun g hg=>by
  obtain ⟨g1,g2⟩:=cT.1 hg
  have e:g.filter (fun v=>decide (v ∉ s))=[]:=Decidable.byContradiction fun hne=>by
   have:=(fK hc).2 ⟨hne,g,g1,g2,rfl⟩
   rw [h0] at this; cases this
  refine eT kc (bz (c2 g g1)).2.2.1 hs fun v=>⟨fun hv=>Decidable.byContradiction fun h=>?_,g2 v⟩
  have:v ∈ g.filter fun v=>decide (v ∉ s):=List.mem_filter.2 ⟨hv,decide_eq_true h⟩
  rw [e] at this; cases this
 have hfm:=cT.2 ⟨hf,hsf⟩
 have hnd:(bv c s).Nodup:=bP.nodup nj (c3.sublist List.filter_sublist)
 have hfe:=hall f hfm
 rw [hfe] at hfm
 match hL:bv c s,hfm,hall,hnd with
 | [g],_,hall,_=>rw [hall g List.mem_cons_self]
 | g :: k :: l,_,hall,hnd =>
  have e1:=hall g List.mem_cons_self
  have e2:=hall k (List.mem_cons_of_mem _ List.mem_cons_self)
  rw [e1,e2] at hnd
  exact absurd List.mem_cons_self (List.nodup_cons.1 hnd).1
theorem rD {c:List Spx} {s:Spx} {v:Vtx} (hc:aN c=0) (hv:v ∈ s):ez (bv c [v] ++ bv c s)=bv c [v]:=by
 rw [← iY (s:=[v]) hc]
 refine (qs fun f=>?_).trans rfl
 rw [List.mem_append,iY hc]
 refine ⟨fun h=>h.elim id fun h=>?_,.inl⟩
 obtain ⟨h1,h2⟩:=cT.1 h
 exact cT.2 ⟨h1,fun w hw=>by rw [List.mem_singleton.1 hw]; exact h2 v hv⟩
end Go.Proofs.Ytpfkjcjgdilkkaa
namespace Go.Proofs.Ytpfkjcjgdilkkaa
open Go Go.Abs
theorem pJ {H:Hp} {r:AV} {l:List Spx} {b:Nat} (h:Row H 1 r (l.map aq)) (hb:H b=some [.esl]):cp r ≠ some b:=by
 generalize hcs:l.map aq=cs at h
 cases h with
 | nil=>exact fun e=>by cases e
 | box b' len cs k1 k2 =>
  intro e
  cases e
  rw [hb] at k1
  have e2:=Option.some.inj k1
  subst e2
  match l with
  | []=>simp at hcs
  | x :: l =>
   have e3:=(List.cons.inj hcs).1
   unfold aq e5 at e3
   cases e3
theorem dh {s:Spx} (h:bu s=0):bP be s∧s.length ≤ 1000000:=⟨(bz h).2.2.1,by have:=(bz h).2.1; omega⟩
theorem eM {c:List Spx} (h:aN c=0):∀ t ∈ c,Shn t:=fun t ht=>by have:=(bz ((a8 h).2.1 t ht)).2.1; show _ ≤ _; omega
attribute [local irreducible] aE ah aX aP aH aJ az aK aQ bf Go.Abs.Fn aM Go.Abs.Pure ap aD Yl
theorem rN (c:List Spx) (s:Spx) (hc:aN c=0) (hs:bu s=0):Pure Try.prog 16 [bH c,aq s] (.int .i64 0):=by
 refine Pure.of_c2 follows yI (Nat.le_of_ble_eq_true rfl) ?_
 simp only [b16,cO,cG,cN,cM,cD,cF,cB,ay,aO]
 have h1:=mJ c (show _ ≤ _ by have:=(a8 hc).1; omega) (eM hc)
 have h2:=mM s (show _ ≤ _ by have:=(dh hs).2; omega)
 rw [hc] at h1
 rw [hs] at h2
 have z0:decide ((0:Int) ≠ 0)=false:=rfl
 (have zz:=aI @aC (aI @au @z0); repeat' (first|refine zW ?_|apply a_n|refine zO ?_|refine vY ?_|refine cY ?_ (hp:=by first | exact h1 | exact h2) (hs:=by (first | refine aa ?_ rfl | apply ac); (repeat' (first | exact ab | apply ak | apply ae | exact bo _ | exact aB _)); first | done | fail)|refine bxY ?_|refine cFY ?_|refine af rfl ?_|refine r1Y ?_|fail)) <;> (try clear zz)
 exact .int _ _
theorem vQ (c:List Spx) (s:Spx) (hc:aN c=0) (hs:bu s=0) (hne:bv c s ≠ []):Pure Try.prog 6 [bH c,aq s] (.tup [bH (bv c s),.int .i64 0]):=by
 refine Pure.of_c2 follows is6 (Nat.le_of_ble_eq_true rfl) ?_
 simp only [b6,cO,cG,cN,cM,cD,cF,cB,ay,aO]
 have hpl:=rN c s hc hs
 have z0:decide ((0:Int) ≠ 0)=false:=rfl
 obtain ⟨c1,c2,c3,c4⟩:=a8 hc
 (have zz:=aI @aC (aI @au @z0); repeat' (first|refine zW ?_|apply a_n|refine zO ?_|refine vY ?_|refine cY ?_ (hp:=hpl) (hs:=by (first | refine aa ?_ rfl | apply ac); (repeat' (first | exact ab | apply ak | apply ae | exact bo _ | exact aB _)); first | done | fail)|refine alY ?_|refine bxY ?_|refine cFY ?_|fail)) <;> (try clear zz)
 refine aw ev0 ev0 (u9 c s (by omega) (fun t h=>dh (c2 t h)) (dh hs) _ _) ?_
 rintro r H1 nx1 ⟨r1,r2,r3⟩
 have g1:H1 1=some [.esl]:=(r2 1 (by omega)).trans aj
 have hst:=du (s:=s) hc
 have hsm:=iY (s:=s) hc
 have hco:=ec (bv c s) (by have:=(a8 hst).1; omega) (fun t ht=>by
  obtain ⟨p1,p2,p3,p4⟩:=bz ((a8 hst).2.1 t ht)
  exact ⟨p3,by omega,fun e=>by rw [e] at p1; simp at p1⟩)
 rw [hsm] at hco
 change Row H1 1 r ((bv c s).map aq) at r1
 have hpos:=List.length_pos_iff.2 hne
 generalize bv c s=L at *
 have hls:=r1.lenS (n:=L.length) (by rw [List.length_map,Nat.mul_one]) Nat.one_pos
 have z:decide ((L.length:Int)=0)=false:=decide_eq_false (by omega)
 have hb1:=pJ r1 g1
 obtain ⟨Hf,H4,hfz,hsn,hoth⟩:=u5 r1
 have g4:H4 1=some [.esl]:=(hoth 1 hb1).trans g1
 (have zz:=and_self; repeat' (first|apply a_n|refine zO ?_|refine vY ?_|fail)) <;> (try clear zz)
 refine cJ (cJ ?_)
 (have zz:=aI @hls @z; repeat' (first|apply a_n|refine zO ?_|refine vY ?_|refine cFY ?_|fail)) <;> (try clear zz)
 refine cJ ?_
 refine js Hf H4 [(4,.ptr 1 1 0),(7,av L)] hfz ⟨.inl rfl,.inr hsn,trivial⟩ ?_
 (have zz:=aI @g4 (aI @aC @au); repeat' (first|apply a_n|refine zO ?_|refine vY ?_|refine cY ?_ (hp:=hco) (hs:=by (first | refine aa ?_ rfl | apply ac); (repeat' (first | exact ab | apply ak | apply ae | exact bl _)); first | done | fail)|refine stY ?_|refine af rfl ?_|refine r2Y ?_|fail)) <;> (try clear zz)
 exact j7 (bl _).snap rfl
def szS (c:List Spx):Nat→Int × Bool
 | 0=>(-1,true)
 | k + 1=>(if (szS c k).1 < ((c.getD k default).length:Int) - 1 then ((c.getD k default).length:Int) - 1 else (szS c k).1,(szS c k).2 && (decide (k=0) || decide (((c.getD k default).length:Int) - 1=(szS c k).1)))
theorem uR {c:List Spx}:∀ {k:Nat},∀ i,i < k→((c.getD i default).length:Int) - 1 ≤ (szS c k).1
 | 0,i,h=>absurd h (by omega)
 | k + 1,i,h=>by
  unfold szS
  rcases Nat.lt_succ_iff_lt_or_eq.1 h with h | rfl
  ·have:=uR (c:=c) i h
   dsimp only; split <;> omega
  ·dsimp only; split <;> omega
theorem xy (c:List Spx) (hc:Shn c) (hs:∀ s ∈ c,Shn s):Pure Try.prog 13 [bH c] (.tup [.int .i64 (szS c c.length).1,.bool (szS c c.length).2]):=by
 refine Pure.of_c2 follows z8 (Nat.le_of_ble_eq_true rfl) ?_
 simp only [b13,cO,cG,cN,cM,cD,cF,cB,ay,aO]
 have hc':c.length ≤ 17592186044416:=hc
 (have zz:=aI @aC @au; repeat' (first|refine zW ?_|apply a_n|refine zO ?_|refine vY ?_|refine bxY ?_|fail)) <;> (try clear zz)
 refine aR (X:=Nat) (fun k=>[(1,.ptr 0 1 0),(4,.int .i64 (szS c k).1),(5,.bool (szS c k).2),(6,.int .i64 k)]) (fun k H nx=>k ≤ c.length∧H 0=some [av c]) (fun k=>c.length - k) 0 ⟨Nat.zero_le _,aj⟩ (by (iterate 4 refine And.intro rfl ?_); trivial) ?_
 rintro k H nx ⟨h1,g0⟩
 by_cases hk:k < c.length
 rotate_left
 ·obtain rfl:k=c.length:=by omega
  (have zz:=aI @g0 @ai; repeat' (first|refine zW ?_|apply a_n|apply a_x|refine zO ?_|refine vY ?_|(refine zGY ?_ ?_ <;> (intro _hg; try (exfalso; omega)))|refine af rfl ?_|refine r2Y ?_|fail)) <;> (try clear zz)
  exact jn (ax (.int _ _) (ax (.bool _) ab))
 have ix:=dZ hk
 have hsl:(c.getD k default).length ≤ 17592186044416:=hs _ (aU hk)
 have e:szS c (k + 1)=(if (szS c k).1 < ((c.getD k default).length:Int) - 1 then ((c.getD k default).length:Int) - 1 else (szS c k).1,(szS c k).2 && (decide (k=0) || decide (((c.getD k default).length:Int) - 1=(szS c k).1))):=rfl
 generalize c.getD k default=s at *
 generalize szS c k=P at *
 obtain ⟨m,p⟩:=P
 dsimp only at e ⊢
 by_cases hm:m < (s.length:Int) - 1
 ·have zm:decide (m < (s.length:Int) - 1)=true:=decide_eq_true hm
  rw [if_pos hm] at e
  cases p
  ·rw [Bool.false_and] at e
   (have zz:=aI @g0 (aI @ix (aI @ai (aI @an @zm))); repeat' (first|refine zW ?_|apply a_n|refine zO ?_|refine vY ?_|refine gFY ?_|refine cTY ?_|(refine zGY ?_ ?_ <;> (intro _hg; try (exfalso; omega)))|fail)) <;> (try clear zz)
   exact ⟨k + 1,by omega,⟨by omega,g0⟩,by rw [e]; (iterate 4 refine And.intro rfl ?_); trivial⟩
  ·rw [Bool.true_and] at e
   by_cases hk0:k=0
   ·have zk:decide ((k:Int)=0)=true:=decide_eq_true (by omega)
    rw [decide_eq_true hk0,Bool.true_or] at e
    (have zz:=aI @g0 (aI @ix (aI @ai (aI @an (aI @zm @zk)))); repeat' (first|refine zW ?_|apply a_n|refine zO ?_|refine vY ?_|refine gTY ?_|refine gFY ?_|refine cTY ?_|(refine zGY ?_ ?_ <;> (intro _hg; try (exfalso; omega)))|fail)) <;> (try clear zz)
    exact ⟨k + 1,by omega,⟨by omega,g0⟩,by rw [e]; (iterate 4 refine And.intro rfl ?_); trivial⟩
   ·have zk:decide ((k:Int)=0)=false:=decide_eq_false (by omega)
    rw [decide_eq_false hk0,Bool.false_or] at e
    (have zz:=aI @g0 (aI @ix (aI @ai (aI @an (aI @zm @zk)))); repeat' (first|refine zW ?_|apply a_n|refine zO ?_|refine vY ?_|refine gTY ?_|refine cTY ?_|(refine zGY ?_ ?_ <;> (intro _hg; try (exfalso; omega)))|fail)) <;> (try clear zz)
    exact ⟨k + 1,by omega,⟨by omega,g0⟩,by rw [e]; (iterate 4 refine And.intro rfl ?_); trivial⟩
 ·have zm:decide (m < (s.length:Int) - 1)=false:=decide_eq_false hm
  rw [if_neg hm] at e
  cases p
  ·rw [Bool.false_and] at e
   (have zz:=aI @g0 (aI @ix (aI @ai (aI @an @zm))); repeat' (first|refine zW ?_|apply a_n|refine zO ?_|refine vY ?_|refine gFY ?_|refine cFY ?_|(refine zGY ?_ ?_ <;> (intro _hg; try (exfalso; omega)))|fail)) <;> (try clear zz)
   exact ⟨k + 1,by omega,⟨by omega,g0⟩,by rw [e]; (iterate 4 refine And.intro rfl ?_); trivial⟩
  ·rw [Bool.true_and] at e
   by_cases hk0:k=0
   ·have zk:decide ((k:Int)=0)=true:=decide_eq_true (by omega)
    rw [decide_eq_true hk0,Bool.true_or] at e
    (have zz:=aI @g0 (aI @ix (aI @ai (aI @an (aI @zm @zk)))); repeat' (first|refine zW ?_|apply a_n|refine zO ?_|refine vY ?_|refine gTY ?_|refine gFY ?_|refine cFY ?_|(refine zGY ?_ ?_ <;> (intro _hg; try (exfalso; omega)))|fail)) <;> (try clear zz)
    exact ⟨k + 1,by omega,⟨by omega,g0⟩,by rw [e]; (iterate 4 refine And.intro rfl ?_); trivial⟩
   ·have zk:decide ((k:Int)=0)=false:=decide_eq_false (by omega)
    rw [decide_eq_false hk0,Bool.false_or] at e
    (have zz:=aI @g0 (aI @ix (aI @ai (aI @an (aI @zm @zk)))); repeat' (first|refine zW ?_|apply a_n|refine zO ?_|refine vY ?_|refine gTY ?_|refine cFY ?_|(refine zGY ?_ ?_ <;> (intro _hg; try (exfalso; omega)))|fail)) <;> (try clear zz)
    exact ⟨k + 1,by omega,⟨by omega,g0⟩,by rw [e]; (iterate 4 refine And.intro rfl ?_); trivial⟩
def uO (c:List Spx):Bool:=gX c && decide (aN c=0) && decide (c.length ≤ 12) && decide ((szS c c.length).1 ≤ 3)
theorem u4 {c:List Spx} (h:uO c=true):gX c=true∧aN c=0∧c.length ≤ 12∧∀ s ∈ c,s.length ≤ 4:=by
 unfold uO at h
 simp only [Bool.and_eq_true,decide_eq_true_eq] at h
 refine ⟨h.1.1.1,h.1.1.2,h.1.2,fun s hs=>?_⟩
 obtain ⟨i,hi,e⟩:=List.getElem_of_mem hs
 have:=uR (c:=c) i hi
 rw [show c.getD i default=s by simp [List.getD,hi,e]] at this
 omega
theorem xu (c:List Spx) (hc:Shn c∧∀ s ∈ c,Shn s):Pure Try.prog 5 [bH c] (.bool (uO c)):=by
 refine Pure.of_c2 follows is5 (Nat.le_of_ble_eq_true rfl) ?_
 simp only [b5,cO,cG,cN,cM,cD,cF,cB,ay,aO]
 have hc':c.length ≤ 17592186044416:=hc.1
 have h1:=xy c hc.1 hc.2
 have h2:=vW c hc.1 hc.2
 have h3:=we c hc.1 hc.2
 unfold uO
 generalize szS c c.length=P at *
 obtain ⟨m,p⟩:=P
 dsimp only at h1 ⊢
 cases hf:gX c
 ·rw [hf] at h2
  (have zz:=aI @aC @au; repeat' (first|refine zW ?_|apply a_n|refine zO ?_|refine vY ?_|refine cY ?_ (hp:=by first | exact h1 | exact h2 | exact h3) (hs:=by (first | refine aa ?_ rfl | apply ac); (repeat' (first | exact ab | apply ak | apply ae | exact bo _)); first | done | fail)|refine bxY ?_|refine gFY ?_|refine af rfl ?_|refine r1Y ?_|fail)) <;> (try clear zz)
  exact .bool _
 rw [hf] at h2
 by_cases he:aN c=0
 rotate_left
 ·have z:decide (aN c=0)=false:=decide_eq_false he
  rw [z]
  (have zz:=aI @aC (aI @au @z); repeat' (first|refine zW ?_|apply a_n|refine zO ?_|refine vY ?_|refine cY ?_ (hp:=by first | exact h1 | exact h2 | exact h3) (hs:=by (first | refine aa ?_ rfl | apply ac); (repeat' (first | exact ab | apply ak | apply ae | exact bo _)); first | done | fail)|refine bxY ?_|refine gTY ?_|refine gFY ?_|refine af rfl ?_|refine r1Y ?_|fail)) <;> (try clear zz)
  exact .bool _
 rw [he] at h3
 rw [decide_eq_true he]
 have z0:decide ((0:Int)=0)=true:=rfl
 by_cases hl:c.length ≤ 12
 rotate_left
 ·have z:decide ((c.length:Int) ≤ 12)=false:=decide_eq_false (by omega)
  rw [decide_eq_false hl]
  (have zz:=aI @aC (aI @au (aI @ai (aI @z @z0))); repeat' (first|refine zW ?_|apply a_n|refine zO ?_|refine vY ?_|refine cY ?_ (hp:=by first | exact h1 | exact h2 | exact h3) (hs:=by (first | refine aa ?_ rfl | apply ac); (repeat' (first | exact ab | apply ak | apply ae | exact bo _)); first | done | fail)|refine bxY ?_|refine gTY ?_|refine gFY ?_|(refine zGY ?_ ?_ <;> (intro _hg; try (exfalso; omega)))|refine af rfl ?_|refine r1Y ?_|fail)) <;> (try clear zz)
  exact .bool _
 have z:decide ((c.length:Int) ≤ 12)=true:=decide_eq_true (by omega)
 rw [decide_eq_true hl]
 (have zz:=aI @aC (aI @au (aI @ai (aI @z @z0))); repeat' (first|refine zW ?_|apply a_n|refine zO ?_|refine vY ?_|refine cY ?_ (hp:=by first | exact h1 | exact h2 | exact h3) (hs:=by (first | refine aa ?_ rfl | apply ac); (repeat' (first | exact ab | apply ak | apply ae | exact bo _)); first | done | fail)|refine bxY ?_|refine gTY ?_|(refine zGY ?_ ?_ <;> (intro _hg; try (exfalso; omega)))|refine af rfl ?_|refine r1Y ?_|fail)) <;> (try clear zz)
 exact bF (by simp)
end Go.Proofs.Ytpfkjcjgdilkkaa
namespace Go.Proofs.Ytpfkjcjgdilkkaa
open Go Go.Abs
open Nat (reduceEqDiff reduceAdd reduceLeDiff)
section
variable {P:Program} {T:Tm} {H:Hp} {nx:Nat}
theorem x6 {dm:DM} {K:SP} {l:List Op2} {d:Option Nat} {sz bytes:Nat} {z:List AV} {s x:Opd} {k:IntKind} {n:Int} (hd:dm2 dm T (.apz sz bytes z s x)=true) (hs:ov T s=.esl) (hx:ov T x=.int k n) (h0:0 < n) (h1:n ≤ 9223372036854775807) (h2:n.toNat * bytes ≤ 140737488355328)
    (kk:ah P dm l (aG T d (.msl nx (n.toNat * sz) sz 0 n.toNat)) (ag H nx (a7 (.agg z) n.toNat)) (nx + 1) K):ah P dm (⟨d,none,.apz sz bytes z s x⟩ :: l) T H nx K:=by
 refine jp rfl hd ?_ kk
 simp only [ee,hs,hx]
 rw [if_pos ⟨h0,h1,h2⟩]
end
theorem sa (T:Tm) (H:Hp) (x:Opd):aZ T H (.capE x)=match ov T x with | .esl=>some (.int .i64 0) | _=>none:=rfl
theorem v6 (n:Nat):(a7 (.agg [.int .i64 0,.int .i64 0]) n).length=n * 2:=by simp [a7,AV.cells]
attribute [local irreducible] aE ah aX aP aH aJ az aK aQ bf Go.Abs.Fn aM Go.Abs.Pure ap aD Yl
theorem vT (n:Nat) (h0:0 < n) (h1:n ≤ 1000000) (H:Hp) (nx:Nat):Abs.Fn Try.prog 66 [.esl,.int .i64 n] H nx fun r H' nx'=>r=.msl nx (n * 2) 2 0 0∧H'=ag H nx (a7 (.agg [.int .i64 0,.int .i64 0]) n)∧nx'=nx + 1:=by
 refine Abs.Fn.of_c2 follows zC (Nat.le_of_ble_eq_true rfl) ?_
 simp only [b66,cO,cG,cN,cM,cD,cF,cB,ay,aO]
 have z1:decide ((n:Int) < 0)=false:=decide_eq_false (by omega)
 have z2:decide ((0:Int) < n)=true:=decide_eq_true (by omega)
 have s2:iA 2 .esl none (some (.int .i64 0)) none=some .esl:=rfl
 have s3:=lW (B:=nx) (n:=n * 2) (len:=n) (k:=0) (by omega) (by omega)
 rw [show ((0:Nat):Int)=0 from rfl] at s3
 (have zz:=aI @z1 (aI @z2 (aI @s2 (aI @Int.sub_zero (aI @Int.sub_self @sa)))); repeat' (first|refine zW ?_|apply a_n|refine zO ?_|refine vY ?_|refine cTY ?_|refine cFY ?_|fail)) <;> (try clear zz)
 refine x6 rfl (have zz:=@s2; evY) ev0 (by omega) (by omega) (by omega) ?_
 (have zz:=@s3; repeat' (first|refine zW ?_|apply a_n|refine zO ?_|refine vY ?_|refine af rfl ?_|refine r1Y ?_|fail)) <;> (try clear zz)
 exact ⟨rfl,rfl,rfl⟩
theorem wB (H:Hp) (nx:Nat):Abs.Fn Try.prog 66 [.esl,.int .i64 0] H nx fun r H' nx'=>r=.esl∧H'=H∧nx'=nx:=by
 refine Abs.Fn.of_c2 follows zC (Nat.le_of_ble_eq_true rfl) ?_
 simp only [b66,cO,cG,cN,cM,cD,cF,cB,ay,aO]
 (have zz:=aI @Int.sub_zero (aI @Int.sub_self @sa); repeat' (first|refine zW ?_|apply a_n|refine zO ?_|refine vY ?_|(refine zGY ?_ ?_ <;> (intro _hg; try (exfalso; omega)))|refine af rfl ?_|refine r1Y ?_|fail)) <;> (try clear zz)
 exact ⟨rfl,rfl,rfl⟩
theorem oP {c:List Spx} {k:Nat} (hk:k < c.length):(c.take (k + 1)).flatten=(c.take k).flatten ++ c.getD k default:=by
 rw [bV hk,List.flatten_append]; simp
theorem sS (c:List Spx) (h0:c ≠ []) (hs:∀ s ∈ c,s ≠ []) (hl:c.flatten.length ≤ 1000000) (hc:c.length ≤ 1000000) (H:Hp) (nx:Nat) :
    Abs.Fn Try.prog 48 [av c] H nx fun r H' nx'=>r=.msl nx (c.flatten.length * 2) 2 0 c.flatten.length∧H'=ag H nx (cX c.flatten)∧nx'=nx + 1:=by
 refine Abs.Fn.of_c2 follows zK (Nat.le_of_ble_eq_true rfl) ?_
 simp only [b48,cO,cG,cN,cM,cD,cF,cB,ay,aO]
 have hpos:0 < c.flatten.length:=by
  rw [List.length_pos_iff]
  intro e
  obtain ⟨s,hm⟩:=List.exists_mem_of_ne_nil c h0
  exact hs s hm (List.flatten_eq_nil_iff.1 e s hm)
 have hle:∀ k,(c.take k).flatten.length ≤ c.flatten.length:=fun k=>by
  have:c.flatten=(c.take k).flatten ++ (c.drop k).flatten:=by rw [← List.flatten_append,List.take_append_drop]
  rw [this,List.length_append]; omega
 refine cJ ?_
 (have zz:=and_self; repeat' (first|apply a_n|refine zO ?_|refine vY ?_|fail)) <;> (try clear zz)
 refine cJ ?_
 (have zz:=and_self; repeat' (first|apply a_n|refine zO ?_|refine vY ?_|fail)) <;> (try clear zz)
 refine aW (fun T H' nx'=>T 0=av c∧T 3=.int .i64 (c.flatten.length:Nat)∧H=H'∧nx=nx') ?_ ?_
 ·(have zz:=@ai; repeat' (first|refine zW ?_|apply a_n|refine zO ?_|refine vY ?_|fail)) <;> (try clear zz)
  refine wZ (X:=Nat) (fun k=>[(0,av c),(3,.int .i64 ((c.take k).flatten.length:Nat)),(9,av c),(10,.int .i64 c.length),(11,.int .i64 (k:Nat))]) (fun k=>k ≤ c.length) (fun k=>c.length - k) 0 (by omega) (by simp (disch:=omega) only [agr,ZG,reduceEqDiff,↓reduceIte,List.take_zero,List.flatten_nil,List.length_nil] <;> simp) ?_
  intro k hk
  by_cases hk2:k < c.length
  rotate_left
  ·rw [List.take_of_length_le (by omega)]
   (have zz:=and_self; repeat' (first|refine zW ?_|apply a_n|apply a_x|refine zO ?_|refine vY ?_|(refine zGY ?_ ?_ <;> (intro _hg; try (exfalso; omega)))|fail)) <;> (try clear zz)
   exact ⟨rfl,rfl,rfl,rfl⟩
  have ix:=dZ hk2
  have hle2:=hle (k + 1)
  have e:(((c.take (k + 1)).flatten.length:Nat):Int)=((c.take k).flatten.length:Nat) + ((c.getD k default).length:Nat):=by rw [oP hk2,List.length_append]; omega
  rw [oP hk2,List.length_append] at hle2
  have z:decide ((((c.take k).flatten.length:Nat):Int) + ((c.getD k default).length:Nat) < 0)=false:=decide_eq_false (by omega)
  generalize c.getD k default=s at *
  (have zz:=aI @ix (aI @an @z); repeat' (first|refine zW ?_|apply a_n|refine zO ?_|refine vY ?_|refine cFY ?_|(refine zGY ?_ ?_ <;> (intro _hg; try (exfalso; omega)))|fail)) <;> (try clear zz)
  exact ⟨k + 1,by omega,by omega,(have zz:=@e; agZ),rfl,rfl⟩
 rintro T _ _ ⟨t0,t3,rfl,rfl⟩
 (have zz:=@t3; repeat' (first|refine zW ?_|apply a_n|refine zO ?_|refine vY ?_|fail)) <;> (try clear zz)
 refine aw ev0 (have zz:=@t3; evY) (vT c.flatten.length (by omega) (by omega) H nx) ?_
 rintro _ _ _ ⟨rfl,rfl,rfl⟩
 (have zz:=aI @t0 @ai; repeat' (first|refine zW ?_|apply a_n|refine zO ?_|refine vY ?_|fail)) <;> (try clear zz)
 refine aR (X:=Nat) (fun k=>[(6,.msl nx (c.flatten.length * 2) 2 0 (c.take k).flatten.length),(25,av c),(26,.int .i64 c.length),(27,.int .i64 (k:Nat))]) (fun k H' nx'=>k ≤ c.length∧(∃ C,H'=ag H nx C∧C.length=c.flatten.length * 2∧C.take ((c.take k).flatten.length * 2)=cX (c.take k).flatten)∧nx'=nx + 1) (fun k=>c.length - k) 0 ⟨by omega,⟨_,rfl,v6 _,rfl⟩,rfl⟩ (by simp (disch:=omega) only [agr,ZG,reduceEqDiff,↓reduceIte,List.take_zero,List.flatten_nil,List.length_nil]) ?_
 rintro k _ _ ⟨hk,⟨C,rfl,h1,h2⟩,rfl⟩
 by_cases hk2:k < c.length
 rotate_left
 ·have ek:c.take k=c:=List.take_of_length_le (by omega)
  rw [ek] at h2 ⊢
  rw [List.take_of_length_le (by omega)] at h2
  subst h2
  (have zz:=and_self; repeat' (first|refine zW ?_|apply a_n|apply a_x|refine zO ?_|refine vY ?_|(refine zGY ?_ ?_ <;> (intro _hg; try (exfalso; omega)))|refine af rfl ?_|refine r1Y ?_|fail)) <;> (try clear zz)
  exact ⟨rfl,rfl,rfl⟩
 have ix:=dZ hk2
 have hle2:=hle (k + 1)
 have e:=oP hk2
 have hsp:0 < (c.getD k default).length:=List.length_pos_iff.2 (hs _ (aU hk2))
 rw [e,List.length_append] at hle2
 have hcl:=eW (c.getD k default)
 have hcp:=eW (c.take k).flatten
 generalize c.getD k default=s at *
 (have zz:=@ix; repeat' (first|refine zW ?_|apply a_n|refine zO ?_|refine vY ?_|(refine zGY ?_ ?_ <;> (intro _hg; try (exfalso; omega)))|fail)) <;> (try clear zz)
 refine xK (b:=nx) (m:=c.flatten.length * 2) (off:=0) (len:=(c.take k).flatten.length) (n:=s.length) (cs:=C) rfl ev0 aj ev0 uz (og _) h1 (fun _=>by omega) (by omega) (by omega) ?_
 (have zz:=and_self; repeat' (first|apply a_n|refine zO ?_|refine vY ?_|fail)) <;> (try clear zz)
 refine ⟨k + 1,by omega,⟨by omega,⟨_,am _ _ _ _,?_,?_⟩,rfl⟩,by simp (disch:=omega) only [agr,ZG,reduceEqDiff,↓reduceIte,e,List.length_append]⟩
 ·simp only [bg,List.length_append,List.length_take,List.length_drop,hcl,h1]
  omega
 ·rw [e,jw,List.length_append,← h2]
  simp only [bg,Nat.zero_add]
  rw [List.take_append_of_le_length (by rw [List.length_append,List.length_take,h1,hcl]; omega),List.take_of_length_le (by rw [List.length_append,List.length_take,h1,hcl]; omega)]
theorem s6 (H:Hp) (nx:Nat):Abs.Fn Try.prog 48 [av []] H nx fun r H' nx'=>r=.esl∧H'=H∧nx'=nx:=by
 refine Abs.Fn.of_c2 follows zK (Nat.le_of_ble_eq_true rfl) ?_
 simp only [b48,cO,cG,cN,cM,cD,cF,cB,ay,aO]
 have hal:cg (av [])=some (.int .i64 0):=rfl
 (have zz:=@hal; repeat' (first|refine zW ?_|apply a_n|refine zO ?_|refine vY ?_|fail)) <;> (try clear zz)
 refine aR (X:=Unit) (fun _=>[(0,av []),(3,.int .i64 0),(9,av []),(10,.int .i64 0),(11,.int .i64 0)]) (fun _ H' nx'=>H'=H∧nx'=nx) (fun _=>0) () ⟨rfl,rfl⟩ ag0 ?_
 rintro _ _ _ ⟨rfl,rfl⟩
 (have zz:=and_self; repeat' (first|refine zW ?_|apply a_n|apply a_x|refine zO ?_|refine vY ?_|(refine zGY ?_ ?_ <;> (intro _hg; try (exfalso; omega)))|fail)) <;> (try clear zz)
 refine aw ev0 ev0 (wB _ _) ?_
 rintro _ Ha na ⟨rfl,rfl,rfl⟩
 (have zz:=@hal; repeat' (first|refine zW ?_|apply a_n|refine zO ?_|refine vY ?_|fail)) <;> (try clear zz)
 refine aR (X:=Unit) (fun _=>[(6,.esl),(25,av []),(26,.int .i64 0),(27,.int .i64 0)]) (fun _ H1 nx1=>H1=Ha∧nx1=na) (fun _=>0) () ⟨rfl,rfl⟩ ag0 ?_
 rintro _ _ _ ⟨rfl,rfl⟩
 (have zz:=and_self; repeat' (first|refine zW ?_|apply a_n|apply a_x|refine zO ?_|refine vY ?_|(refine zGY ?_ ?_ <;> (intro _hg; try (exfalso; omega)))|refine af rfl ?_|refine r1Y ?_|fail)) <;> (try clear zz)
 exact ⟨rfl,rfl,rfl⟩
theorem um {v w:Vtx}:bw [v] [w]=be v w:=by
 rw [sJ]
 split
 ·rfl
 ·rename_i h
  have:=Decidable.of_not_not h
  rw [this]; rfl
theorem ui (v w:Vtx):Pure Try.prog 50 [bC v,bC w] (.int .i64 (be v w)):=by
 refine Pure.of_c2 follows Ab (Nat.le_of_ble_eq_true rfl) ?_
 simp only [b50,cO,cG,cN,cM,cD,cF,cB,ay,aO]
 have hc:=gZ [v] [w] (show 1 ≤ _ by omega) (show 1 ≤ _ by omega)
 rw [um] at hc
 (have zz:=and_self; repeat' (first|refine zW ?_|apply a_n|refine zO ?_|refine vY ?_|refine bxY ?_|refine blY ?_|fail)) <;> (try clear zz)
 refine dp ev0 ev0 hc (aa (ax (pd (Row.box 2 1 (cX [v]) ?_ rfl)) (ax (pd (Row.box 3 1 (cX [w]) ?_ rfl)) ab)) rfl) ?_
 ·rw [ao (by omega),aj]; rfl
 ·rw [aj]; rfl
 (have zz:=and_self; repeat' (first|apply a_n|refine zO ?_|refine vY ?_|refine af rfl ?_|refine r1Y ?_|fail)) <;> (try clear zz)
 exact .int _ _
theorem yq:Cmp2 Try.prog bC be (fun _=>True) 50 [] where
 len _:=rfl
 agg _:=rfl
 ones _:=rfl
 dat x:=bD x
 dcaps x hx:=by cases hx
 run x y _ _:=ui x y
 ord:=kc.ord
theorem rC (H:Hp) (nx:Nat):Abs.Fn Try.prog 51 [.esl] H nx fun r H' nx'=>r=.esl∧H'=H∧nx'=nx:=by
 refine Abs.Fn.of_c2 follows xd (Nat.le_of_ble_eq_true rfl) ?_
 simp only [b51,cO,cG,cN,cM,cD,cF,cB,ay,aO]
 (have zz:=and_self; repeat' (first|refine zW ?_|apply a_n|apply a_r|refine zO ?_|refine vY ?_|(refine zGY ?_ ?_ <;> (intro _hg; try (exfalso; omega)))|refine af rfl ?_|refine r1Y ?_|fail)) <;> (try clear zz)
 exact ⟨rfl,rfl,rfl⟩
theorem mi (c:List Spx) (hs:∀ s ∈ c,s ≠ []) (hl:c.flatten.length ≤ 100000) (hc:c.length ≤ 100000):Pure Try.prog 25 [av c] (aq (cC be c.flatten)):=by
 refine Pure.of_c2 follows Ac (Nat.le_of_ble_eq_true rfl) ?_
 simp only [b25,cO,cG,cN,cM,cD,cF,cB,ay,aO]
 by_cases h0:c=[]
 ·subst h0
  (have zz:=and_self; repeat' (first|refine zW ?_|apply a_n|refine zO ?_|refine vY ?_|fail)) <;> (try clear zz)
  refine aw ev0 ev0 (s6 _ _) ?_
  rintro _ _ _ ⟨rfl,rfl,rfl⟩
  (have zz:=and_self; repeat' (first|refine zW ?_|apply a_n|refine zO ?_|refine vY ?_|fail)) <;> (try clear zz)
  refine aw ev0 ev0 uB ?_
  rintro _ _ _ ⟨rfl,rfl⟩
  (have zz:=and_self; repeat' (first|refine zW ?_|apply a_n|refine zO ?_|refine vY ?_|fail)) <;> (try clear zz)
  refine aw ev0 ev0 (rC _ _) ?_
  rintro _ _ _ ⟨rfl,rfl,rfl⟩
  (have zz:=and_self; repeat' (first|apply a_n|refine zO ?_|refine vY ?_|refine af rfl ?_|refine r1Y ?_|fail)) <;> (try clear zz)
  exact .eslsl 2
 have hpos:0 < c.flatten.length:=by
  rw [List.length_pos_iff]
  intro e
  obtain ⟨s,hm⟩:=List.exists_mem_of_ne_nil c h0
  exact hs s hm (List.flatten_eq_nil_iff.1 e s hm)
 (have zz:=and_self; repeat' (first|refine zW ?_|apply a_n|refine zO ?_|refine vY ?_|fail)) <;> (try clear zz)
 refine aw ev0 ev0 (sS c h0 hs (by omega) (by omega) _ _) ?_
 rintro _ _ _ ⟨rfl,rfl,rfl⟩
 generalize c.flatten=M at *
 (have zz:=and_self; repeat' (first|refine zW ?_|apply a_n|refine zO ?_|refine vY ?_|fail)) <;> (try clear zz)
 refine aw ev0 ev0 (vU yq (L:=M) (b:=0) (n:=M.length) aj (by omega) rfl hpos (fun _ _=>trivial) (by omega)) ?_
 rintro _ H3 nx3 ⟨L,ps,hperm,hsort⟩
 have hLl:L.length=M.length:=hperm.length_eq
 have hL0:L ≠ []:=fun e=>by rw [e] at hLl; simp at hLl; omega
 have hB3:H3 0=some (cX L):=ps.at_
 rw [← hLl]
 (have zz:=and_self; repeat' (first|refine zW ?_|apply a_n|refine zO ?_|refine vY ?_|fail)) <;> (try clear zz)
 refine aw ev0 ev0 (qT L (show _ ≤ _ by omega) hL0 H3 0 nx3 hB3 (by have:=ps.le; omega)) ?_
 rintro _ H4 nx4 ⟨rfl,⟨C,rfl,c1,c2⟩,rfl⟩
 have hd:cR L L.length=cC be M:=nU kc hperm (by rw [hLl]; exact hsort)
 rw [hd] at c2
 have hle:=ql L L.length
 have hdl:=nH L L.length
 rw [hd] at hdl
 (have zz:=and_self; repeat' (first|apply a_n|refine zO ?_|refine vY ?_|refine af rfl ?_|refine r1Y ?_|fail)) <;> (try clear zz)
 exact rf aj c1 (by omega) hdl c2
end Go.Proofs.Ytpfkjcjgdilkkaa
namespace Go.Proofs.Ytpfkjcjgdilkkaa
open Go Go.Abs
theorem rX {H:Hp} {s:AV} {l:Spx} (h:Row H 2 s (cX l)):∃ Hf H',Fz Hf H H'∧Snap Hf s (aq l)∧∀ x,cp s ≠ some x→H' x=H x:=by
 generalize hcs:cX l=cs at h
 cases h with
 | nil =>
  have:l=[]:=by
   have:=eW l
   rw [hcs] at this
   exact List.length_eq_zero_iff.1 (by simp at this; omega)
  subst this
  exact ⟨aY,H,Fz.none,.eslsl 2,fun _ _=>rfl⟩
 | box b len cs k1 k2 =>
  refine ⟨only b cs,bI H b,Fz.one k1,pd (by rw [hcs]; exact Row.box b len cs fk k2),fun x hx=>eO (fun e=>hx (by rw [e]; rfl))⟩
attribute [local irreducible] aE ah aX aP aH aJ az aK aQ bf Go.Abs.Fn aM Go.Abs.Pure ap aD Yl
theorem sV (l:Spx) (p:Vtx→Bool) (g:Nat) (caps caps':List AV) (hl:l.length ≤ 1000000) (H:Hp) (nx:Nat) (hcap:∀ H':Hp,(∀ x,x < nx→H' x=H x)→aD H' caps caps') (hg:∀ x ∈ l,Pure Try.prog g (bC x :: caps') (.bool (p x))) :
    Abs.Fn Try.prog 46 [aq l,.func g caps] H nx fun r H' nx'=>Row H' 2 r (cX (l.filter p))∧(∀ x,x < nx→H' x=H x)∧nx ≤ nx'∧∀ d,cp r=some d→nx ≤ d∧d < nx':=by
 refine Abs.Fn.of_c2 follows yf (Nat.le_of_ble_eq_true rfl) ?_
 simp only [b46,cO,cG,cN,cM,cD,cF,cB,ay,aO]
 (have zz:=@an; repeat' (first|refine zW ?_|apply a_n|refine zO ?_|refine vY ?_|fail)) <;> (try clear zz)
 refine aR (X:=Nat × AV) (fun x=>[(1,.func g caps),(5,x.2),(8,aq l),(9,.int .i64 l.length),(10,.int .i64 x.1)]) (fun x H' nx'=>x.1 ≤ l.length∧nx ≤ nx'∧(∀ y,y < nx→H' y=H y)∧Row H' 2 x.2 (cX ((l.take x.1).filter p))∧∀ b,cp x.2=some b→nx ≤ b∧b < nx') (fun x=>l.length - x.1) (0,.esl) ⟨Nat.zero_le _,Nat.le_refl _,fun _ _=>rfl,Row.nil,fun b h=>(by cases h)⟩ (by (iterate 5 refine And.intro rfl ?_); trivial) ?_
 rintro ⟨k,sv⟩ H1 nx1 ⟨h1,h2,h3,hrow,hbd⟩
 dsimp only at h1 hrow hbd ⊢
 obtain ⟨o1,o2⟩:=hrow.one
 by_cases hk:k < l.length
 rotate_left
 ·rw [List.take_of_length_le (by omega)] at hrow
  (have zz:=aI @o1 @o2; repeat' (first|refine zW ?_|apply a_n|apply a_x|refine zO ?_|refine vY ?_|(refine zGY ?_ ?_ <;> (intro _hg; try (exfalso; omega)))|refine af rfl ?_|refine r1Y ?_|fail)) <;> (try clear zz)
  exact ⟨hrow,h3,h2,hbd⟩
 have ix:=ix2 hk
 have hp:=hg _ (aU hk)
 have hft:(l.take (k + 1)).filter p=(l.take k).filter p ++ if p (l.getD k default)=true then [l.getD k default] else []:=by
  rw [bV hk,List.filter_append]
  cases h:p (l.getD k default)
  ·rw [List.filter_cons_of_neg (by rw [h]; decide),List.filter_nil,if_neg (by decide)]
  ·rw [List.filter_cons_of_pos h,List.filter_nil,if_pos rfl]
 have hcl:=eW ((l.take k).filter p)
 have hfl:((l.take k).filter p).length ≤ l.length:=Nat.le_trans (List.length_filter_le _ _) (by rw [List.length_take]; omega)
 generalize l.getD k default=v at *
 (have zz:=@ix; repeat' (first|refine zW ?_|apply a_n|refine zO ?_|refine vY ?_|refine alY ?_|refine stY ?_|(refine zGY ?_ ?_ <;> (intro _hg; try (exfalso; omega)))|fail)) <;> (try clear zz)
 refine dp ev0 ev0 hp (aa (ax (bD _ _) (hcap _ fun x hx=>by (repeat rw [ao (by omega)]); exact h3 x hx)) rfl) ?_
 cases hpv:p v
 ·rw [hpv,if_neg (by decide),List.append_nil] at hft
  (have zz:=aI @o1 @o2; repeat' (first|apply a_n|refine zO ?_|refine vY ?_|refine cFY ?_|fail)) <;> (try clear zz)
  refine ⟨(k + 1,sv),by dsimp only; omega,⟨by dsimp only; omega,by omega,fun y hy=>by (repeat rw [ao (by omega)]); exact h3 y hy,by dsimp only; rw [hft]; exact hrow.same fun b hb=>by have:=hbd b hb; (repeat rw [ao (by omega)]),fun b hb=>by have:=hbd b hb; omega⟩,ag0⟩
 ·rw [hpv,if_pos rfl] at hft
  (have zz:=aI @o1 @o2; repeat' (first|apply a_n|refine zO ?_|refine vY ?_|refine blY ?_|refine cTY ?_|fail)) <;> (try clear zz)
  refine gn rfl ev0 (hrow.same fun b hb=>?_) ev0 nG rfl rfl (by omega) (by omega) (by omega) ?_
  ·have:=hbd b hb; (repeat rw [ao (by omega)])
  rintro s2 H2 nx2 hr2 i1 i2 i3 i4
  obtain ⟨o3,o4⟩:=hr2.one
  (have zz:=aI @o3 @o4; repeat' (first|apply a_n|refine zO ?_|refine vY ?_|fail)) <;> (try clear zz)
  refine ⟨(k + 1,s2),by dsimp only; omega,⟨by dsimp only; omega,by omega,fun y hy=>?_,?_,fun b hb=>?_⟩,ag0⟩
  ·rw [i3 y (by omega) (fun h=>by have:=hbd _ h; omega)]; (repeat rw [ao (by omega)]); exact h3 y hy
  ·dsimp only
   rw [hft,jw]; exact hr2
  ·rcases i4 b hb with h | h
   ·have:=hbd b h; omega
   ·omega
theorem rH (l:List Spx) (p:Spx→Bool) (g:Nat) (caps caps':List AV) (hl:l.length ≤ 1000000) (H:Hp) (nx:Nat) (hcap:∀ H':Hp,(∀ x,x < nx→H' x=H x)→aD H' caps caps') (hg:∀ x ∈ l,Pure Try.prog g (aq x :: caps') (.bool (p x))) :
    Abs.Fn Try.prog 38 [av l,.func g caps] H nx fun r H' nx'=>Row H' 1 r ((l.filter p).map aq)∧(∀ x,x < nx→H' x=H x)∧nx ≤ nx'∧∀ d,cp r=some d→nx ≤ d∧d < nx':=by
 refine Abs.Fn.of_c2 follows xb (Nat.le_of_ble_eq_true rfl) ?_
 simp only [b38,cO,cG,cN,cM,cD,cF,cB,ay,aO]
 (have zz:=@ai; repeat' (first|refine zW ?_|apply a_n|refine zO ?_|refine vY ?_|fail)) <;> (try clear zz)
 refine aR (X:=Nat × AV) (fun x=>[(1,.func g caps),(5,x.2),(8,av l),(9,.int .i64 l.length),(10,.int .i64 x.1)]) (fun x H' nx'=>x.1 ≤ l.length∧nx ≤ nx'∧(∀ y,y < nx→H' y=H y)∧Row H' 1 x.2 (((l.take x.1).filter p).map aq)∧∀ b,cp x.2=some b→nx ≤ b∧b < nx') (fun x=>l.length - x.1) (0,.esl) ⟨Nat.zero_le _,Nat.le_refl _,fun _ _=>rfl,Row.nil,fun b h=>(by cases h)⟩ (by (iterate 5 refine And.intro rfl ?_); trivial) ?_
 rintro ⟨k,sv⟩ H1 nx1 ⟨h1,h2,h3,hrow,hbd⟩
 dsimp only at h1 hrow hbd ⊢
 obtain ⟨o1,o2⟩:=hrow.one
 by_cases hk:k < l.length
 rotate_left
 ·rw [List.take_of_length_le (by omega)] at hrow
  (have zz:=aI @o1 @o2; repeat' (first|refine zW ?_|apply a_n|apply a_x|refine zO ?_|refine vY ?_|(refine zGY ?_ ?_ <;> (intro _hg; try (exfalso; omega)))|refine af rfl ?_|refine r1Y ?_|fail)) <;> (try clear zz)
  exact ⟨hrow,h3,h2,hbd⟩
 have ix:=dZ hk
 have hp:=hg _ (aU hk)
 have hft:(l.take (k + 1)).filter p=(l.take k).filter p ++ if p (l.getD k default)=true then [l.getD k default] else []:=by
  rw [bV hk,List.filter_append]
  cases h:p (l.getD k default)
  ·rw [List.filter_cons_of_neg (by rw [h]; decide),List.filter_nil,if_neg (by decide)]
  ·rw [List.filter_cons_of_pos h,List.filter_nil,if_pos rfl]
 have hfl:((l.take k).filter p).length ≤ l.length:=Nat.le_trans (List.length_filter_le _ _) (by rw [List.length_take]; omega)
 generalize l.getD k default=v at *
 (have zz:=@ix; repeat' (first|refine zW ?_|apply a_n|refine zO ?_|refine vY ?_|(refine zGY ?_ ?_ <;> (intro _hg; try (exfalso; omega)))|fail)) <;> (try clear zz)
 refine dp ev0 ev0 hp (aa (ax (aB _ _) (hcap _ h3)) rfl) ?_
 cases hpv:p v
 ·rw [hpv,if_neg (by decide),List.append_nil] at hft
  (have zz:=aI @o1 @o2; repeat' (first|apply a_n|refine zO ?_|refine vY ?_|refine cFY ?_|fail)) <;> (try clear zz)
  refine ⟨(k + 1,sv),by dsimp only; omega,⟨by dsimp only; omega,h2,h3,by dsimp only; rw [hft]; exact hrow,hbd⟩,ag0⟩
 ·rw [hpv,if_pos rfl] at hft
  (have zz:=aI @o1 (aI @o2 (aI @bx @bk)); repeat' (first|apply a_n|refine zO ?_|refine vY ?_|refine blY ?_|refine cTY ?_|fail)) <;> (try clear zz)
  refine gn rfl ev0 (hrow.same fun b hb=>?_) ev0 fQ rfl rfl Nat.one_pos (by rw [List.length_map]; omega) (by rw [List.length_map]; omega) ?_
  ·have:=hbd b hb; rw [ao (by omega)]
  rintro s2 H2 nx2 hr2 i1 i2 i3 i4
  obtain ⟨o3,o4⟩:=hr2.one
  (have zz:=aI @o3 @o4; repeat' (first|apply a_n|refine zO ?_|refine vY ?_|fail)) <;> (try clear zz)
  refine ⟨(k + 1,s2),by dsimp only; omega,⟨by dsimp only; omega,by omega,fun y hy=>?_,?_,fun b hb=>?_⟩,ag0⟩
  ·rw [i3 y (by omega) (fun h=>by have:=hbd _ h; omega),ao (by omega)]; exact h3 y hy
  ·dsimp only
   rw [hft,List.map_append]; exact hr2
  ·rcases i4 b hb with h | h
   ·have:=hbd b h; omega
   ·omega
theorem t7 (c:List Spx) (s:Spx) (hc:c.length ≤ 1000000) (hcs:∀ t ∈ c,bP be t∧t.length ≤ 1000000) (hs:bP be s∧s.length ≤ 1000000) (H:Hp) (nx:Nat) :
    Abs.Fn Try.prog 17 [bH c,aq s] H nx fun r H' nx'=>Row H' 1 r ((c.filter fun t=>bR s t).map aq)∧(∀ x,x < nx→H' x=H x)∧nx ≤ nx'∧∀ d,cp r=some d→nx ≤ d∧d < nx':=by
 refine Abs.Fn.of_c2 follows xE (Nat.le_of_ble_eq_true rfl) ?_
 simp only [b17,cO,cG,cN,cM,cD,cF,cB,ay,aO]
 (have zz:=aI @bx (aI @bk (aI @aC @au)); repeat' (first|refine zW ?_|apply a_n|refine zO ?_|refine vY ?_|refine bxY ?_|fail)) <;> (try clear zz)
 refine aw ev0 ev0 (rH c (fun t=>bR s t) 39 [.ptr (nx + 1) 1 0] [.iptr [aq s] 0] hc _ _ (fun H' h=>ax (gA ((h (nx + 1) (by omega)).trans aj) rfl (ax (aB _ _) ab)) ab) (fun t ht=>nu s t hs (hcs t ht))) ?_
 rintro r H1 nx1 ⟨r1,r2,r3,r4⟩
 obtain ⟨o1,o2⟩:=r1.one
 (have zz:=aI @o1 @o2; repeat' (first|apply a_n|refine zO ?_|refine vY ?_|refine af rfl ?_|refine r1Y ?_|fail)) <;> (try clear zz)
 exact ⟨r1,fun x hx=>(r2 x (by omega)).trans (by rw [ao (by omega),ao (by omega)]),by omega,fun d hd=>by have:=r4 d hd; omega⟩
theorem ru {l:List Spx} {p:Vtx→Bool} {k:Nat} (h:k < l.length):eH (l.take (k + 1)) p=eH (l.take k) p ++ if 0 < ((l.getD k default).filter p).length then [(l.getD k default).filter p] else []:=by
 unfold eH
 rw [bV h,List.map_append,List.filter_append]
 congr 1
 show List.filter _ [(l.getD k default).filter p]=_
 by_cases hp:0 < ((l.getD k default).filter p).length
 ·rw [if_pos hp,List.filter_cons_of_pos (by simpa using hp)]; rfl
 ·rw [if_neg hp,List.filter_cons_of_neg (by simpa using hp)]; rfl
theorem xS (l:List Spx) (p:Vtx→Bool) (g:Nat) (caps caps':List AV) (hl:l.length ≤ 1000000) (hs:∀ s ∈ l,s.length ≤ 1000000) (H:Hp) (nx:Nat) (hcap:∀ H':Hp,(∀ x,x < nx→H' x=H x)→aD H' caps caps') (hg:∀ x,Pure Try.prog g (bC x :: caps') (.bool (p x))) :
    Abs.Fn Try.prog 19 [av l,.func g caps] H nx fun r H' nx'=>Row H' 1 r ((eH l p).map aq)∧(∀ x,x < nx→H' x=H x)∧nx ≤ nx'∧∀ d,cp r=some d→nx ≤ d∧d < nx':=by
 refine Abs.Fn.of_c2 follows yJ (Nat.le_of_ble_eq_true rfl) ?_
 simp only [b19,cO,cG,cN,cM,cD,cF,cB,ay,aO]
 (have zz:=@ai; repeat' (first|refine zW ?_|apply a_n|refine zO ?_|refine vY ?_|fail)) <;> (try clear zz)
 refine aR (X:=Nat × AV) (fun x=>[(1,.func g caps),(5,x.2),(9,av l),(10,.int .i64 l.length),(11,.int .i64 x.1)]) (fun x H' nx'=>x.1 ≤ l.length∧nx ≤ nx'∧(∀ y,y < nx→H' y=H y)∧Row H' 1 x.2 ((eH (l.take x.1) p).map aq)∧∀ b,cp x.2=some b→nx ≤ b∧b < nx') (fun x=>l.length - x.1) (0,.esl) ⟨Nat.zero_le _,Nat.le_refl _,fun _ _=>rfl,Row.nil,fun b h=>(by cases h)⟩ (by (iterate 5 refine And.intro rfl ?_); trivial) ?_
 rintro ⟨k,sv⟩ H1 nx1 ⟨h1,h2,h3,hrow,hbd⟩
 dsimp only at h1 hrow hbd ⊢
 obtain ⟨o1,o2⟩:=hrow.one
 by_cases hk:k < l.length
 rotate_left
 ·rw [List.take_of_length_le (by omega)] at hrow
  (have zz:=aI @o1 @o2; repeat' (first|refine zW ?_|apply a_n|apply a_x|refine zO ?_|refine vY ?_|(refine zGY ?_ ?_ <;> (intro _hg; try (exfalso; omega)))|refine af rfl ?_|refine r1Y ?_|fail)) <;> (try clear zz)
  exact ⟨hrow,h3,h2,hbd⟩
 have ix:=dZ hk
 have het:=ru (p:=p) hk
 have hsl:=hs _ (aU hk)
 have hel:(eH (l.take k) p).length ≤ l.length:=Nat.le_trans j0 (by rw [List.length_take]; omega)
 generalize l.getD k default=s at *
 (have zz:=@ix; repeat' (first|refine zW ?_|apply a_n|refine zO ?_|refine vY ?_|(refine zGY ?_ ?_ <;> (intro _hg; try (exfalso; omega)))|fail)) <;> (try clear zz)
 refine aw ev0 ev0 (sV s p g caps caps' hsl H1 nx1 (fun H' h=>hcap H' fun x hx=>(h x (by omega)).trans (h3 x hx)) (fun x _=>hg x)) ?_
 rintro r H2 nx2 ⟨r1,r2,r3,r4⟩
 obtain ⟨Hf,H4,hfz,hsn,hoth⟩:=rX r1
 have hlow:∀ x,x < nx1→H4 x=H1 x:=fun x hx=>(hoth x (fun e=>by have:=r4 x e; omega)).trans (r2 x hx)
 have hrow4:Row H4 1 sv ((eH (l.take k) p).map aq):=hrow.same fun b hb=>hlow b (by have:=hbd b hb; omega)
 generalize s.filter p=q at *
 (have zz:=and_self; repeat' (first|apply a_n|refine zO ?_|refine vY ?_|fail)) <;> (try clear zz)
 refine cJ ?_
 refine js Hf H4 [(1,.func g caps),(5,sv),(8,aq q),(9,av l),(10,.int .i64 l.length),(11,.int .i64 k)] hfz ⟨.inl rfl,.inl rfl,.inr hsn,.inl rfl,.inl rfl,.inl rfl,trivial⟩ ?_
 by_cases hq:0 < q.length
 rotate_left
 ·have z:decide ((0:Int) < q.length)=false:=decide_eq_false (by omega)
  rw [if_neg hq,List.append_nil] at het
  (have zz:=aI @an @z; repeat' (first|apply a_n|refine zO ?_|refine vY ?_|refine cFY ?_|fail)) <;> (try clear zz)
  exact ⟨(k + 1,sv),by dsimp only; omega,⟨by dsimp only; omega,by omega,fun y hy=>(hlow y (by omega)).trans (h3 y hy),by dsimp only; rw [het]; exact hrow4,fun b hb=>by have:=hbd b hb; omega⟩,ag0⟩
 have z:decide ((0:Int) < q.length)=true:=decide_eq_true (by omega)
 rw [if_pos hq] at het
 (have zz:=aI @an (aI @z (aI @bx @bk)); repeat' (first|apply a_n|refine zO ?_|refine vY ?_|refine blY ?_|refine cTY ?_|fail)) <;> (try clear zz)
 refine gn rfl ev0 (hrow4.same fun b hb=>?_) ev0 fQ rfl rfl Nat.one_pos (by rw [List.length_map]; omega) (by rw [List.length_map]; omega) ?_
 ·have:=hbd b hb; rw [ao (by omega)]
 rintro s2 H5 nx5 hr2 i1 i2 i3 i4
 (have zz:=and_self; repeat' (first|apply a_n|refine zO ?_|refine vY ?_|fail)) <;> (try clear zz)
 refine ⟨(k + 1,s2),by dsimp only; omega,⟨by dsimp only; omega,by omega,fun y hy=>?_,?_,fun b hb=>?_⟩,ag0⟩
 ·rw [i3 y (by omega) (fun h=>by have:=hbd _ h; omega),ao (by omega)]; exact (hlow y (by omega)).trans (h3 y hy)
 ·dsimp only
  rw [het,List.map_append]; exact hr2
 ·rcases i4 b hb with h | h
  ·have:=hbd b h; omega
  ·omega
theorem wk (s:Spx) (v:Vtx) (hs:Shn s):Pure Try.prog 20 [bC v,.iptr [aq s] 0] (.bool (decide (v ∉ s))):=by
 refine Pure.of_c2 follows zo (Nat.le_of_ble_eq_true rfl) ?_
 simp only [b20,cO,cG,cN,cM,cD,cF,cB,ay,aO]
 have h:=qE s v hs
 (have zz:=and_self; repeat' (first|refine zW ?_|apply a_n|refine zO ?_|refine vY ?_|refine cY ?_ (hp:=h) (hs:=by (first | refine aa ?_ rfl | apply ac); (repeat' (first | exact ab | apply ak | apply ae | exact aB _ | exact bD _)); first | done | fail)|refine bxY ?_|refine af rfl ?_|refine r1Y ?_|fail)) <;> (try clear zz)
 refine bF ?_
 by_cases hv:v ∈ s
 ·simp [hv]
 ·simp [hv]
theorem wq {g:FuncId} {r:AV} {l:List Spx} (hp:Pure Try.prog g [av l] r) {H:Hp} {nx:Nat} {s:AV} (hrow:Row H 1 s (l.map aq)):Abs.Fn Try.prog g [s] H nx fun r' H' nx'=>r'=r∧nx'=nx∧∀ x,cp s ≠ some x→H' x=H x:=by
 generalize hcs:l.map aq=cs at hrow
 cases hrow with
 | nil=>exact Abs.Fn.of_pureZ hp (Hf:=aY) (H':=H) (fun b cs h=>by cases h) (fun b cs h=>⟨h,rfl⟩) (ax (fR (by rw [hcs]; exact Row.nil)) ab) ⟨rfl,rfl,fun _ _=>rfl⟩
 | box b len cs g1 g2 =>
  refine Abs.Fn.of_pureZ hp (Hf:=only b cs) (H':=bI H b) (fun a cs' h=>?_) (fun a cs' h=>?_) (ax (fR (by rw [hcs]; exact Row.box b len cs fk g2)) ab) ⟨rfl,rfl,fun x hx=>eO (fun e=>hx (by rw [e]; rfl))⟩
  ·unfold only at h
   split at h
   ·rename_i e; cases h; subst e; exact g1
   ·cases h
  ·unfold bI at h
   split at h
   ·cases h
   ·rename_i e; exact ⟨h,by unfold only; rw [if_neg e]⟩
theorem x8 (c:List Spx) (s:Spx) (hc:aN c=0) (hs:bu s=0) (hne:bv c s ≠ []):Pure Try.prog 7 [bH c,aq s] (.tup [bH (e7 c s),.int .i64 0]):=by
 refine Pure.of_c2 follows is7 (Nat.le_of_ble_eq_true rfl) ?_
 simp only [b7,cO,cG,cN,cM,cD,cF,cB,ay,aO]
 have hpl:=rN c s hc hs
 have z0:decide ((0:Int) ≠ 0)=false:=rfl
 obtain ⟨c1,c2,c3,c4⟩:=a8 hc
 (have zz:=aI @aC (aI @au (aI @bx (aI @bk @z0))); repeat' (first|refine zW ?_|apply a_n|refine zO ?_|refine vY ?_|refine cY ?_ (hp:=hpl) (hs:=by (first | refine aa ?_ rfl | apply ac); (repeat' (first | exact ab | apply ak | apply ae | exact bo _ | exact aB _)); first | done | fail)|refine alY ?_|refine bxY ?_|refine cFY ?_|fail)) <;> (try clear zz)
 refine aw ev0 ev0 (t7 c s (by omega) (fun t h=>dh (c2 t h)) (dh hs) _ _) ?_
 rintro r H1 nx1 ⟨r1,r2,r3,r4⟩
 have g1:H1 2=some [.esl]:=(r2 2 (by omega)).trans aj
 have g0:H1 1=some [aq s]:=(r2 1 (by omega)).trans (by rw [ao (by omega),aj])
 have hst:=du (s:=s) hc
 obtain ⟨e1,e2,e3,e4⟩:=a8 hst
 have hco:=ec (eH (bv c s) fun v=>decide (v ∉ s)) (by have:=j0 (l:=bv c s) (p:=fun v=>decide (v ∉ s)); omega) (fun t ht=>by
  obtain ⟨p1,p2,p3,p4⟩:=bz (nP e2 t ht)
  exact ⟨p3,by omega,fun e=>by rw [e] at p1; simp at p1⟩)
 change Pure Try.prog 18 _ (bH (e7 c s)) at hco
 change Row H1 1 r ((bv c s).map aq) at r1
 have hpos:=List.length_pos_iff.2 hne
 have heach:=xS (bv c s) (fun v=>decide (v ∉ s)) 20 [.ptr 1 1 0] [.iptr [aq s] 0] (by omega) (fun t ht=>(dh (e2 t ht)).2)
 generalize e7 c s=K at *
 generalize eH (bv c s) (fun v=>decide (v ∉ s))=E at *
 generalize bv c s=L at *
 have hls:=r1.lenS (n:=L.length) (by rw [List.length_map,Nat.mul_one]) Nat.one_pos
 have z:decide ((L.length:Int)=0)=false:=decide_eq_false (by omega)
 have hb1:cp r ≠ some 2:=fun e=>by have:=r4 2 e; omega
 have hb0:cp r ≠ some 1:=fun e=>by have:=r4 1 e; omega
 obtain ⟨Hf,H4,hfz,hsn,hoth⟩:=u5 r1
 have g4:H4 2=some [.esl]:=(hoth 2 hb1).trans g1
 have g5:H4 1=some [aq s]:=(hoth 1 hb0).trans g0
 (have zz:=and_self; repeat' (first|apply a_n|refine zO ?_|refine vY ?_|fail)) <;> (try clear zz)
 refine cJ (cJ ?_)
 (have zz:=aI @hls @z; repeat' (first|apply a_n|refine zO ?_|refine vY ?_|refine cFY ?_|fail)) <;> (try clear zz)
 refine cJ ?_
 refine js Hf H4 [(3,.ptr 1 1 0),(4,.ptr 2 1 0),(7,av L)] hfz ⟨.inl rfl,.inl rfl,.inr hsn,trivial⟩ ?_
 (have zz:=and_self; repeat' (first|apply a_n|refine zO ?_|refine vY ?_|fail)) <;> (try clear zz)
 refine aw ev0 ev0 (heach H4 nx1 (fun H' h=>ax (gA ((h 1 (by omega)).trans g5) rfl (ax (aB _ _) ab)) ab) (fun v=>wk s v (show _ ≤ _ by have:=(dh hs).2; omega))) ?_
 rintro r5 H5 nx5 ⟨q1,q2,q3,q4⟩
 have g6:H5 2=some [.esl]:=(q2 2 (by omega)).trans g4
 refine aw ev0 ev0 (wq hco q1) ?_
 rintro _ H6 nx6 ⟨rfl,rfl,k3⟩
 have g7:H6 2=some [.esl]:=(k3 2 (fun e=>by have:=q4 2 e; omega)).trans g6
 (have zz:=aI @g7 (aI @aC @au); repeat' (first|apply a_n|refine zO ?_|refine vY ?_|refine stY ?_|refine af rfl ?_|refine r2Y ?_|fail)) <;> (try clear zz)
 exact j7 (bl _).snap rfl
end Go.Proofs.Ytpfkjcjgdilkkaa
namespace Go.Proofs.Ytpfkjcjgdilkkaa
open Go Go.Abs
open Nat (reduceEqDiff reduceAdd reduceLeDiff)
theorem xW {g:FuncId} {args args':List AV} {r:AV} (hp:Pure Try.prog g args' r) {H:Hp} {nx b:Nat} {cs:List AV} (hb:H b=some cs) (hs:aD (only b cs) args args'):Abs.Fn Try.prog g args H nx fun r' H' nx'=>r'=r∧H'=bI H b∧nx'=nx :=
 Abs.Fn.of_pureZ hp (Hf:=only b cs) (H':=bI H b) (fun a cs' h=>by
  unfold only at h
  split at h
  ·rename_i e; cases h; subst e; exact hb
  ·cases h) (fun a cs' h=>by
  unfold bI at h
  split at h
  ·cases h
  ·rename_i e; exact ⟨h,by unfold only; rw [if_neg e]⟩) hs ⟨rfl,rfl,rfl⟩
theorem uw {l:List Spx}:AV.ones (l.map aq)=true:=by
 unfold AV.ones
 rw [List.all_eq_true]
 intro x hx
 obtain ⟨y,_,rfl⟩:=List.mem_map.1 hx
 rfl
attribute [local irreducible] aE ah aX aP aH aJ az aK aQ bf Go.Abs.Fn aM Go.Abs.Pure ap aD Yl
theorem ue (c d:List Spx) (hc:aN c=0) (hd:aN d=0):Pure Try.prog 22 [bH c,bH d] (.int .i64 0):=by
 refine Pure.of_c2 follows Ad (Nat.le_of_ble_eq_true rfl) ?_
 simp only [b22,cO,cG,cN,cM,cD,cF,cB,ay,aO]
 have h1:=mJ c (show _ ≤ _ by have:=(a8 hc).1; omega) (eM hc)
 have h2:=mJ d (show _ ≤ _ by have:=(a8 hd).1; omega) (eM hd)
 rw [hc] at h1
 rw [hd] at h2
 have z0:decide ((0:Int) ≠ 0)=false:=rfl
 (have zz:=aI @aC (aI @au @z0); repeat' (first|refine zW ?_|apply a_n|refine zO ?_|refine vY ?_|refine cY ?_ (hp:=by first | exact h1 | exact h2) (hs:=by (first | refine aa ?_ rfl | apply ac); (repeat' (first | exact ab | apply ak | apply ae | exact bo _)); first | done | fail)|refine bxY ?_|refine cFY ?_|refine af rfl ?_|refine r1Y ?_|fail)) <;> (try clear zz)
 exact .int _ _
def gP (c:List Spx):Nat→Int × Int
 | 0=>(8,0)
 | k + 1=>(min (gP c k).1 ((c.getD k default).length:Int),max (gP c k).2 ((c.getD k default).length:Int))
theorem lg {c:List Spx} {m:Int} (h0:0 ≤ m) (h:∀ s ∈ c,(s.length:Int) ≤ m):∀ {k:Nat},k ≤ c.length→0 ≤ (gP c k).2∧(gP c k).2 ≤ m
 | 0,_=>⟨Int.le_refl _,h0⟩
 | k + 1,hk=>by
  have:=lg h0 h (k:=k) (by omega)
  have h2:=h _ (aU (l:=c) (i:=k) (by omega))
  unfold gP
  dsimp only
  omega
theorem ko (c:List Spx) (hc:Shn c) (hs:∀ s ∈ c,Shn s):Pure Try.prog 26 [bH c] (.tup [.int .i64 ((gP c c.length).2 - 1),.bool (decide ((gP c c.length).2=0) || decide ((gP c c.length).1=(gP c c.length).2))]):=by
 refine Pure.of_c2 follows zS (Nat.le_of_ble_eq_true rfl) ?_
 simp only [b26,cO,cG,cN,cM,cD,cF,cB,ay,aO]
 have hc':c.length ≤ 17592186044416:=hc
 (have zz:=aI @aC (aI @au @ai); repeat' (first|refine zW ?_|apply a_n|refine zO ?_|refine vY ?_|refine bxY ?_|fail)) <;> (try clear zz)
 refine aR (X:=Nat) (fun k=>[(4,.int .i64 (gP c k).1),(5,.int .i64 (gP c k).2),(9,av c),(10,.int .i64 c.length),(11,.int .i64 k)]) (fun k H nx=>k ≤ c.length) (fun k=>c.length - k) 0 (Nat.zero_le _) (by (iterate 5 refine And.intro rfl ?_); trivial) ?_
 rintro k H nx h1
 have hb:=lg (m:=17592186044416) (by omega) (fun s h=>by have:s.length ≤ _:=hs s h; omega) h1
 by_cases hk:k < c.length
 rotate_left
 ·obtain rfl:k=c.length:=by omega
  generalize gP c c.length=P at *
  obtain ⟨a,m⟩:=P
  dsimp only at hb ⊢
  by_cases h0:m=0
  ·have z:decide (m=0)=true:=decide_eq_true h0
   rw [z,Bool.true_or]
   (have zz:=@z; repeat' (first|refine zW ?_|apply a_n|apply a_x|refine zO ?_|refine vY ?_|refine gFY ?_|(refine zGY ?_ ?_ <;> (intro _hg; try (exfalso; omega)))|refine af rfl ?_|refine r2Y ?_|fail)) <;> (try clear zz)
   exact jn (ax (.int _ _) (ax (.bool _) ab))
  ·have z:decide (m=0)=false:=decide_eq_false h0
   rw [z,Bool.false_or]
   (have zz:=@z; repeat' (first|refine zW ?_|apply a_n|apply a_x|refine zO ?_|refine vY ?_|refine gTY ?_|(refine zGY ?_ ?_ <;> (intro _hg; try (exfalso; omega)))|refine af rfl ?_|refine r2Y ?_|fail)) <;> (try clear zz)
   exact jn (ax (.int _ _) (ax (.bool _) ab))
 have ix:=dZ hk
 have hsl:(c.getD k default).length ≤ 17592186044416:=hs _ (aU hk)
 have e:gP c (k + 1)=(min (gP c k).1 ((c.getD k default).length:Int),max (gP c k).2 ((c.getD k default).length:Int)):=rfl
 generalize c.getD k default=s at *
 (have zz:=aI @ix @an; repeat' (first|refine zW ?_|apply a_n|refine zO ?_|refine vY ?_|(refine zGY ?_ ?_ <;> (intro _hg; try (exfalso; omega)))|fail)) <;> (try clear zz)
 exact ⟨k + 1,by omega,by omega,by rw [e]; simp (disch:=omega) only [agr,ZG,reduceEqDiff,↓reduceIte]⟩
theorem tL (l:List Spx) (hl:l.length ≤ 100000) (hs:∀ s ∈ l,bP be s∧s.length ≤ 1000∧s ≠ []) (hm:(ez l).length ≤ 4096):Pure Try.prog 28 [av l] (.tup [bH (ez l),.int .i64 0]):=by
 refine Pure.of_c2 follows zN (Nat.le_of_ble_eq_true rfl) ?_
 simp only [b28,cO,cG,cN,cM,cD,cF,cB,ay,aO]
 have hco:=ec l hl hs
 generalize ez l=K at *
 have z:decide ((4096:Int) < K.length)=false:=decide_eq_false (by omega)
 (have zz:=aI @aC (aI @au (aI @ai @z)); repeat' (first|refine zW ?_|apply a_n|refine zO ?_|refine vY ?_|refine cY ?_ (hp:=hco) (hs:=by (first | refine aa ?_ rfl | apply ac); (repeat' (first | exact ab | apply ak | apply ae | exact bl _)); first | done | fail)|refine alY ?_|refine stY ?_|refine cFY ?_|refine af rfl ?_|refine r2Y ?_|fail)) <;> (try clear zz)
 exact j7 (bl _).snap rfl
theorem wI (c d:List Spx) (hc:aN c=0) (hd:aN d=0) (hne:c ≠ []) (hm:(ez (c ++ d)).length ≤ 4096):Pure Try.prog 10 [bH c,bH d] (.tup [bH (ez (c ++ d)),.int .i64 0]):=by
 refine Pure.of_c2 follows Ah (Nat.le_of_ble_eq_true rfl) ?_
 simp only [b10,cO,cG,cN,cM,cD,cF,cB,ay,aO]
 have hbo:=ue c d hc hd
 have z0:decide ((0:Int) ≠ 0)=false:=rfl
 obtain ⟨c1,c2,c3,c4⟩:=a8 hc
 obtain ⟨d1,d2,d3,d4⟩:=a8 hd
 have hn:dW (av c)=some c.length:=by unfold av e5; simp [dW]
 have hlim:=tL (c ++ d) (by rw [List.length_append]; omega) (fun t ht=>by
  obtain ⟨p1,p2,p3,p4⟩:=bz ((List.mem_append.1 ht).elim (c2 t) (d2 t))
  exact ⟨p3,by omega,fun e=>by rw [e] at p1; simp at p1⟩) hm
 (have zz:=aI @aC (aI @au @z0); repeat' (first|refine zW ?_|apply a_n|refine zO ?_|refine vY ?_|refine cY ?_ (hp:=hbo) (hs:=by (first | refine aa ?_ rfl | apply ac); (repeat' (first | exact ab | apply ak | apply ae | exact bo _)); first | done | fail)|refine alY ?_|refine bxY ?_|refine cFY ?_|fail)) <;> (try clear zz)
 have g0:ag (ag (ag aY 0 [av c]) (0 + 1) [av d]) (0 + 1 + 1) [AV.esl] 0=some [av c]:=by rw [ao (by omega),ao (by omega),aj]
 have g1:ag (ag (ag aY 0 [av c]) (0 + 1) [av d]) (0 + 1 + 1) [AV.esl] 1=some [av d]:=by rw [ao (by omega),aj]
 have g2:ag (ag (ag aY 0 [av c]) (0 + 1) [av d]) (0 + 1 + 1) [AV.esl] 2=some [.esl]:=aj
 generalize ag (ag (ag aY 0 [av c]) (0 + 1) [av d]) (0 + 1 + 1) [AV.esl]=H0 at *
 refine oh 0 1 g0 g1 (by omega) fun S hS0 hS1 hsub=>?_
 simp only [List.map_cons,List.map_nil,List.getD_cons_succ,List.getD_cons_zero]
 (have zz:=aI @hS0 @hS1; repeat' (first|apply a_n|refine zO ?_|refine nvY ?_|fail)) <;> (try clear zz)
 refine lZ ?_
 refine aw ev0 ev0 (jG _ c (by omega) _ _ hn (fun H' _=>lz)) ?_
 rintro r H1 nx1 ⟨k1,k2,k3,k4⟩
 rw [if_neg hne] at k4
 have q0:=(k3 0 (by omega)).trans g0
 have q1:=(k3 1 (by omega)).trans g1
 have q2:=(k3 2 (by omega)).trans g2
 obtain ⟨rfl,rfl,rfl⟩:=k4
 refine qc ⟨hsub _ q0 q1,?_⟩
 generalize ez (c ++ d)=K at *
 (have zz:=aI @hS0 @hS1; repeat' (first|apply a_n|refine zO ?_|apply ig|fail)) <;> (try clear zz)
 have hrow:Row (ag H0 (0 + 1 + 1 + 1) (c.map aq)) 1 (.msl (0 + 1 + 1 + 1) c.length 1 0 c.length) (c.map aq):=by
  have:=Row.box (sz:=1) (0 + 1 + 1 + 1) c.length (c.map aq) (aj (H:=H0)) (by rw [List.length_map,Nat.mul_one])
  rwa [Nat.mul_one] at this
 refine gn rfl ev0 hrow ev0 lz uw (by rw [List.length_map,Nat.mul_one]) Nat.one_pos (by rw [List.length_map]; omega) (by rw [List.length_map]; omega) ?_
 rintro s2 H2 nx2 hr2 i1 i2 i3 i4
 rw [← List.map_append] at hr2
 have r2:=(i3 2 (by omega) (fun h=>by simp [cp] at h)).trans q2
 have hb:cp s2 ≠ some 2:=fun e=>by
  rcases i4 2 e with h | h
  ·simp [cp] at h
  ·omega
 (have zz:=and_self; repeat' (first|apply a_n|refine zO ?_|apply ig|fail)) <;> (try clear zz)
 refine aw ev0 ev0 (wq hlim hr2) ?_
 rintro _ H3 nx3 ⟨rfl,rfl,j3⟩
 have r3:=(j3 2 hb).trans r2
 (have zz:=aI @r3 (aI @aC @au); repeat' (first|apply a_n|refine zO ?_|refine nvY ?_|apply ig|refine stY ?_|refine af rfl ?_|refine r2Y ?_|fail)) <;> (try clear zz)
 exact j7 (bl _).snap rfl
end Go.Proofs.Ytpfkjcjgdilkkaa
namespace Go.Proofs.Ytpfkjcjgdilkkaa
open Go Go.Abs
theorem uG {s:Spx} {v:Vtx} (h:v ∉ s):fo [s] 1 v=[]:=by
 unfold fo
 rw [show List.range 1=[0] from rfl]
 simp [h]
theorem tJ {c:List Spx} {m:Nat} (h:∀ s ∈ c,s.length ≤ m):c.flatten.length ≤ c.length * m:=by
 induction c with
 | nil=>simp
 | cons a l ih =>
  have h1:=ih fun s hs=>h s (List.mem_cons_of_mem _ hs)
  have h2:=h a (List.mem_cons_self ..)
  rw [List.flatten_cons,List.length_append,List.length_cons,Nat.add_mul]
  omega
def iT (s:Spx) (d:List Spx):List Spx:=if d=[] then [s] else ez (d.map fun t=>cC be (s ++ t))
theorem pg {s:Spx} (h:bu s=0):aN [s]=0:=by
 refine gI (by simp) (fun t ht=>?_) (List.pairwise_singleton ..) (fun t ht=>?_)
 ·rw [List.mem_singleton.1 ht]; exact h
 ·rw [List.mem_singleton.1 ht]
  unfold bd
  simp
attribute [local irreducible] aE ah aX aP aH aJ az aK aQ bf Go.Abs.Fn aM Go.Abs.Pure ap aD Yl
set_option maxHeartbeats 4000000 in
theorem xz (s:Spx) (d:List Spx) (hs:bu s=0) (hd:aN d=0) (hdis:∀ t ∈ d,∀ v ∈ t,v ∉ s) (hdim:∀ t ∈ d,s.length + t.length ≤ 8):Pure Try.prog 8 [bH [s],bH d] (.tup [bH (iT s d),.int .i64 0]):=by
 refine Pure.of_c2 follows is8 (Nat.le_of_ble_eq_true rfl) ?_
 simp only [b8,cO,cG,cN,cM,cD,cF,cB,ay,aO]
 obtain ⟨c,hcs⟩:∃ c,c=[s]:=⟨_,rfl⟩
 have hc:aN c=0:=by rw [hcs]; exact pg hs
 have hinF:∀ v,v ∉ s→fo c c.length v=[]:=fun v hv=>by rw [hcs]; exact uG hv
 rw [← hcs]
 have hcl:c.length=1:=by rw [hcs]; rfl
 have hcz:(c.length:Int)=1:=by rw [hcl]; rfl
 have hbo:=ue c d hc hd
 obtain ⟨c1,c2,c3,c4⟩:=a8 hc
 obtain ⟨d1,d2,d3,d4⟩:=a8 hd
 obtain ⟨s1,s2,s3,s4⟩:=bz hs
 have z0:decide ((0:Int) ≠ 0)=false:=rfl
 have z1:decide ((1:Int)=0)=false:=rfl
 have hn:dW (av c)=some c.length:=by unfold av e5; simp [dW]
 by_cases hd0:d=[]
 ·have hdz:(d.length:Int)=0:=by rw [hd0]; rfl
  have z2:decide ((0:Int)=0)=true:=rfl
  have hco:=ec (c ++ d) (by rw [List.length_append]; omega) (fun t ht=>by
   obtain ⟨p1,p2,p3,p4⟩:=bz ((List.mem_append.1 ht).elim (c2 t) (d2 t))
   exact ⟨p3,by omega,fun e=>by rw [e] at p1; simp at p1⟩)
  rw [show ez (c ++ d)=iT s d by unfold iT; rw [if_pos hd0,hd0,List.append_nil,nJ hc,hcs]] at hco
  (have zz:=aI @aC (aI @au (aI @ai (aI @hcz (aI @hdz (aI @z0 (aI @z1 @z2)))))); repeat' (first|refine zW ?_|apply a_n|refine zO ?_|refine vY ?_|refine cY ?_ (hp:=hbo) (hs:=by (first | refine aa ?_ rfl | apply ac); (repeat' (first | exact ab | apply ak | apply ae | exact bo _)); first | done | fail)|refine alY ?_|refine bxY ?_|refine gTY ?_|refine cFY ?_|(refine zGY ?_ ?_ <;> (intro _hg; try (exfalso; omega)))|fail)) <;> (try clear zz)
  have g0:ag (ag (ag aY 0 [av c]) (0 + 1) [av d]) (0 + 1 + 1) [AV.esl] 0=some [av c]:=by rw [ao (by omega),ao (by omega),aj]
  have g1:ag (ag (ag aY 0 [av c]) (0 + 1) [av d]) (0 + 1 + 1) [AV.esl] 1=some [av d]:=by rw [ao (by omega),aj]
  have g2:ag (ag (ag aY 0 [av c]) (0 + 1) [av d]) (0 + 1 + 1) [AV.esl] 2=some [.esl]:=aj
  generalize ag (ag (ag aY 0 [av c]) (0 + 1) [av d]) (0 + 1 + 1) [AV.esl]=H0 at *
  refine oh 0 1 g0 g1 (by omega) fun S hS0 hS1 hsub=>?_
  simp only [List.map_cons,List.map_nil,List.getD_cons_succ,List.getD_cons_zero]
  (have zz:=aI @hS0 @hS1; repeat' (first|apply a_n|refine zO ?_|refine nvY ?_|fail)) <;> (try clear zz)
  refine lZ ?_
  refine aw ev0 ev0 (jG _ c (by omega) _ _ hn (fun H' _=>lz)) ?_
  rintro r H1 nx1 ⟨k1,k2,k3,k4⟩
  rw [if_neg (fun e=>by rw [e] at hcl; simp at hcl)] at k4
  have q0:=(k3 0 (by omega)).trans g0
  have q1:=(k3 1 (by omega)).trans g1
  have q2:=(k3 2 (by omega)).trans g2
  obtain ⟨rfl,rfl,rfl⟩:=k4
  refine qc ⟨hsub _ q0 q1,?_⟩
  generalize iT s d=K at *
  (have zz:=aI @hS0 @hS1; repeat' (first|apply a_n|refine zO ?_|apply ig|fail)) <;> (try clear zz)
  have hrow:Row (ag H0 (0 + 1 + 1 + 1) (c.map aq)) 1 (.msl (0 + 1 + 1 + 1) c.length 1 0 c.length) (c.map aq):=by
   have:=Row.box (sz:=1) (0 + 1 + 1 + 1) c.length (c.map aq) (aj (H:=H0)) (by rw [List.length_map,Nat.mul_one])
   rwa [Nat.mul_one] at this
  refine gn rfl ev0 hrow ev0 lz uw (by rw [List.length_map,Nat.mul_one]) Nat.one_pos (by rw [List.length_map]; omega) (by rw [List.length_map]; omega) ?_
  rintro s2 H2 nx2 hr2 i1 i2 i3 i4
  rw [← List.map_append] at hr2
  have r2:=(i3 2 (by omega) (fun h=>by simp [cp] at h)).trans q2
  have hb:cp s2 ≠ some 2:=fun e=>by
   rcases i4 2 e with h | h
   ·simp [cp] at h
   ·omega
  (have zz:=and_self; repeat' (first|apply a_n|refine zO ?_|apply ig|fail)) <;> (try clear zz)
  refine aw ev0 ev0 (wq hco hr2) ?_
  rintro _ H3 nx3 ⟨rfl,rfl,j3⟩
  have r3:=(j3 2 hb).trans r2
  (have zz:=aI @r3 (aI @aC @au); repeat' (first|apply a_n|apply a_r|refine zO ?_|refine nvY ?_|apply ig|refine stY ?_|refine af rfl ?_|refine r2Y ?_|fail)) <;> (try clear zz)
  exact j7 (bl _).snap rfl
 have hdz:decide ((d.length:Int)=0)=false:=decide_eq_false (by have:=List.length_pos_iff.2 hd0; omega)
 have hfl:d.flatten.length ≤ 32768:=Nat.le_trans (tJ (m:=8) fun t ht=>by have:=(bz (d2 t ht)).2.1; omega) (by omega)
 have hv:=mi d (fun t ht e=>by have:=(bz (d2 t ht)).1; rw [e] at this; simp at this) (by omega) (by omega)
 have hVl:(cC be d.flatten).length ≤ 32768:=Nat.le_trans ja hfl
 have hVs:∀ v ∈ cC be d.flatten,v ∉ s:=fun v hv=>by
  obtain ⟨t,ht,hvt⟩:=List.mem_flatten.1 (ef.1 hv)
  exact hdis t ht v hvt
 generalize cC be d.flatten=V at *
 (have zz:=aI @aC (aI @au (aI @ai (aI @hcz (aI @z0 (aI @z1 @hdz))))); repeat' (first|refine zW ?_|apply a_n|refine zO ?_|refine vY ?_|refine cY ?_ (hp:=hbo) (hs:=by (first | refine aa ?_ rfl | apply ac); (repeat' (first | exact ab | apply ak | apply ae | exact bo _)); first | done | fail)|refine alY ?_|refine bxY ?_|refine gTY ?_|refine cFY ?_|fail)) <;> (try clear zz)
 refine aw ev0 ev0 (gN c (by omega) (fun t h=>dh (c2 t h)) _ _) ?_
 rintro _ H1 nx1 ⟨ks,vs,rfl,hinc,hsame,hlt⟩
 have g0:H1 0=some [av c]:=(hsame 0 (by omega)).trans (by rw [ao (by omega),ao (by omega),aj])
 have g1:H1 1=some [av d]:=(hsame 1 (by omega)).trans (by rw [ao (by omega),aj])
 have g2:H1 2=some [.esl]:=(hsame 2 (by omega)).trans aj
 (have zz:=aI @g1 (aI @aC (aI @au @an)); repeat' (first|refine zW ?_|apply a_n|refine zO ?_|refine vY ?_|refine cY ?_ (hp:=hv) (hs:=by (first | refine aa ?_ rfl | apply ac); (repeat' (first | exact ab | apply ak | apply ae | exact bl _)); first | done | fail)|fail)) <;> (try clear zz)
 refine aR (X:=Nat) (fun k=>[(2,.ptr 0 1 0),(3,.ptr 1 1 0),(4,.ptr 2 1 0),(7,.mp 3),(48,aq V),(49,.int .i64 V.length),(50,.int .i64 k)]) (fun k H nx=>k ≤ V.length∧nx1 ≤ nx∧∀ y,y < nx1→H y=H1 y) (fun k=>V.length - k) 0 ⟨Nat.zero_le _,Nat.le_refl _,fun _ _=>rfl⟩ (by (iterate 7 refine And.intro rfl ?_); trivial) ?_
 rintro k H nx ⟨h1,h2,h3⟩
 by_cases hk:k < V.length
 ·have ix:=ix2 hk
  have hv2:V.getD k default ∉ ks:=fun h=>(hinc.dom _).1 h (hinF _ (hVs _ (aU hk)))
  have hmf:=n8 (V.getD k default) ks
  rw [if_neg hv2] at hmf
  have hbox:=(h3 3 (by omega)).trans hinc.box
  generalize V.getD k default=v at *
  (have zz:=@ix; repeat' (first|refine zW ?_|apply a_n|refine zO ?_|refine vY ?_|refine alY ?_|refine stY ?_|(refine zGY ?_ ?_ <;> (intro _hg; try (exfalso; omega)))|fail)) <;> (try clear zz)
  refine qZ ev0 (by (repeat rw [ao (by omega)]); exact hbox) ev0 (pM _) hmf ?_
  rw [show mget .esl false none vs=.esl from rfl]
  have zl:cg .esl=some (.int .i64 0):=rfl
  have zg:decide ((0:Int) < 0)=false:=rfl
  (have zz:=aI @zl @zg; repeat' (first|apply a_n|refine zO ?_|refine vY ?_|refine cFY ?_|fail)) <;> (try clear zz)
  exact ⟨k + 1,by omega,⟨by omega,by omega,fun y hy=>by (repeat rw [ao (by omega)]); exact h3 y hy⟩,ag0⟩
 have q0:=(h3 0 (by omega)).trans g0
 have q1:=(h3 1 (by omega)).trans g1
 have q2:=(h3 2 (by omega)).trans g2
 have e1:=ko c (show _ ≤ _ by omega) (eM hc)
 have e2:=ko d (show _ ≤ _ by omega) (eM hd)
 have m1:=lg (c:=c) (m:=s.length) (by omega) (fun t ht=>by rw [hcs] at ht; rw [List.mem_singleton.1 ht]; exact Int.le_refl _) (Nat.le_refl c.length)
 have m2:=lg (c:=d) (m:=8 - s.length) (by omega) (fun t ht=>by have:=hdim t ht; omega) (Nat.le_refl d.length)
 generalize gP c c.length=P1 at *
 generalize gP d d.length=P2 at *
 obtain ⟨a1,b1⟩:=P1
 obtain ⟨a2,b2⟩:=P2
 dsimp only at e1 e2 m1 m2
 have zA:decide ((8:Int) < b1 - 1 + (b2 - 1) + 2)=false:=decide_eq_false (by omega)
 have zB:decide ((4096:Int) < 1 * d.length)=false:=decide_eq_false (by omega)
 have hJ:∀ t ∈ d,bP be (cC be (s ++ t))∧(cC be (s ++ t)).length ≤ 1000∧cC be (s ++ t) ≠ []:=fun t ht=>by
  have h2:=(bz (d2 t ht)).2.1
  refine ⟨gr kc _,?_,fun e=>?_⟩
  ·have:=ja (K:=be) (l:=s ++ t)
   rw [List.length_append] at this; omega
  ·have hm:s.getD 0 default ∈ cC be (s ++ t):=ef.2 (List.mem_append_left _ (aU (by omega)))
   rw [e] at hm; simp at hm
 have hco:=ec (d.map fun t=>cC be (s ++ t)) (by rw [List.length_map]; omega) (fun x hx=>by
  obtain ⟨t,ht,rfl⟩:=List.mem_map.1 hx
  exact hJ t ht)
 rw [show ez (d.map fun t=>cC be (s ++ t))=iT s d by unfold iT; rw [if_neg hd0]] at hco
 generalize iT s d=K at *
 clear hinc hsame hVs hinF hv h3 g0 g1 g2
 have hk':decide ((k:Int) < V.length)=false:=decide_eq_false (by omega)
 (have zz:=aI @q0 (aI @q1 (aI @q2 (aI @aC (aI @au (aI @ai (aI @hcz (aI @zA (aI @zB @hk')))))))); repeat' (first|refine zW ?_|apply a_n|apply a_x|refine zO ?_|refine vY ?_|refine cY ?_ (hp:=by first | exact e1 | exact e2) (hs:=by (first | refine aa ?_ rfl | apply ac); (repeat' (first | exact ab | apply ak | apply ae | exact bo _)); first | done | fail)|refine gTY ?_|refine cFY ?_|fail)) <;> (try clear zz)
 refine aR (X:=Nat × AV) (fun x=>[(3,.ptr 1 1 0),(4,.ptr 2 1 0),(14,x.2),(88,av c),(89,.int .i64 1),(90,.int .i64 x.1)]) (fun x H' nx'=>x.1 ≤ 1∧3 ≤ nx'∧(∀ y,y < 3→H' y=H y)∧Row H' 1 x.2 ((if x.1=0 then [] else d.map fun t=>cC be (s ++ t)).map aq)∧∀ b,cp x.2=some b→3 ≤ b∧b < nx') (fun x=>1 - x.1) (0,.esl) ⟨by omega,by omega,fun y hy=>rfl,Row.nil,fun b hb=>by cases hb⟩ (by (iterate 6 refine And.intro rfl ?_); trivial) ?_
 rintro ⟨i,sv⟩ H2 nx2 ⟨f1,f2,f3,hrow,hbd⟩
 dsimp only at f1 hrow hbd ⊢
 by_cases hi:i=0
 rotate_left
 ·rw [if_neg hi] at hrow
  have z:decide ((i:Int) < 1)=false:=decide_eq_false (by omega)
  have r2:=(f3 2 (by omega)).trans q2
  (have zz:=@z; repeat' (first|refine zW ?_|apply a_n|apply a_x|refine zO ?_|refine vY ?_|refine cFY ?_|fail)) <;> (try clear zz)
  refine aw ev0 ev0 (wq hco hrow) ?_
  rintro _ H3 nx3 ⟨rfl,rfl,j3⟩
  have r3:=(j3 2 (fun e=>by have:=hbd 2 e; omega)).trans r2
  (have zz:=aI @r3 (aI @aC @au); repeat' (first|apply a_n|refine zO ?_|refine vY ?_|refine stY ?_|refine af rfl ?_|refine r2Y ?_|fail)) <;> (try clear zz)
  exact j7 (bl _).snap rfl
 have z:decide ((i:Int) < 1)=true:=decide_eq_true (by omega)
 rw [if_pos hi] at hrow
 have ix:=dZ (l:=c) (k:=i) (by omega)
 rw [show c.getD i default=s by rw [hi,hcs]; rfl] at ix
 have r1:=(f3 1 (by omega)).trans q1
 (have zz:=aI @z (aI @ix (aI @r1 @ai)); repeat' (first|refine zW ?_|apply a_n|refine zO ?_|refine vY ?_|refine cTY ?_|fail)) <;> (try clear zz)
 refine aR (X:=Nat × AV) (fun x=>[(3,.ptr 1 1 0),(4,.ptr 2 1 0),(14,x.2),(88,av c),(89,.int .i64 1),(90,.int .i64 i),(16,aq s),(95,av d),(96,.int .i64 d.length),(97,.int .i64 x.1)]) (fun x H' nx'=>x.1 ≤ d.length∧3 ≤ nx'∧(∀ y,y < 3→H' y=H2 y)∧Row H' 1 x.2 (((d.take x.1).map fun t=>cC be (s ++ t)).map aq)∧∀ b,cp x.2=some b→3 ≤ b∧b < nx') (fun x=>d.length - x.1) (0,sv) ⟨by omega,f2,fun _ _=>rfl,by simpa using hrow,hbd⟩ (by (iterate 10 refine And.intro rfl ?_); trivial) ?_
 rintro ⟨j,tv⟩ H3 nx3 ⟨l1,l2,l3,lrow,lbd⟩
 dsimp only at l1 lrow lbd ⊢
 by_cases hj:j < d.length
 rotate_left
 ·rw [List.take_of_length_le (by omega)] at lrow
  (have zz:=and_self; repeat' (first|refine zW ?_|apply a_n|apply a_x|refine zO ?_|refine vY ?_|(refine zGY ?_ ?_ <;> (intro _hg; try (exfalso; omega)))|fail)) <;> (try clear zz)
  exact ⟨(i + 1,tv),by dsimp only; omega,⟨by dsimp only; omega,l2,fun y hy=>(l3 y hy).trans (f3 y hy),by dsimp only; rw [if_neg (by omega)]; exact lrow,lbd⟩,ag0⟩
 have iy:=dZ hj
 have hft:(d.take (j + 1)).map (fun t=>cC be (s ++ t))=(d.take j).map (fun t=>cC be (s ++ t)) ++ [cC be (s ++ d.getD j default)]:=by rw [bV hj,List.map_append]; rfl
 have ht8:=bz (d2 _ (aU hj))
 have hvt:=mi [s,d.getD j default] (fun t ht e=>by
  rcases List.mem_cons.1 ht with rfl | ht
  ·rw [e] at s1; simp at s1
  ·rw [List.mem_singleton] at ht
   rw [← ht,e] at ht8; simp at ht8) (by rw [show [s,d.getD j default].flatten=s ++ d.getD j default by simp,List.length_append]; have:=ht8.2.1; omega) (by simp)
 rw [show [s,d.getD j default].flatten=s ++ d.getD j default by simp] at hvt
 have hll:((d.take j).map fun t=>cC be (s ++ t)).length ≤ 4096:=by rw [List.length_map,List.length_take]; omega
 generalize d.getD j default=t at *
 generalize cC be (s ++ t)=jt at *
 (have zz:=aI @iy (aI @bx @bk); repeat' (first|refine zW ?_|apply a_n|refine zO ?_|refine vY ?_|refine blY ?_|(refine zGY ?_ ?_ <;> (intro _hg; try (exfalso; omega)))|fail)) <;> (try clear zz)
 refine aw ev0 ev0 (xW hvt (b:=nx3) (cs:=[aq s,aq t]) aj (ax (fR (l:=[s,t]) (Row.box (sz:=1) nx3 2 [aq s,aq t] fk rfl)) ab)) ?_
 rintro _ H4 nx4 ⟨rfl,rfl,rfl⟩
 have k4:∀ y,y < nx3→bI (ag H3 nx3 [aq s,aq t]) nx3 y=H3 y:=fun y hy=>by rw [eO (by omega),ao (by omega)]
 generalize bI (ag H3 nx3 [aq s,aq t]) nx3=H4 at *
 have hr4:Row H4 1 tv (((d.take j).map fun t=>cC be (s ++ t)).map aq):=lrow.same fun b hb=>k4 b (by have:=lbd b hb; omega)
 (have zz:=aI @bx @bk; repeat' (first|apply a_n|refine zO ?_|refine blY ?_|fail)) <;> (try clear zz)
 refine gn rfl ev0 (hr4.same fun b hb=>?_) ev0 fQ rfl rfl Nat.one_pos (by rw [List.length_map]; omega) (by rw [List.length_map]; omega) ?_
 ·have:=lbd b hb; rw [ao (by omega)]
 rintro s2 H5 nx5 hr2 i1 i2 i3 i4
 (have zz:=and_self; repeat' (first|apply a_n|refine zO ?_|refine vY ?_|fail)) <;> (try clear zz)
 refine ⟨(j + 1,s2),by dsimp only; omega,⟨by dsimp only; omega,by omega,fun y hy=>?_,?_,fun b hb=>?_⟩,ag0⟩
 ·rw [i3 y (by omega) (fun h=>by have:=lbd _ h; omega),ao (by omega)]; exact (k4 y (by omega)).trans (l3 y hy)
 ·dsimp only
  rw [hft,List.map_append]; exact hr2
 ·rcases i4 b hb with h | h
  ·have:=lbd b h; omega
  ·omega
end Go.Proofs.Ytpfkjcjgdilkkaa
namespace Go.Proofs.Ytpfkjcjgdilkkaa
open Go Go.Abs
def yC:List (Nat × F2):=[(4,b4),(7,b7),(11,b11),(12,b12),(16,b16),(17,b17),(18,b18),(19,b19),(20,b20),(21,b21),(23,b23),(24,b24),(29,b29),(30,b30),(31,b31),(32,b32),(37,b37),(38,b38),(39,b39),(40,b40),(41,b41),(42,b42),(43,b43),(44,b44),(45,b45),(46,b46),(47,b47),(49,b49),(51,b51),(53,b53),(54,b54),(59,b59),(60,b60),(61,b61),(62,b62),(63,b63),(64,b64),(65,b65),(67,b67),(68,b68),(69,b69),(70,b70),(71,b71),(72,b72),(73,b73),(74,b74),(75,b75),(76,b76),(77,b77),(78,b78),(79,b79),(80,b80),(81,b81),(82,b82),(83,b83),(84,b84),(85,b85),(86,b86),(87,b87),(88,b88),(89,b89),(90,b90),(91,b91),(92,b92),(93,b93),(94,b94),(95,b95),(96,b96),(97,b97),(98,b98),(99,b99),(100,xB),(101,xJ)]
theorem yu:gB Try.prog (lookup yC) :=
 (al is4 (al is7 (al z9 (al zf (al yI (al xE (al zv (al yJ (al zo (al yc (al y7 (al zF (al zX (al y1 (al Am (al zT (al yD (al xb (al zJ (al yM (al xQ (al zr (al xk (al yr (al ye (al yf (al zy (al xU (al xd (al Ak (al Af (al zw (al yP (al xn (al xi (al yH (al yd (al yt (al xY (al Ag (al Al (al zE (al ym (al xM (al yL (al yi (al yj (al yT (al yZ (al zh (al yo (al Ae (al xh (al y4 (al xO (al yG (al zD (al yA (al yU (al yn (al yV (al y8 (al y9 (al zd (al ze (al yv (al zu (al y2 (al yO (al zt (al yx (al wS (al wU sY)))))))))))))))))))))))))))))))))))))))))))))))))))))))))))))))))))))))))
set_option maxRecDepth 100000 in
theorem lj:Go.Abs.Pure Try.prog 4 [] (.bool true):=Pure.of_run follows yu (pf:=wX [12]) (n:=2000) (good:=isTrue) (by decide +kernel) sR
end Go.Proofs.Ytpfkjcjgdilkkaa
namespace Go.Proofs.Ytpfkjcjgdilkkaa
open Go Go.Abs
def gz (f:Spx) (m:Nat):Nat→Spx
 | 0=>[]
 | k + 1=>gz f m k ++ if m / 2 ^ k % 2=1 then [f.getD k default] else []
theorem jB {f:Spx} {m:Nat}:∀ {k:Nat},k ≤ f.length→(gz f m k).Sublist (f.take k)
 | 0,_=>List.nil_sublist _
 | k + 1,h=>by
  unfold gz
  rw [bV (show k < f.length by omega)]
  refine (jB (by omega)).append ?_
  split
  ·exact List.Sublist.refl _
  ·exact List.nil_sublist _
theorem ny {f:Spx} {m:Nat}:∀ {k:Nat},gz f m k=[]→m < 2 ^ k→m=0
 | 0,_,h=>by rw [Nat.pow_zero] at h; omega
 | k + 1,h0,h=>by
  unfold gz at h0
  obtain ⟨h1,h2⟩:=List.append_eq_nil_iff.1 h0
  have h3:¬ m / 2 ^ k % 2=1:=fun e=>by rw [if_pos e] at h2; cases h2
  have hp:0 < 2 ^ k:=Nat.pow_pos (by omega)
  have h4:m / 2 ^ k < 2:=Nat.div_lt_of_lt_mul (by rw [Nat.pow_succ] at h; omega)
  have h5:m / 2 ^ k=0:=by generalize m / 2 ^ k=q at h3 h4; omega
  exact ny h1 ((Nat.div_eq_zero_iff_lt hp).1 h5)
theorem px {s f:Spx} (hf:bu f=0) (hs:s.Sublist f) (h0:s ≠ []):bu s=0:=by
 obtain ⟨p1,p2,p3,p4⟩:=bz hf
 have:=hs.length_le
 have:=List.length_pos_iff.2 h0
 exact pO ⟨by omega,by omega⟩ (p3.sublist hs) fun v hv=>p4 v (hs.subset hv)
theorem oe {c:List Spx} {s:Spx} (hc:aN c=0):aN (e7 c s)=0:=by
 have hst:=a8 (du (s:=s) hc)
 exact oV (Nat.le_trans j0 hst.1) (nP hst.2.1)
theorem re {c:List Spx} {s f:Spx} (hc:aN c=0) (hf:f ∈ c) (hs:bP be s) (hsf:∀ v ∈ s,v ∈ f):iT s (e7 c s)=bv c s:=by
 unfold iT
 by_cases h:e7 c s=[]
 ·rw [if_pos h,va hc hf hs hsf h]
 ·rw [if_neg h,s7 hc hs h]
attribute [local irreducible] aE ah aX aP aH aJ az aK aQ bf Go.Abs.Fn aM Go.Abs.Pure ap aD Yl
set_option maxHeartbeats 4000000 in
set_option maxRecDepth 100000 in
theorem tN (c:List Spx) (w:Nat) (hc:Shn c∧∀ s ∈ c,Shn s) (hw:w < 256):Pure Try.prog 3 [bH c,.int .u8 w] (.bool true):=by
 refine Pure.of_c2 follows is3 (Nat.le_of_ble_eq_true rfl) ?_
 simp only [b3,cO,cG,cN,cM,cD,cF,cB,ay,aO]
 have hc':c.length ≤ 17592186044416:=hc.1
 have f1:=xu c hc
 cases e1:uO c
 ·rw [e1] at f1
  (have zz:=aI @aC @au; repeat' (first|refine zW ?_|apply a_n|apply a_r|refine zO ?_|refine vY ?_|refine cY ?_ (hp:=by first | exact f1 | exact lj) (hs:=by (first | refine aa ?_ rfl | apply ac); (repeat' (first | exact ab | apply ak | apply ae | exact bo _)); first | done | fail)|refine bxY ?_|refine gFY ?_|refine cTY ?_|refine cFY ?_|refine af rfl ?_|refine r1Y ?_|fail)) <;> (try clear zz)
  exact .bool _
 rw [e1] at f1
 obtain ⟨t1,t2,t3,t4⟩:=u4 e1
 by_cases h0:c.length=0
 ·have z:decide ((c.length:Int)=0)=true:=decide_eq_true (by omega)
  (have zz:=aI @aC (aI @au (aI @ai @z)); repeat' (first|refine zW ?_|apply a_n|apply a_r|refine zO ?_|refine vY ?_|refine cY ?_ (hp:=by first | exact f1 | exact lj) (hs:=by (first | refine aa ?_ rfl | apply ac); (repeat' (first | exact ab | apply ak | apply ae | exact bo _)); first | done | fail)|refine bxY ?_|refine gTY ?_|refine cTY ?_|refine cFY ?_|refine af rfl ?_|refine r1Y ?_|fail)) <;> (try clear zz)
  exact .bool _
 have z1:decide ((c.length:Int)=0)=false:=decide_eq_false (by omega)
 have hconv:IntKind.wrap .i64 (w:Int)=w:=jY (by omega) (by omega)
 have hrm:∀ tb tf,aS .rem tb tf (.int .i64 (w:Int)) (.int .i64 (c.length:Int))=some (.int .i64 ((w % c.length:Nat):Int)):=fun _ _=>(wa (by omega) (by omega)).trans (by rw [Int.natCast_emod])
 have hwl:w % c.length < c.length:=Nat.mod_lt _ (by omega)
 have ix:=dZ hwl
 have hfm:=aU hwl
 generalize c.getD (w % c.length) default=f at *
 have hfe:=(a8 t2).2.1 f hfm
 obtain ⟨x1,x2,x3,x4⟩:=bz hfe
 have hf4:=t4 f hfm
 (have zz:=aI @aC (aI @au (aI @ai (aI @an (aI @z1 (aI @hconv (aI @hrm @ix)))))); repeat' (first|refine zW ?_|apply a_n|refine zO ?_|refine vY ?_|refine cY ?_ (hp:=by first | exact f1 | exact lj) (hs:=by (first | refine aa ?_ rfl | apply ac); (repeat' (first | exact ab | apply ak | apply ae | exact bo _)); first | done | fail)|refine bxY ?_|refine gTY ?_|refine cFY ?_|fail)) <;> (try clear zz)
 have hN:2 ^ f.length ≤ 16:=Nat.le_trans (Nat.pow_le_pow_right (by omega) hf4) (by decide)
 have hN0:1 ≤ 2 ^ f.length:=Nat.pow_pos (by omega)
 refine aR (X:=Nat) (fun m=>[(2,.ptr 0 1 0),(5,aq f),(6,.int .i64 m)]) (fun m H nx=>1 ≤ m∧m ≤ 2 ^ f.length∧1 ≤ nx∧H 0=some [av c]) (fun m=>2 ^ f.length - m) 1 ⟨Nat.le_refl _,hN0,by omega,aj⟩ (by (iterate 3 refine And.intro rfl ?_); trivial) ?_
 rintro m H nx ⟨m1,m2,m3,g0⟩
 have hshl:∀ tb tf,aS .shl tb tf (.int .i64 1) (.int .i64 (f.length:Int))=some (.int .i64 ((2 ^ f.length:Nat):Int)):=fun tb tf=>by
  have:=sb (k:=.i64) (a:=1) (b:=f.length) (tb:=tb) (tf:=tf) (k':=.i64) (by show f.length ≤ 64; omega) (by rw [Nat.one_mul]; show 2 ^ f.length < 2 ^ 63; omega)
  rw [Nat.one_mul] at this
  exact this
 have hnil:=fun h=>ny (f:=f) (m:=m) (k:=f.length) h
 generalize hNN:2 ^ f.length=N at *
 by_cases hm:m < N
 rotate_left
 ·have z:decide ((m:Int) < N)=false:=decide_eq_false (by omega)
  (have zz:=aI @an (aI @hshl @z); repeat' (first|refine zW ?_|apply a_n|apply a_x|refine zO ?_|refine vY ?_|refine cFY ?_|refine af rfl ?_|refine r1Y ?_|fail)) <;> (try clear zz)
  exact .bool _
 have zm:decide ((m:Int) < N)=true:=decide_eq_true (by omega)
 (have zz:=aI @an (aI @hshl @zm); repeat' (first|refine zW ?_|apply a_n|refine zO ?_|refine vY ?_|refine cTY ?_|fail)) <;> (try clear zz)
 refine aR (X:=Nat × AV) (fun x=>[(2,.ptr 0 1 0),(5,aq f),(6,.int .i64 m),(7,x.2),(50,aq f),(51,.int .i64 f.length),(52,.int .i64 x.1)]) (fun x H' nx'=>x.1 ≤ f.length∧1 ≤ nx'∧H' 0=some [av c]∧Row H' 2 x.2 (cX (gz f m x.1))∧∀ b,cp x.2=some b→1 ≤ b∧b < nx') (fun x=>f.length - x.1) (0,.esl) ⟨Nat.zero_le _,m3,g0,Row.nil,fun b hb=>by cases hb⟩ (by (iterate 7 refine And.intro rfl ?_); trivial) ?_
 rintro ⟨k,sv⟩ H1 nx1 ⟨k1,k2,q0,hrow,hbd⟩
 dsimp only at k1 hrow hbd ⊢
 by_cases hk:k < f.length
 ·have iy:=ix2 hk
  have zk:decide ((k:Int) < f.length)=true:=decide_eq_true (by omega)
  have hpk:2 ^ k ≤ 16:=Nat.le_trans (Nat.pow_le_pow_right (by omega) (show k ≤ 4 by omega)) (by decide)
  have hshr:∀ tb tf,aS .shr tb tf (.int .i64 (m:Int)) (.int .i64 (k:Int))=some (.int .i64 ((m / 2 ^ k:Nat):Int)):=fun tb tf=>ou (k:=.i64) (k':=.i64) (by show k ≤ 64; omega)
  have hdm:m / 2 ^ k ≤ m:=Nat.div_le_self _ _
  have hand:∀ tb tf,aS .and tb tf (.int .i64 ((m / 2 ^ k:Nat):Int)) (.int .i64 1)=some (.int .i64 ((m / 2 ^ k % 2:Nat):Int)):=fun tb tf=>by
   have:=ww (k:=.i64) (a:=m / 2 ^ k) (b:=1) (tb:=tb) (tf:=tf) (by show m / 2 ^ k < 2 ^ 63; omega) (by show 1 < 2 ^ 63; omega)
   rw [Nat.and_one_is_mod] at this
   exact this
  have hbl:gz f m (k + 1)=gz f m k ++ if m / 2 ^ k % 2=1 then [f.getD k default] else []:=rfl
  have hcl:=eW (gz f m k)
  have hbk:=(jB (m:=m) k1).length_le
  rw [List.length_take] at hbk
  generalize f.getD k default=v at *
  generalize hdv:m / 2 ^ k=dv at *
  by_cases hb:dv % 2=1
  ·have zb:decide (((dv % 2:Nat):Int)=1)=true:=decide_eq_true (by omega)
   rw [if_pos hb] at hbl
   (have zz:=aI @iy (aI @zk (aI @hshr (aI @hand @zb))); repeat' (first|refine zW ?_|apply a_n|refine zO ?_|refine vY ?_|refine alY ?_|refine stY ?_|refine blY ?_|refine cTY ?_|fail)) <;> (try clear zz)
   refine gn rfl ev0 (hrow.same fun b hb=>?_) ev0 nG rfl rfl (by omega) (by omega) (by omega) ?_
   ·have:=hbd b hb; (repeat rw [ao (by omega)])
   rintro s2 H2 nx2 hr2 i1 i2 i3 i4
   (have zz:=and_self; repeat' (first|apply a_n|refine zO ?_|refine vY ?_|fail)) <;> (try clear zz)
   refine ⟨(k + 1,s2),by dsimp only; omega,⟨by dsimp only; omega,by omega,?_,?_,fun b hb=>?_⟩,ag0⟩
   ·rw [i3 0 (by omega) (fun h=>by have:=hbd _ h; omega)]; (repeat rw [ao (by omega)]); exact q0
   ·dsimp only
    rw [hbl,jw]; exact hr2
   ·rcases i4 b hb with h | h
    ·have:=hbd b h; omega
    ·omega
  ·have zb:decide (((dv % 2:Nat):Int)=1)=false:=decide_eq_false (by omega)
   rw [if_neg hb,List.append_nil] at hbl
   (have zz:=aI @iy (aI @zk (aI @hshr (aI @hand @zb))); repeat' (first|refine zW ?_|apply a_n|refine zO ?_|refine vY ?_|refine alY ?_|refine stY ?_|refine cTY ?_|refine cFY ?_|fail)) <;> (try clear zz)
   exact ⟨(k + 1,sv),by dsimp only; omega,⟨by dsimp only; omega,by omega,by (repeat rw [ao (by omega)]); exact q0,by dsimp only; rw [hbl]; exact hrow.same fun b hb=>by have:=hbd b hb; (repeat rw [ao (by omega)]),fun b hb=>by have:=hbd b hb; omega⟩,ag0⟩
 obtain rfl:k=f.length:=by omega
 have hsub:=jB (f:=f) (m:=m) (Nat.le_refl _)
 rw [List.take_length] at hsub
 have hne:gz f m f.length ≠ []:=fun e=>by have:=hnil e hm; omega
 generalize gz f m f.length=s at *
 have hse:=px hfe hsub hne
 have hsf:∀ v ∈ s,v ∈ f:=fun v hv=>hsub.subset hv
 have hsl:=hsub.length_le
 have hfS:∀ t:Spx,(∀ v ∈ t,v ∈ s)→bv c t ≠ []:=fun t ht e=>by
  have:=cT.2 ⟨hfm,fun v hv=>hsf v (ht v hv)⟩
  rw [e] at this; cases this
 have s1:=vQ c s t2 hse (hfS s fun v hv=>hv)
 have s2:=x8 c s t2 hse (hfS s fun v hv=>hv)
 have hL:=oe (s:=s) t2
 have s3:=xz s (e7 c s) hse hL (fun t ht v hv hv2=>by
  obtain ⟨_,g,_,_,e⟩:=(fK t2).1 ht
  rw [← e] at hv
  exact of_decide_eq_true (List.mem_filter.1 hv).2 hv2) (fun t ht=>by
  obtain ⟨_,g,hg,_,e⟩:=(fK t2).1 ht
  have h4:=t4 g hg
  have:=List.length_filter_le (fun v=>decide (v ∉ s)) g
  rw [e] at this
  omega)
 rw [re t2 hfm (bz hse).2.2.1 hsf] at s3
 have hS:=du (s:=s) t2
 have s4:=pV (bv c s) (bv c s) (show _ ≤ _ by have:=(a8 hS).1; omega) (show _ ≤ _ by have:=(a8 hS).1; omega) (eM hS) (eM hS)
 rw [decide_eq_true rfl] at s4
 have hU:∀ v ∈ s,Pure Try.prog 6 [bH c,aq [v]] (.tup [bH (bv c [v]),.int .i64 0])∧Pure Try.prog 10 [bH (bv c [v]),bH (bv c s)] (.tup [bH (bv c [v]),.int .i64 0])∧Pure Try.prog 9 [bH (bv c [v]),bH (bv c [v])] (.bool true):=fun v hv=>by
  have hv1:bu [v]=0:=px hse (List.singleton_sublist.2 hv) (by simp)
  have hvS:=du (s:=[v]) t2
  have hvn:=hfS [v] fun u hu=>by rw [List.mem_singleton.1 hu]; exact hv
  have a1:=vQ c [v] t2 hv1 hvn
  have hun:=rD t2 hv
  have a2:=wI (bv c [v]) (bv c s) hvS hS hvn (by rw [hun]; exact (a8 hvS).1)
  rw [hun] at a2
  have a3:=pV (bv c [v]) (bv c [v]) (show _ ≤ _ by have:=(a8 hvS).1; omega) (show _ ≤ _ by have:=(a8 hvS).1; omega) (eM hvS) (eM hvS)
  rw [decide_eq_true rfl] at a3
  exact ⟨a1,a2,a3⟩
 obtain ⟨Hf,H4,hfz,hsn,hoth⟩:=rX hrow
 have g4:H4 0=some [av c]:=(hoth 0 (fun e=>by have:=hbd 0 e; omega)).trans q0
 have zk:decide (((f.length:Nat):Int) < f.length)=false:=decide_eq_false (by omega)
 refine cJ ?_
 (have zz:=@zk; repeat' (first|apply a_n|refine zO ?_|refine vY ?_|fail)) <;> (try clear zz)
 refine cJ ?_
 (have zz:=@zk; repeat' (first|apply a_n|apply a_x|refine zO ?_|refine cFY ?_|fail)) <;> (try clear zz)
 refine cJ ?_
 refine js Hf H4 [(2,.ptr 0 1 0),(5,aq f),(6,.int .i64 m),(7,aq s)] hfz ⟨.inl rfl,.inl rfl,.inl rfl,.inr hsn,trivial⟩ ?_
 clear hnil hshl hfz hoth
 generalize e7 c s=K at *
 generalize bv c s=S at *
 have z00:decide ((0:Int) + 0 + 0 ≠ 0)=false:=rfl
 have z0:decide ((0:Int) + 0 ≠ 0)=false:=rfl
 (have zz:=aI @g4 (aI @aC (aI @au (aI @bx @bk))); repeat' (first|refine zW ?_|apply a_n|refine zO ?_|refine vY ?_|refine cY ?_ (hp:=by first | exact s1 | exact s2) (hs:=by (first | refine aa ?_ rfl | apply ac); (repeat' (first | exact ab | apply ak | apply ae | exact bo _ | exact aB _)); first | done | fail)|refine alY ?_|refine stY ?_|refine blY ?_|fail)) <;> (try clear zz)
 refine aw ev0 ev0 (xW s3 (b:=nx1 + 1 + 1) (cs:=[aq s]) aj (ax (mU (ax (fR (l:=[s]) (Row.box (sz:=1) (nx1 + 1 + 1) 1 [aq s] fk rfl)) ab)) (ax (bo K _) ab))) ?_
 rintro _ H5 nx5 ⟨rfl,rfl,rfl⟩
 (have zz:=aI @g4 (aI @aC (aI @au (aI @bx (aI @bk (aI @an @z00))))); repeat' (first|refine zW ?_|apply a_n|refine zO ?_|refine vY ?_|refine cY ?_ (hp:=s4) (hs:=by (first | refine aa ?_ rfl | apply ac); (repeat' (first | exact ab | apply ak | apply ae | exact bo _ | exact aB _)); first | done | fail)|refine alY ?_|refine stY ?_|refine gTY ?_|refine cFY ?_|fail)) <;> (try clear zz)
 refine aR (X:=Nat) (fun i=>[(2,.ptr 0 1 0),(5,aq f),(6,.int .i64 m),(10,.ptr nx1 1 0),(99,aq s),(100,.int .i64 s.length),(101,.int .i64 i)]) (fun i H' nx'=>i ≤ s.length∧nx1 < nx'∧H' 0=some [av c]∧H' nx1=some [av S]) (fun i=>s.length - i) 0 ⟨Nat.zero_le _,by omega,?_,?_⟩ (by (iterate 7 refine And.intro rfl ?_); trivial) ?_
 ·rw [ao (by omega),ao (by omega),eO (by omega)]
  (repeat rw [ao (by omega)])
  exact g4
 ·rw [ao (by omega),ao (by omega),eO (by omega)]
  (repeat rw [ao (by omega)])
  rw [aj]
  rfl
 rintro i H6 nx6 ⟨i1,i2,p0,p1⟩
 by_cases hi:i < s.length
 rotate_left
 ·have z:decide ((i:Int) < s.length)=false:=decide_eq_false (by omega)
  (have zz:=@z; repeat' (first|refine zW ?_|apply a_n|apply a_x|refine zO ?_|refine vY ?_|refine cFY ?_|fail)) <;> (try clear zz)
  exact ⟨m + 1,by omega,⟨by omega,by omega,by omega,p0⟩,ag0⟩
 have zi:decide ((i:Int) < s.length)=true:=decide_eq_true (by omega)
 have iz:=ix2 hi
 obtain ⟨b1,b2,b3⟩:=hU _ (aU hi)
 generalize s.getD i default=v at *
 generalize bv c [v]=W at *
 (have zz:=aI @zi (aI @iz (aI @p0 (aI @aC @au))); repeat' (first|refine zW ?_|apply a_n|refine zO ?_|refine vY ?_|refine alY ?_|refine stY ?_|refine blY ?_|refine cTY ?_|fail)) <;> (try clear zz)
 refine aw ev0 ev0 (xW b1 (b:=nx6 + 1) (cs:=cX [v]) aj (ax (bo c _) (ax (pd (Row.box (sz:=2) (nx6 + 1) 1 (cX [v]) fk rfl)) ab))) ?_
 rintro _ H7 nx7 ⟨rfl,rfl,rfl⟩
 (have zz:=aI @p0 (aI @p1 (aI @aC (aI @au @z0))); repeat' (first|refine zW ?_|apply a_n|refine zO ?_|refine vY ?_|refine cY ?_ (hp:=by first | exact b2 | exact b3) (hs:=by (first | refine aa ?_ rfl | apply ac); (repeat' (first | exact ab | apply ak | apply ae | exact bo _)); first | done | fail)|refine alY ?_|refine stY ?_|refine gTY ?_|refine cFY ?_|fail)) <;> (try clear zz)
 have lo:∀ x,x < nx6→ag (ag (ag (ag (bI (ag (ag (ag H6 nx6 [AV.int IntKind.i64 0,AV.int IntKind.i64 0]) nx6 (bg [AV.int IntKind.i64 0,AV.int IntKind.i64 0] 0 [AV.int IntKind.i64 v.color,AV.int IntKind.i64 v.label])) (nx6 + 1) [AV.int IntKind.i64 v.color,AV.int IntKind.i64 v.label]) (nx6 + 1)) (nx6 + 1 + 1) [AV.esl]) (nx6 + 2) (bg [AV.esl] 0 [av W])) (nx6 + 1 + 1 + 1) [AV.esl]) (nx6 + 3) (bg [AV.esl] 0 [av W]) x=H6 x:=fun x hx=>by
  rw [ao (by omega),ao (by omega),ao (by omega),ao (by omega),eO (by omega)]
  (repeat rw [ao (by omega)])
 exact ⟨i + 1,by omega,⟨by omega,by omega,(lo 0 (by omega)).trans p0,(lo nx1 (by omega)).trans p1⟩,ag0⟩
end Go.Proofs.Ytpfkjcjgdilkkaa
namespace Go.Proofs.Ytpfkjcjgdilkkaa
open Go Go.Abs Go.RowKit
section
variable {H:Type} {enc:TypeId × Value→H} {W:World}
theorem oi:c6 enc Try.prog W 3 (AV.int .i64) (fun n=>(Lit.int .i64 n).wf=true):=nT Try.underlying3
set_option maxRecDepth 100000 in
theorem zU:c6 enc Try.prog W 29 bC (fun _=>True) :=
 (iR Try.underlying29 (by kernel_rfl) (gR (off:=0) (off':=1) rfl (by kernel_rfl) oi (gR (off:=1) (off':=2) rfl (by kernel_rfl) oi mS))).map
  (fun a=>(⟨a.1,a.2.1⟩:Vtx)) (fun _ _=>trivial) (fun _ _=>rfl)
theorem oXs:c6 enc Try.prog W 27 aq Shn :=
 (kF Try.underlying27 (sz:=2) (by_:=16) (by kernel_rfl) (by kernel_rfl) (by omega) (fun _=>rfl) zU).mono fun l h=>by have:=h.2.2; show _ ≤ _; omega
theorem zY:c6 enc Try.prog W 22 av (fun l=>Shn l∧∀ x ∈ l,Shn x) :=
 (kF Try.underlying22 (sz:=1) (by_:=24) (by kernel_rfl) (by kernel_rfl) Nat.one_pos (fun _=>rfl) oXs).mono fun l h=>⟨by have:=h.2.2; show _ ≤ _; omega,h.1⟩
set_option maxRecDepth 100000 in
theorem oCx:c6 enc Try.prog W 24 bH (fun l=>Shn l∧∀ x ∈ l,Shn x) :=
 (iR Try.underlying24 (by kernel_rfl) (gR (off:=0) (off':=1) rfl (by kernel_rfl) zY mS)).map
  (fun a=>a.1) (by rintro ⟨n,u⟩ ⟨h1,_⟩; exact h1) (fun _ _=>rfl)
end
theorem lk {f:FuncId} {xs:List AV} {vs:List Value} (h:Go.Abs.Pure Try.prog f xs (.bool true)) (w:World) (hv:bS (E0 (nc w)) w xs vs) :
    Calls Try.prog f vs.toArray w fun e w'=>e=.returned (.bool true)∧Below w.heap.size w w':=by
 refine (h.2 (nc w) w vs (fun _ h=>h) hv).mono ?_
 rintro e w' ⟨v,imm',rfl,hb,_,_,_,hr⟩
 cases hr
 exact ⟨rfl,hb⟩
theorem zP:laidOutB Try.prog=true:=by kernel_rfl
end Go.Proofs.Ytpfkjcjgdilkkaa
namespace Go.Proofs.Ytpfkjcjgdilkkaa
open Go Go.Abs
attribute [local irreducible] aE ah aX aP aH aJ az aK aQ bf Go.Abs.Fn aM Go.Abs.Pure ap aD Yl
end Go.Proofs.Ytpfkjcjgdilkkaa
namespace Go.Proofs.Ytpfkjcjgdilkkaa
open Go Go.Abs
attribute [local irreducible] aE ah aX aP aH aJ az aK aQ bf Go.Abs.Fn aM Go.Abs.Pure ap aD Yl
end Go.Proofs.Ytpfkjcjgdilkkaa
namespace Go.Proofs.Ytpfkjcjgdilkkaa
open Go Go.Abs
def Ao (x:List Int):AV:=.agg (x.map (AV.int .i64))
attribute [local irreducible] aE ah aX aP aH aJ az aK aQ bf Go.Abs.Fn aM Go.Abs.Pure ap aD Yl
end Go.Proofs.Ytpfkjcjgdilkkaa
namespace Go.Proofs.Ytpfkjcjgdilkkaa
open Go Go.Abs
def K16:Type:={x:List Int // x.length=16}
instance:DecidableEq K16:=inferInstanceAs (DecidableEq {x:List Int // x.length=16})
def eK (x:K16):AV:=Ao x.1
end Go.Proofs.Ytpfkjcjgdilkkaa
namespace Go.Proofs.Ytpfkjcjgdilkkaa
open Go Go.Abs
attribute [local irreducible] aE ah aX aP aH aJ az aK aQ bf Go.Abs.Fn aM Go.Abs.Pure ap aD Yl
end Go.Proofs.Ytpfkjcjgdilkkaa
namespace Go.Proofs.Ytpfkjcjgdilkkaa
open Go Go.Abs
attribute [local irreducible] aE ah aX aP aH aJ az aK aQ bf Go.Abs.Fn aM Go.Abs.Pure ap aD Yl
end Go.Proofs.Ytpfkjcjgdilkkaa
namespace Go.Proofs.Ytpfkjcjgdilkkaa
open Go Go.Abs
def ut (l:List Nat):List Int:=l.map fun (n:Nat)=>(n:Int)
structure MatOk (H:Hp) (b lo hi n:Nat) (F:Nat→List Nat) (vs:List AV):Prop where
 box:H b=some vs
 len:vs.length=n
 row:∀ j,j < n→Row H 1 (vs.getD j .undef) ((F j).map sZ)
 bnd:∀ j B,j < n→cp (vs.getD j .undef)=some B→lo ≤ B∧B < hi∧B ≠ b
 apart:∀ i j B,i < n→j < n→i ≠ j→cp (vs.getD i .undef)=some B→cp (vs.getD j .undef) ≠ some B
theorem MatOk.same {H H':Hp} {b lo hi hi' n:Nat} {F G:Nat→List Nat} {vs:List AV} (h:MatOk H b lo hi n F vs) (hb:H' b=H b) (hs:∀ x,lo ≤ x→x < hi→x ≠ b→H' x=H x) (hh:hi ≤ hi') (hG:∀ j,j < n→G j=F j):MatOk H' b lo hi' n G vs :=
 ⟨hb.trans h.box,h.len,fun j hj=>by rw [hG j hj]; exact (h.row j hj).same fun B hB=>by have:=h.bnd j B hj hB; exact hs B this.1 this.2.1 this.2.2,fun j B hj hB=>by have:=h.bnd j B hj hB; exact ⟨this.1,by omega,this.2.2⟩,h.apart⟩
theorem MatOk.put {H H':Hp} {b lo hi hi' n i x:Nat} {F G:Nat→List Nat} {vs:List AV} {sv:AV} (h:MatOk H b lo hi n F vs) (hin:i < n) (hG:∀ j,j < n→G j=if j=i then F j ++ [x] else F j) (hrow:Row H' 1 sv ((F i ++ [x]).map sZ)) (hB:∀ B,cp sv=some B→cp (vs.getD i .undef)=some B ∨ hi ≤ B∧B < hi'∧B ≠ b) (hb:H' b=some (vs.set i sv))
    (hs:∀ x,lo ≤ x→x < hi→x ≠ b→cp (vs.getD i .undef) ≠ some x→H' x=H x) (hh:hi ≤ hi') (hlo:lo ≤ hi):MatOk H' b lo hi' n G (vs.set i sv):=by
 have hl:=h.len
 have hg:∀ j,(vs.set i sv).getD j .undef=if i=j then sv else vs.getD j .undef:=fun j=>nS (by omega)
 refine ⟨hb,by simp [hl],fun j hj=>?_,fun j B hj=>?_,fun p q B hp hq hpq=>?_⟩
 ·rw [hg,hG j hj]
  by_cases e:i=j
  ·rw [if_pos e,if_pos e.symm,← e]; exact hrow
  ·rw [if_neg e,if_neg (fun h=>e h.symm)]
   exact (h.row j hj).same fun B hB'=>by
    have:=h.bnd j B hj hB'
    exact hs B this.1 this.2.1 this.2.2 fun h'=>h.apart i j B hin hj e h' hB'
 ·rw [hg]
  by_cases e:i=j
  ·rw [if_pos e]
   intro hB'
   rcases hB B hB' with h' | h'
   ·have:=h.bnd _ B hin h'; exact ⟨this.1,by omega,this.2.2⟩
   ·exact ⟨by omega,h'.2⟩
  ·rw [if_neg e]
   intro hB'
   have:=h.bnd j B hj hB'
   exact ⟨this.1,by omega,this.2.2⟩
 ·rw [hg,hg]
  by_cases e1:i=p
  ·rw [if_pos e1,if_neg (by omega)]
   intro h1 h2
   rcases hB B h1 with h' | h'
   ·exact h.apart i q B hin hq (by omega) h' h2
   ·have:=h.bnd q B hq h2; omega
  ·rw [if_neg e1]
   by_cases e2:i=q
   ·rw [if_pos e2]
    intro h1 h2
    rcases hB B h2 with h' | h'
    ·exact h.apart p i B hp hin (by omega) h1 h'
    ·have:=h.bnd p B hp h1; omega
   ·rw [if_neg e2]; exact h.apart p q B hp hq hpq
theorem MatOk.snap {H:Hp} {b lo hi n:Nat} {F:Nat→List Nat} {vs:List AV} (h:MatOk H b lo hi n F vs):Snap H (.msl b n 1 0 n) (fg ((List.range n).map fun i=>ut (F i))):=by
 refine l8 (l:=((List.range n).map fun i=>ut (F i)).map dt) h.box h.len (by omega) (by simp) (fun y hy=>?_) (fun i a c ha hc=>?_)
 ·obtain ⟨z,_,rfl⟩:=List.mem_map.1 hy; rfl
 ·have hin:i < n:=by
    have:=(List.getElem?_eq_some_iff.1 hc).1
    simpa using this
  have hr:=h.row i hin
  rw [Nat.zero_add] at ha
  have e1:vs.getD i .undef=a:=by rw [List.getD_eq_getElem?_getD,ha]; rfl
  rw [e1] at hr
  have e2:c=dt (ut (F i)):=by
   rw [List.getElem?_map,List.getElem?_map,List.getElem?_range hin] at hc
   simpa using hc.symm
  rw [e2]
  exact qa hr
theorem MatOk.new {H:Hp} {b lo hi n:Nat} {F:Nat→List Nat} (hb:H b=some (List.replicate n .esl)) (hF:∀ j,j < n→F j=[]):MatOk H b lo hi n F (List.replicate n .esl):=by
 have hg:∀ j,j < n→(List.replicate n AV.esl).getD j .undef=.esl:=fun j hj=>by simp [List.getD,List.getElem?_replicate,hj]
 refine ⟨hb,by simp,fun j hj=>?_,fun j B hj h=>?_,fun i j B hi hj _ h=>?_⟩
 ·rw [hg j hj,hF j hj]; exact Row.nil
 ·rw [hg j hj] at h; cases h
 ·rw [hg i hi] at h; cases h
end Go.Proofs.Ytpfkjcjgdilkkaa
namespace Go.Proofs.Ytpfkjcjgdilkkaa
open Go Go.Abs
attribute [local irreducible] aE ah aX aP aH aJ az aK aQ bf Go.Abs.Fn aM Go.Abs.Pure ap aD Yl
end Go.Proofs.Ytpfkjcjgdilkkaa
namespace Go.Proofs.Ytpfkjcjgdilkkaa
open Go Go.Abs
attribute [local irreducible] aE ah aX aP aH aJ az aK aQ bf Go.Abs.Fn aM Go.Abs.Pure ap aD Yl
end Go.Proofs.Ytpfkjcjgdilkkaa
namespace Go.Proofs.Ytpfkjcjgdilkkaa
open Go Go.Abs
end Go.Proofs.Ytpfkjcjgdilkkaa
namespace Go.Proofs.Ytpfkjcjgdilkkaa
open Go Go.Abs
attribute [local irreducible] aE ah aX aP aH aJ az aK aQ bf Go.Abs.Fn aM Go.Abs.Pure ap aD Yl
end Go.Proofs.Ytpfkjcjgdilkkaa
namespace Go.Proofs.Ytpfkjcjgdilkkaa
open Go Go.Abs
attribute [local irreducible] aE ah aX aP aH aJ az aK aQ bf Go.Abs.Fn aM Go.Abs.Pure ap aD Yl
end Go.Proofs.Ytpfkjcjgdilkkaa
namespace Go.Proofs.Ytpfkjcjgdilkkaa
open Go Go.Abs
structure PairV where
 a:List Spx
 b:List Spx
 d:Int
attribute [local irreducible] aE ah aX aP aH aJ az aK aQ bf Go.Abs.Fn aM Go.Abs.Pure ap aD Yl
end Go.Proofs.Ytpfkjcjgdilkkaa
namespace Go.Proofs.Ytpfkjcjgdilkkaa
open Go Go.Abs
end Go.Proofs.Ytpfkjcjgdilkkaa
namespace Go.Proofs.Ytpfkjcjgdilkkaa
open Go Go.Abs
attribute [local irreducible] aE ah aX aP aH aJ az aK aQ bf Go.Abs.Fn aM Go.Abs.Pure ap aD Yl
end Go.Proofs.Ytpfkjcjgdilkkaa
namespace Go.Proofs.Ytpfkjcjgdilkkaa
open Go Go.Abs Go.RowKit
theorem wf8 {n:Int} (h:(Lit.int .u8 n).wf=true):0 ≤ n∧n < 256:=by
 simp only [Lit.wf,Bool.and_eq_true,decide_eq_true_eq] at h
 have h1:IntKind.min .u8=0:=by decide
 have h2:IntKind.max .u8=255:=by decide
 omega
section
variable {H:Type} {enc:TypeId × Value→H} {W:World}
theorem ou8:c6 enc Try.prog W 5 (fun n:Nat=>AV.int .u8 (n:Int)) (fun n=>n < 256) :=
 (nT Try.underlying5).map (fun n=>n.toNat) (fun n h=>by
  have h2:=wf8 h
  omega) (fun n h=>by
  have h2:=wf8 h
  rw [Int.toNat_of_nonneg h2.1])
end
end Go.Proofs.Ytpfkjcjgdilkkaa
namespace Go.Proofs.Ytpfkjcjgdilkkaa
open Go Go.Abs
section
variable {α:Type} {K:α→α→Int}
end
end Go.Proofs.Ytpfkjcjgdilkkaa
namespace Go.Proofs.Ytpfkjcjgdilkkaa
open Go Go.Abs
section
variable {α:Type} [DecidableEq α] {K:α→α→Int}
end
section
variable {g:Vtx→Vtx}
end
end Go.Proofs.Ytpfkjcjgdilkkaa
namespace Go.Proofs.Ytpfkjcjgdilkkaa
open Go Go.Abs
end Go.Proofs.Ytpfkjcjgdilkkaa
namespace Go.Proofs.Ytpfkjcjgdilkkaa
open Go Go.Abs
attribute [local irreducible] aE ah aX aP aH aJ az aK aQ bf Go.Abs.Fn aM Go.Abs.Pure ap aD Yl
end Go.Proofs.Ytpfkjcjgdilkkaa
namespace Go.Proofs.Ytpfkjcjgdilkkaa
open Go Go.Abs
attribute [local irreducible] aE ah aX aP aH aJ az aK aQ bf Go.Abs.Fn aM Go.Abs.Pure ap aD Yl
end Go.Proofs.Ytpfkjcjgdilkkaa
namespace Go.Proofs.Ytpfkjcjgdilkkaa
open Go Go.Abs
attribute [local irreducible] aE ah aX aP aH aJ az aK aQ bf Go.Abs.Fn aM Go.Abs.Pure ap aD Yl
end Go.Proofs.Ytpfkjcjgdilkkaa
namespace Go.Proofs.Ytpfkjcjgdilkkaa
open Go Go.Abs
def yN (l:List Int):Prop:=l.Pairwise (· < ·)
end Go.Proofs.Ytpfkjcjgdilkkaa
namespace Go.Proofs.Ytpfkjcjgdilkkaa
open Go Go.Abs
theorem yN.nodup {l:List Int} (h:yN l):l.Nodup:=List.Pairwise.imp (fun {x y} (h:x < y) e=>by omega) h
end Go.Proofs.Ytpfkjcjgdilkkaa
namespace Go.Proofs.Ytpfkjcjgdilkkaa
open Go Go.Abs
def sq (l:List (List Spx)):AV:=e5 1 av l
theorem pu (l:List (List Spx)):Dat (sq l):=nX (fun _=>rfl) bl
instance datI_encXsss {l:List (List Spx)}:DatI (sq l):=⟨pu l⟩
attribute [local irreducible] aE ah aX aP aH aJ az aK aQ bf Go.Abs.Fn aM Go.Abs.Pure ap aD Yl
end Go.Proofs.Ytpfkjcjgdilkkaa
namespace Go.Proofs.Ytpfkjcjgdilkkaa
open Go Go.Abs
attribute [local irreducible] aE ah aX aP aH aJ az aK aQ bf Go.Abs.Fn aM Go.Abs.Pure ap aD Yl
end Go.Proofs.Ytpfkjcjgdilkkaa
namespace Go.Proofs.Ytpfkjcjgdilkkaa
open Go Go.Abs
open Nat (reduceEqDiff reduceAdd reduceLeDiff)
attribute [local irreducible] aE ah aX aP aH aJ az aK aQ bf Go.Abs.Fn aM Go.Abs.Pure ap aD Yl
end Go.Proofs.Ytpfkjcjgdilkkaa
namespace Go.Proofs.Ytpfkjcjgdilkkaa
open Go Go.Abs
def t8:Nat→Spx→List Int
 | 0,_=>[]
 | n + 1,[]=>0 :: 0 :: t8 n []
 | n + 1,v :: l=>v.color :: v.label :: t8 n l
theorem mT:∀ {n:Nat} {s:Spx},(t8 n s).length=2 * n
 | 0,_=>rfl
 | n + 1,[]=>by show (t8 n []).length + 1 + 1=_; rw [mT]; omega
 | n + 1,v :: l=>by show (t8 n l).length + 1 + 1=_; rw [mT]; omega
def kZ (s:Spx):K16:=⟨t8 8 s,by rw [mT]⟩
structure BOk (H:Hp) (n:Nat) (c:Spx→Nat) (O:List Spx) (bs:List Nat) (ck:Nat):Prop where
 box:H 0=some [.bmap ((O.map kZ).map eK) (O.map aq) bs ck]
 len:bs.length=O.length
 asc:bs.Pairwise (· < ·)
 below:∀ s ∈ bs,s < ck
 nd:O.Nodup
 all:∀ f ∈ O,f.length=n
 odd:∀ f,f ∈ O ↔ c f % 2=1
theorem BOk.same {H H':Hp} {n:Nat} {c c':Spx→Nat} {O:List Spx} {bs:List Nat} {ck:Nat} (h:BOk H n c O bs ck) (hs:H' 0=H 0) (hc:∀ f,c' f % 2=c f % 2):BOk H' n c' O bs ck :=
 ⟨hs.trans h.box,h.len,h.asc,h.below,h.nd,h.all,fun f=>by rw [hc]; exact h.odd f⟩
theorem BOk.put {H H':Hp} {n:Nat} {c c':Spx→Nat} {O:List Spx} {bs:List Nat} {ck:Nat} {f:Spx} (h:BOk H n c O bs ck) (hf:f ∉ O) (hl:f.length=n) (hH:H' 0=some [.bmap ((O.map kZ).map eK ++ [eK (kZ f)]) (O.map aq ++ [aq f]) (bs ++ [ck]) (ck + 1)]) (hc:∀ g,c' g=c g + if g=f then 1 else 0):BOk H' n c' (O ++ [f]) (bs ++ [ck]) (ck + 1):=by
 refine ⟨by rw [hH]; simp,by rw [List.length_append,List.length_append,h.len]; rfl,?_,fun s hs=>?_,?_,fun g hg=>?_,fun g=>?_⟩
 ·exact List.pairwise_append.2 ⟨h.asc,List.pairwise_singleton _ _,fun a ha b hb=>by rw [List.mem_singleton.1 hb]; exact h.below a ha⟩
 ·rcases List.mem_append.1 hs with q | q
  ·have:=h.below s q; omega
  ·rw [List.mem_singleton.1 q]; omega
 ·exact List.nodup_append.2 ⟨h.nd,by simp,fun a ha b hb e=>by rw [e,List.mem_singleton.1 hb] at ha; exact hf ha⟩
 ·rcases List.mem_append.1 hg with q | q
  ·exact h.all g q
  ·rw [List.mem_singleton.1 q]; exact hl
 ·rw [List.mem_append,List.mem_singleton,h.odd,hc]
  by_cases e:g=f
  ·subst e
   have:¬ c g % 2=1:=fun q=>hf ((h.odd g).2 q)
   rw [if_pos rfl]
   exact ⟨fun _=>by omega,fun _=>.inr rfl⟩
  ·rw [if_neg e]; simp [e]
theorem ea {α β:Type} {f:α→β}:∀ {l:List α} {i:Nat},(l.map f).eraseIdx i=(l.eraseIdx i).map f
 | [],_=>rfl
 | a :: l,0=>rfl
 | a :: l,i + 1=>by show f a :: (l.map f).eraseIdx i=f a :: (l.eraseIdx i).map f; rw [ea]
theorem BOk.del {H H':Hp} {n:Nat} {c c':Spx→Nat} {O:List Spx} {bs:List Nat} {ck i:Nat} {f:Spx} (h:BOk H n c O bs ck) (hf:f ∈ O) (hi:O.idxOf f=i) (hH:H' 0=some [.bmap (((O.map kZ).map eK).eraseIdx i) ((O.map aq).eraseIdx i) (bs.eraseIdx i) ck]) (hc:∀ g,c' g=c g + if g=f then 1 else 0):BOk H' n c' (O.erase f) (bs.eraseIdx i) ck:=by
 have hil:i < O.length:=by rw [← hi]; exact List.idxOf_lt_length_iff.2 hf
 have he:O.erase f=O.eraseIdx i:=List.erase_eq_eraseIdx_of_idxOf hi
 refine ⟨?_,?_,h.asc.sublist (List.eraseIdx_sublist _ _),fun s hs=>h.below s ((List.eraseIdx_sublist _ _).subset hs),h.nd.erase _,fun g hg=>h.all g (List.mem_of_mem_erase hg),fun g=>?_⟩
 ·rw [hH,he]
  rw [ea,ea,ea]
 ·rw [he,List.length_eraseIdx_of_lt hil,List.length_eraseIdx_of_lt (by rw [h.len]; exact hil),h.len]
 ·rw [h.nd.mem_erase_iff,h.odd,hc]
  by_cases e:g=f
  ·subst e
   have:=(h.odd g).1 hf
   rw [if_pos rfl]
   constructor
   ·exact fun q=>absurd rfl q.1
   ·intro q; omega
  ·rw [if_neg e]; simp [e]
attribute [local irreducible] aE ah aX aP aH aJ az aK aQ bf Go.Abs.Fn aM Go.Abs.Pure ap aD Yl
end Go.Proofs.Ytpfkjcjgdilkkaa
namespace Go.Proofs.Ytpfkjcjgdilkkaa
open Go Go.Abs
attribute [local irreducible] aE ah aX aP aH aJ az aK aQ bf Go.Abs.Fn aM Go.Abs.Pure ap aD Yl
end Go.Proofs.Ytpfkjcjgdilkkaa
namespace Go.Proofs.Ytpfkjcjgdilkkaa
open Go Go.Abs
attribute [local irreducible] aE ah aX aP aH aJ az aK aQ bf Go.Abs.Fn aM Go.Abs.Pure ap aD Yl
end Go.Proofs.Ytpfkjcjgdilkkaa
namespace Go.Proofs.Ytpfkjcjgdilkkaa
open Go Go.Abs
end Go.Proofs.Ytpfkjcjgdilkkaa
namespace Go.Proofs.Ytpfkjcjgdilkkaa
open Go Go.Abs
attribute [local irreducible] aE ah aX aP aH aJ az aK aQ bf Go.Abs.Fn aM Go.Abs.Pure ap aD Yl
end Go.Proofs.Ytpfkjcjgdilkkaa
namespace Go.Proofs.Ytpfkjcjgdilkkaa
open Go Go.Abs
end Go.Proofs.Ytpfkjcjgdilkkaa
namespace Go.Proofs.Ytpfkjcjgdilkkaa
open Go Go.Abs
def zc (l:List Nat):AV:=e5 1 (fun n:Nat=>AV.int .u8 (n:Int)) l
theorem vw (l:List Nat):Dat (zc l):=nX (fun _=>rfl) (fun _=>Dat.int)
instance datI_encU {l:List Nat}:DatI (zc l):=⟨vw l⟩
end Go.Proofs.Ytpfkjcjgdilkkaa
namespace Go.Proofs.Ytpfkjcjgdilkkaa
open Go Go.Abs Go.RowKit
section
variable {H:Type} {enc:TypeId × Value→H} {W:World}
end
end Go.Proofs.Ytpfkjcjgdilkkaa
namespace Go.Proofs.Ytpfkjcjgdilkkaa
open Go Go.Abs Go.RowKit Go.ChangeShapes Go.WideShapes Go.ChangeAt
theorem mZ {H:Type} {enc:TypeId × Value→H} {P:Program} {f:Func} {s:ChangeSpec} {apart fresh handsOn again:Bool} {W W':World} {args:Array Value} {v:Value} {ds gs:List (DataW H)} {before pa pv:List MemPlace}
    (hW:DataW.Whole enc P f.params.toList s.vars apart W args.toList ds gs before)
    (hres:∀ (b:Nat) (sp:Nat→Bool) (hd:Bool),DataW.TrodAll enc P W' b sp hd f.resultTypes.toList (v.resultList f.resultTypes.size) (s.fn H (ds ++ gs)).results [])
    (hargs:∀ sp:Nat→Bool,(∀ p ∈ before,sp p.block=true)→DataW.TrodAll enc P W' 0 sp true f.params.toList args.toList (s.fn H (ds ++ gs)).args pa)
    (hvars:∀ sp:Nat→Bool,(∀ p ∈ before,sp p.block=true)→DataW.TrodVars enc P W' sp s.vars (s.fn H (ds ++ gs)).vars pv)
    (hps:before=pa ++ pv) (hb:Below W.heap.size W W')
    (hok:∀ (j:Nat) (t:TypeId) (r:Value),f.resultTypes[j]?=some t→(v.resultList f.resultTypes.size)[j]?=some r→Value.okWide P W' .any 0 t r) :
    s.post enc P f apart fresh handsOn again W args v W':=by
 have hold:∀ p ∈ before,(fun b=>decide (b < W.heap.size)) p.block=true:=fun p hp=>by simpa using hW.lt p hp
 have hlt:=fun p hp=>hW.lt p hp
 refine ⟨ds,gs,before,[],pa,pv,hW,hres _ _ _,hargs _ hold,hvars _ hold,World.keptBut_mono (fun p hp=>⟨hp,?_⟩) (hb.frame _),fun _=>?_⟩
 ·rw [hps,List.mem_append] at hp
  exact Or.inr hp
 ·obtain ⟨_,_,_,_,_,hz,hn⟩:=hW
  refine ⟨hok,_,_,([] ++ pa) ++ pv,⟨[] ++ pa,pv,trodAll_append (hargs _ (fun _ _=>rfl)) (hres _ _ _),hvars _ (fun _ _=>rfl),rfl,?_,?_⟩,?_⟩
  ·intro b off hp
   have hp':MemPlace.cell b off ∈ before:=by rw [hps]; simpa using hp
   rw [hb.frozen (hlt _ hp')]
   exact hz b off hp'
  ·intro ha
   have:=hn ha
   rw [hps] at this
   simpa using this
  ·intro p hp _
   rw [hps]
   simpa using hp
theorem uk {E:Env} {w:World}:bS E w [] []:=⟨rfl,fun i x y h=>(by cases h)⟩
theorem nR {E:Env} {w:World} {x:AV} {y:Value} {xs:List AV} {ys:List Value} (h:Rel E w x y) (hs:bS E w xs ys):bS E w (x :: xs) (y :: ys):=by
 refine ⟨by simp [hs.1],fun i a b ha hb=>?_⟩
 cases i with
 | zero=>simp at ha hb; subst ha hb; exact h
 | succ i=>simp at ha hb; exact hs.2 i a b ha hb
theorem own:ownKnob Try.prog.godebug=none:=by kernel_rfl
end Go.Proofs.Ytpfkjcjgdilkkaa