/- Texts of this claim, one after the other: T115, T116, T117, A33, T150, T119, T120, T151, T124, T125, T123, T126, T152, T153, T118, T121. -/
import Derived.Test.YtbgdcebmgjafjaaXG5
import Derived.Test.YtbgdcebmgjafjaaXG4
import Derived.Test.YtbgdcebmgjafjaaXG3
import Derived.Test.YtbgdcebmgjafjaaRows
import Derived.WalkKit
import Derived.ProofKit
import Derived.OpenShut

set_option linter.unusedSimpArgs false
set_option linter.unusedVariables false
namespace Go.Proofs.Ytbgdcebmgjafjaa
open Go Go.Abs
open Nat (reduceEqDiff reduceAdd reduceLeDiff)
theorem s6 {l:Spx} (ha:cq bg l) {k:Nat} (hk:k < l.length):l.getD k default ∉ l.take k:=fun hm=>by
 obtain ⟨i,hi,e⟩:=List.getElem_of_mem hm
 rw [List.length_take] at hi
 rw [List.getElem_take] at e
 have:=oG ha (i:=i) (j:=k) (by omega) hk
 rw [show l.getD i default=l[i] by simp [List.getD,show i < l.length by omega],e] at this
 exact gz.ord.irr _ this
theorem ss {m:MapV} {v:Vtx} (h:m.to.length=m.fr.length) (hv:v ∈ m.fr):(m.to.map bD).getD (m.fr.idxOf v) .undef=bD (dR m v):=by
 have:=(nA hv).1
 unfold dR
 simp [List.getD,show m.fr.idxOf v < m.to.length by omega]
theorem pX {H:Hp} {B n len:Nat} {C:List AV} {l:Spx} (hB:H B=some C) (hn:C.length=n) (hf:len * 2 ≤ n) (hl:l.length=len) (ht:C.take (len * 2)=cX l):Snap H (.msl B n 2 0 len) (ar l):=by
 refine .msl B n 2 0 len C (l.map bD) hB hn (by omega) (by simp [hl]) (fun y hy=>?_) (fun i j y a c hy hc ha=>?_)
 ·obtain ⟨v,_,rfl⟩:=List.mem_map.1 hy; rfl
 ·have hi:i < l.length:=by
    have:=(List.getElem?_eq_some_iff.1 hy).1
    simpa using this
  have hy':y=bD (l.getD i default):=by
   rw [List.getElem?_map,List.getElem?_eq_getElem hi] at hy
   simp at hy
   rw [← hy]; simp [List.getD,hi]
  subst hy'
  have hj:j < 2:=(List.getElem?_eq_some_iff.1 hc).1
  have h1:C[0 + i * 2 + j]?=(cX l)[i * 2 + j]?:=by
   rw [← ht,List.getElem?_take,if_pos (by omega)]; congr 1; omega
  have h2:(cX l)[i * 2 + j]?=(((cX l).drop (i * 2)).take 2)[j]?:=by
   rw [List.getElem?_take,if_pos hj,List.getElem?_drop]
  rw [h1,h2,rdX hi] at ha
  have:[AV.int .i64 (l.getD i default).color,AV.int .i64 (l.getD i default).label][j]?=some c:=hc
  rw [this] at ha
  cases ha
  match j,hj with
  | 0,_=>cases this; exact .int _ _
  | 1,_=>cases this; exact .int _ _
attribute [local irreducible] az ag aY aZ aE aP ay aQ a9 bh Go.Abs.Fn aX Go.Abs.Pure ax aC Yl
set_option maxHeartbeats 1000000 in
theorem vB (m:MapV) (hm:ShM m) (H:Hp) (nx:Nat):Abs.Fn Try.prog 28 [o9 m] H nx fun r H' nx'=>(∀ x,x < nx→H' x=H x)∧nx ≤ nx'∧((fg m=0∧∃ b,r=.tup [.mp b,.int .i64 0]∧nx ≤ b∧b < nx'∧H' b=some [.omap (m.fr.map bD) (m.to.map bD)]) ∨ (fg m ≠ 0∧r=.tup [.undef,.int .i64 (fg m)])):=by
 refine Abs.Fn.of_c2 follows v5 (Nat.le_of_ble_eq_true rfl) ?_
 simp only [b28,cO,cG,cN,cM,cD,cF,cB,aq,aR]
 have hc:=oS m hm
 have hm1':m.fr.length ≤ 17592186044416:=hm.1
 by_cases he:fg m=0
 rotate_left
 ·have z:decide (fg m ≠ 0)=true:=decide_eq_true he
  (have zz:=aI @ao (aI @bd (aI @aU @z)); repeat' (first|refine zW ?_|apply a_n|apply a_r|refine zO ?_|refine vY ?_|refine cY ?_ (hp:=hc) (hs:=by (first | refine aa ?_ rfl | apply ac); (repeat' (first | exact ab | apply am | apply ae | exact bM _)); first | done | fail)|refine bxY ?_|refine cTY ?_|refine an rfl ?_|refine r2Y ?_|fail)) <;> (try clear zz)
  exact ⟨fun x hx=>ai (by omega),by omega,.inr ⟨he,rfl⟩⟩
 rw [he] at hc
 obtain ⟨q1,q2,q3,q4,q5⟩:=p9 he
 have z:decide ((0:Int) ≠ 0)=false:=rfl
 (have zz:=aI @ao (aI @bd (aI @aU @z)); repeat' (first|refine zW ?_|apply a_n|refine zO ?_|refine vY ?_|refine cY ?_ (hp:=hc) (hs:=by (first | refine aa ?_ rfl | apply ac); (repeat' (first | exact ab | apply am | apply ae | exact bM _)); first | done | fail)|refine bxY ?_|refine cFY ?_|fail)) <;> (try clear zz)
 refine we ?_
 (have zz:=@ao; repeat' (first|refine zW ?_|apply a_n|refine zO ?_|refine vY ?_|fail)) <;> (try clear zz)
 refine a8 (X:=Nat) (fun k=>[(1,.ptr nx 2 0),(5,.mp (nx + 1)),(15,ar m.fr),(16,.int .i64 m.fr.length),(17,.int .i64 k)]) (fun k H' nx'=>k ≤ m.fr.length∧H' nx=some [ar m.fr,ar m.to]∧H' (nx + 1)=some [.omap ((m.fr.take k).map bD) ((m.to.take k).map bD)]∧(∀ x,x < nx→H' x=H x)∧nx + 2 ≤ nx') (fun k=>m.fr.length - k) 0 ⟨Nat.zero_le _,by rw [ai (by omega),ak],ak,fun x hx=>by rw [ai (by omega),ai (by omega)],by omega⟩ (by simp (disch:=omega) only [agr,ZG,reduceEqDiff,↓reduceIte,List.length_cons,List.length_nil,Nat.zero_add,reduceAdd]) ?_
 rintro k H1 nx1 ⟨h1,g0,g1,h2,hnx⟩
 by_cases hk:k < m.fr.length
 rotate_left
 ·obtain rfl:k=m.fr.length:=by omega
  rw [List.take_length,List.take_of_length_le (by omega)] at g1
  (have zz:=and_self; repeat' (first|refine zW ?_|apply a_n|apply a_x|refine zO ?_|refine vY ?_|(refine zGY ?_ ?_ <;> (intro _hg; try (exfalso; omega)))|refine an rfl ?_|refine r2Y ?_|fail)) <;> (try clear zz)
  exact ⟨h2,by omega,.inl ⟨he,nx + 1,rfl,by omega,by omega,g1⟩⟩
 have ix:=ix2 hk
 have it:=ix2 (l:=m.to) (k:=k) (by omega)
 have hnt:=s6 q3 hk
 have hmf:=si (m.fr.getD k default) (m.fr.take k)
 rw [if_neg hnt] at hmf
 have e1:(m.fr.take (k + 1)).map bD=(m.fr.take k).map bD ++ [bD (m.fr.getD k default)]:=by rw [dA hk,List.map_append]; rfl
 have e2:(m.to.take (k + 1)).map bD=(m.to.take k).map bD ++ [bD (m.to.getD k default)]:=by rw [dA (by omega),List.map_append]; rfl
 generalize m.fr.getD k default=v at *
 generalize m.to.getD k default=w at *
 (have zz:=@ix; repeat' (first|refine zW ?_|apply a_n|refine zO ?_|refine vY ?_|refine alY ?_|refine stY ?_|(refine zGY ?_ ?_ <;> (intro _hg; try (exfalso; omega)))|fail)) <;> (try clear zz)
 refine kp (c2:=[.int .i64 v.color,.int .i64 v.label]) nx nx1 (by rw [ai (by omega),ai (by omega)]; exact g0) (by rw [ak]; rfl) (by omega) fun S hS0 hS1 _=>?_
 (have zz:=aI @hS0 (aI @hS1 @it); repeat' (first|apply a_n|refine zO ?_|refine nvY ?_|apply nU|fail)) <;> (try clear zz)
 refine u4 ev0 (by rw [ai (by omega),ai (by omega)]; exact g1) ev0 ev0 (sF v) hmf ?_
 (have zz:=and_self; repeat' (first|apply a_n|refine zO ?_|refine vY ?_|fail)) <;> (try clear zz)
 refine ⟨k + 1,by omega,⟨by omega,by (repeat rw [ai (by omega)]); exact g0,?_,fun x hx=>by (repeat rw [ai (by omega)]); exact h2 x hx,by omega⟩,ag0⟩
 rw [ak,e1,e2]; rfl
theorem xZ:Cmp2 Try.prog bD bg (fun _=>True) 31 [] where
 len _:=rfl
 agg _:=rfl
 ones _:=rfl
 dat x:=bE x
 dcaps x hx:=by cases hx
 run x y _ _:=lR x y
 ord:=gz.ord
theorem xu (m:MapV) (l:Spx) (hlen:m.to.length=m.fr.length) (hl:l.length ≤ 100000) (hl0:l ≠ []) (b:Nat) (H:Hp) (nx:Nat) (hb:H b=some [.omap (m.fr.map bD) (m.to.map bD)]) (hbn:b < nx):Abs.Fn Try.prog 36 [.mp b,ar l] H nx fun r H' nx'=>nx ≤ nx'∧((fq m l=false∧r=.tup [.esl,.bool false]∧∀ x,x < nx→H' x=H x) ∨ (fq m l=true∧∃ sv Hf H2,r=.tup [sv,.bool true]∧sv.one=true∧Fz Hf H' H2∧Snap Hf sv (ar (bu m l))∧∀ x,x < nx→H2 x=H x)):=by
 refine Abs.Fn.of_c2 follows v7 (Nat.le_of_ble_eq_true rfl) ?_
 simp only [b36,cO,cG,cN,cM,cD,cF,cB,aq,aR]
 (have zz:=@ao; repeat' (first|refine zW ?_|apply a_n|refine zO ?_|refine vY ?_|fail)) <;> (try clear zz)
 refine a8 (X:=AV × Nat) (fun x=>[(0,.mp b),(6,x.1),(11,ar l),(12,.int .i64 l.length),(13,.int .i64 x.2)]) (fun x H' nx'=>x.2 ≤ l.length∧(∀ y,y < nx→H' y=H y)∧nx ≤ nx'∧Row H' 2 x.1 (cX ((l.take x.2).map (dR m)))∧(∀ B,eg x.1=some B→nx ≤ B∧B < nx')∧∀ i,i < x.2→decide (l.getD i default ∈ m.fr)=true) (fun x=>l.length - x.2) (.esl,0) ⟨Nat.zero_le _,fun _ _=>rfl,Nat.le_refl _,Row.nil,fun B h=>(by cases h),fun i h=>absurd h (by omega)⟩ ag0 ?_
 rintro ⟨sv,k⟩ H1 nx1 ⟨h1,h2,h3,hrow,hbd,hz⟩
 dsimp only at h1 hrow hbd hz ⊢
 by_cases hk:k < l.length
 rotate_left
 ·rw [List.take_of_length_le (by omega)] at hrow
  have ht:fq m l=true:=sL fun i hi=>hz i (by omega)
  have hpos:0 < l.length:=List.length_pos_iff.2 hl0
  generalize hM:l.map (dR m)=M at *
  have hMl:M.length=l.length:=by rw [← hM,List.length_map]
  have himg:bu m l=il bg M:=by unfold bu; rw [hM]
  obtain ⟨B,rfl,hB⟩:∃ B,sv=.msl B (M.length * 2) 2 0 M.length∧H1 B=some (cX M):=by
   generalize hcs:cX M=cs at hrow
   have hcl:=f8 M
   cases hrow with
   | nil=>rw [hcs] at hcl; simp at hcl; omega
   | box B len cs g1 g2 =>
    obtain rfl:len=M.length:=by rw [← hcs,hcl] at g2; omega
    exact ⟨B,rfl,g1⟩
  have hBb:=hbd B rfl
  (have zz:=and_self; repeat' (first|refine zW ?_|apply a_n|apply a_x|refine zO ?_|refine vY ?_|(refine zGY ?_ ?_ <;> (intro _hg; try (exfalso; omega)))|fail)) <;> (try clear zz)
  refine aw ev0 ev0 (t5 xZ (L:=M) (b:=B) (nx:=nx1) (n:=M.length) hB (by omega) rfl (by omega) (fun _ _=>trivial) (by omega)) ?_
  rintro _ H3 nx3 ⟨L,ps,hperm,hsort⟩
  have hLl:L.length=M.length:=hperm.length_eq
  have hL0:L ≠ []:=fun e=>by rw [e] at hLl; simp at hLl; omega
  have hB3:H3 B=some (cX L):=ps.at_
  rw [← hLl]
  (have zz:=and_self; repeat' (first|refine zW ?_|apply a_n|refine zO ?_|refine vY ?_|fail)) <;> (try clear zz)
  refine aw ev0 ev0 (pI L (show _ ≤ _ by omega) hL0 H3 B nx3 hB3 (by have:=ps.le; omega)) ?_
  rintro _ H4 nx4 ⟨rfl,⟨C,rfl,c1,c2⟩,rfl⟩
  have hd:dq L L.length=il bg M:=sa gz hperm (by rw [hLl]; exact hsort)
  rw [hd] at c2
  have hle:=s9 L L.length
  have hdl:=rQ L L.length
  rw [hd] at hdl
  (have zz:=and_self; repeat' (first|apply a_n|refine zO ?_|refine vY ?_|refine an rfl ?_|refine r2Y ?_|fail)) <;> (try clear zz)
  refine ⟨by have:=ps.le; omega,.inr ⟨ht,.msl B (L.length * 2) 2 0 (bw L L.length),only B C,bm (af H3 B C) B,rfl,rfl,Fz.one ak,?_,fun x hx=>?_⟩⟩
  ·rw [himg]
   exact pX nG c1 (by omega) hdl c2
  ·rw [gu (by omega),ai (by omega),ps.fr x (by omega) (by omega)]; exact h2 x hx
 have ix:=ix2 hk
 have hb1:H1 b=some [.omap (m.fr.map bD) (m.to.map bD)]:=(h2 b hbn).trans hb
 have hmf:=si (l.getD k default) m.fr
 have hcl:(cX ((l.take k).map (dR m))).length=k * 2:=by rw [f8,List.length_map,List.length_take]; omega
 have e1:(l.take (k + 1)).map (dR m)=(l.take k).map (dR m) ++ [dR m (l.getD k default)]:=by rw [dA hk,List.map_append]; rfl
 by_cases hv:l.getD k default ∈ m.fr
 rotate_left
 ·have ht:fq m l=false:=ry hk (decide_eq_false hv)
  rw [if_neg hv] at hmf
  generalize l.getD k default=v at *
  (have zz:=@ix; repeat' (first|refine zW ?_|apply a_n|refine zO ?_|refine vY ?_|refine alY ?_|refine stY ?_|(refine zGY ?_ ?_ <;> (intro _hg; try (exfalso; omega)))|fail)) <;> (try clear zz)
  refine sG ev0 (by rw [ai (by omega),ai (by omega)]; exact hb1) ev0 (sF v) hmf ?_
  rw [show mget (.agg [.int .i64 0,.int .i64 0]) true none (m.to.map bD)=.tup [.agg [.int .i64 0,.int .i64 0],.bool false] from rfl]
  (have zz:=and_self; repeat' (first|refine zW ?_|apply a_n|apply a_r|refine zO ?_|refine vY ?_|refine alY ?_|refine stY ?_|refine cTY ?_|refine an rfl ?_|refine r2Y ?_|fail)) <;> (try clear zz)
  exact ⟨by omega,.inl ⟨ht,rfl,fun x hx=>by (repeat rw [ai (by omega)]); exact h2 x hx⟩⟩
 rw [if_pos hv] at hmf
 have hmg:=ss hlen hv
 have hzz:∀ i,i < k + 1→decide (l.getD i default ∈ m.fr)=true:=fun i hi=>by
  rcases Nat.lt_succ_iff_lt_or_eq.1 hi with h' | rfl
  ·exact hz i h'
  ·exact decide_eq_true hv
 generalize l.getD k default=v at *
 generalize dR m v=w at *
 (have zz:=@ix; repeat' (first|refine zW ?_|apply a_n|refine zO ?_|refine vY ?_|refine alY ?_|refine stY ?_|(refine zGY ?_ ?_ <;> (intro _hg; try (exfalso; omega)))|fail)) <;> (try clear zz)
 refine sG ev0 (by rw [ai (by omega),ai (by omega)]; exact hb1) ev0 (sF v) hmf ?_
 rw [show mget (.agg [.int .i64 0,.int .i64 0]) true (some (m.fr.idxOf v)) (m.to.map bD)=.tup [(m.to.map bD).getD (m.fr.idxOf v) .undef,.bool true] from rfl,hmg]
 (have zz:=and_self; repeat' (first|refine zW ?_|apply a_n|refine zO ?_|refine vY ?_|refine alY ?_|refine stY ?_|refine blY ?_|refine cFY ?_|fail)) <;> (try clear zz)
 refine qq rfl ev0 (hrow.same fun B hB=>?_) ev0 mv rfl rfl (by omega) (by omega) (by omega) ?_
 ·have:=hbd B hB; (repeat rw [ai (by omega)])
 rintro s2 H2 nx2 hr2 i1 i2 i3 i4
 (have zz:=and_self; repeat' (first|apply a_n|refine zO ?_|refine vY ?_|fail)) <;> (try clear zz)
 refine ⟨(s2,k + 1),by dsimp only; omega,⟨by dsimp only; omega,fun y hy=>?_,by omega,?_,fun B hB=>?_,hzz⟩,ag0⟩
 ·rw [i3 y (by omega) (fun h=>by have:=hbd y h; omega)]
  (repeat rw [ai (by omega)]); exact h2 y hy
 ·dsimp only
  rw [e1,iO]; exact hr2
 ·rcases i4 B hB with h | h
  ·have:=hbd B h; omega
  ·omega
end Go.Proofs.Ytbgdcebmgjafjaa
namespace Go.Proofs.Ytbgdcebmgjafjaa
open Go Go.Abs
attribute [local irreducible] az ag aY aZ aE aP ay aQ a9 bh Go.Abs.Fn aX Go.Abs.Pure ax aC Yl
end Go.Proofs.Ytbgdcebmgjafjaa
namespace Go.Proofs.Ytbgdcebmgjafjaa
open Go Go.Abs
attribute [local irreducible] az ag aY aZ aE aP ay aQ a9 bh Go.Abs.Fn aX Go.Abs.Pure ax aC Yl
end Go.Proofs.Ytbgdcebmgjafjaa
namespace Go.Proofs.Ytbgdcebmgjafjaa
open Go Go.Abs
def wt:List (Nat × F2):=[(6,b6),(23,b23),(22,b22),(25,b25),(24,b24),(26,b26),(13,b13),(17,b17),(43,b43),(54,b54),(52,b52),(9,b9),(14,b14),(27,b27),(28,b28),(44,b44),(45,b45),(46,b46),(47,b47),(48,b48),(49,b49),(50,b50),(51,b51),(36,b36),(53,b53),(20,b20),(39,b39),(55,b55),(12,b12),(73,b73),(74,b74),(77,b77),(30,b30),(31,b31),(37,b37),(38,b38),(75,b75),(76,b76),(15,b15),(33,b33),(58,b58),(59,b59),(78,b78),(42,b42),(35,b35),(34,b34),(86,b86),(87,b87),(89,b89),(19,b19),(56,b56),(57,b57),(60,b60),(61,b61),(62,b62),(80,b80),(41,b41),(99,b99),(40,b40),(79,b79),(90,b90),(72,b72),(63,b63)]
theorem wg:fU Try.prog (lookup wt) :=
 (aj is6 (aj x8 (aj xX (aj xV (aj yq (aj xy (aj wA (aj wK (aj xG (aj wS (aj yr (aj is9 (aj wI (aj xx (aj v5 (aj xH (aj xA (aj xB (aj ym (aj yt (aj yb (aj xS (aj xw (aj v7 (aj yf (aj xc (aj xp (aj xL (aj w9 (aj xP (aj xC (aj xY (aj wT (aj xi (aj wu (aj v6 (aj xF (aj xT (aj wy (aj xl (aj wo (aj xj (aj ye (aj xg (aj wr (aj wc (aj xM (aj xU (aj xW (aj wB (aj xd (aj w7 (aj wE (aj wh (aj ve (aj wN (aj wZ (aj xK (aj wD (aj wd (aj wY (aj wR (aj wx rt)))))))))))))))))))))))))))))))))))))))))))))))))))))))))))))))
set_option maxRecDepth 100000 in
theorem eK:Go.Abs.Pure Try.prog 6 [] (.bool true):=Pure.of_run follows wg (pf:=uU [13,22,23,24,25,17,26,27]) (n:=2000) (good:=isTrue) (by decide +kernel) rl
end Go.Proofs.Ytbgdcebmgjafjaa
namespace Go.Proofs.Ytbgdcebmgjafjaa
open Go Go.Abs
attribute [local irreducible] az ag aY aZ aE aP ay aQ a9 bh Go.Abs.Fn aX Go.Abs.Pure ax aC Yl
end Go.Proofs.Ytbgdcebmgjafjaa
namespace Go.Proofs.Ytbgdcebmgjafjaa
open Go Go.Abs
def bf:Spx→Nat→List Spx
 | _,0=>[[]]
 | [],_ + 1=>[]
 | x :: l,k + 1=>(bf l k).map (x :: ·) ++ bf l (k + 1)
theorem la {l:Spx}:bf l 0=[[]]:=by cases l <;> rfl
theorem oV {k:Nat}:bf [] (k + 1)=[]:=rfl
theorem gr {x:Vtx} {l:Spx} {k:Nat}:bf (x :: l) (k + 1)=(bf l k).map (x :: ·) ++ bf l (k + 1):=rfl
theorem bj:∀ {l:Spx} {k:Nat} {s:Spx},s ∈ bf l k ↔ s.Sublist l∧s.length=k
 | l,0,s=>by
  rw [la,List.mem_singleton]
  exact ⟨fun h=>by subst h; exact ⟨List.nil_sublist _,rfl⟩,fun h=>List.length_eq_zero_iff.1 h.2⟩
 | [],k + 1,s=>by
  rw [oV]
  refine ⟨fun h=>(by cases h),fun ⟨h1,h2⟩=>?_⟩
  rw [List.sublist_nil] at h1
  subst h1; simp at h2
 | x :: l,k + 1,s=>by
  rw [gr,List.mem_append,List.mem_map,bj]
  constructor
  ·rintro (⟨t,ht,rfl⟩ | ⟨h1,h2⟩)
   ·have:=bj.1 ht
    exact ⟨this.1.cons_cons x,by simp [this.2]⟩
   ·exact ⟨h1.cons x,h2⟩
  ·rintro ⟨h1,h2⟩
   cases h1 with
   | cons _ h=>exact .inr ⟨h,h2⟩
   | cons_cons _ h=>exact .inl ⟨_,bj.2 ⟨h,by simpa using h2⟩,rfl⟩
def chK:Nat→Nat→Nat
 | _,0=>1
 | 0,_ + 1=>0
 | n + 1,k + 1=>chK n k + chK n (k + 1)
theorem wn {n:Nat}:chK n 0=1:=by cases n <;> rfl
theorem lU:∀ {l:Spx} {k:Nat},(bf l k).length=chK l.length k
 | l,0=>by rw [la,wn]; rfl
 | [],k + 1=>rfl
 | x :: l,k + 1=>by
  rw [gr,List.length_append,List.length_map,lU,lU]; rfl
theorem vo {n k:Nat} (hn:n ≤ 8):chK n k ≤ 70:=by
 by_cases hk:k ≤ 8
 ·have:∀ n,n < 9→∀ k,k < 9→chK n k ≤ 70:=by decide
  exact this n (by omega) k (by omega)
 ·have:∀ n k,n < k→chK n k=0:=by
    intro n
    induction n with
    | zero=>intro k h; match k,h with | k + 1,_=>rfl
    | succ n ih=>intro k h; match k,h with | k + 1,h=>show chK n k + chK n (k + 1)=0; rw [ih k (by omega),ih (k + 1) (by omega)]
  rw [this n k (by omega)]; omega
theorem qz {l:Spx} {k:Nat} (h:l.length ≤ 8):(bf l k).length ≤ 70:=by rw [lU]; exact vo h
theorem eX {l s:Spx} {k:Nat} (hl:cq bg l) (hs:s ∈ bf l k):cq bg s:=hl.sublist (bj.1 hs).1
theorem q0 {l:Spx} {i k:Nat} (hi:i < l.length):bf (l.drop i) (k + 1)=(bf (l.drop (i + 1)) k).map (l.getD i default :: ·) ++ bf (l.drop (i + 1)) (k + 1):=by
 rw [List.drop_eq_getElem_cons hi,gr]
 simp [List.getD,hi]
theorem mg {v w:Vtx} {l m:Spx}:bW (v :: l) (w :: m)=if bg v w ≠ 0 then bg v w else bW l m:=rfl
theorem rf {v:Vtx} {l m:Spx}:bW (v :: l) (v :: m)=bW l m:=by
 rw [mg,if_neg (fun h=>h (ee.2 rfl))]
theorem dl:∀ {l:Spx} {k:Nat},cq bg l→cq bW (bf l k)
 | l,0,_=>by rw [la]; exact List.pairwise_singleton _ _
 | [],k + 1,_=>List.Pairwise.nil
 | x :: l,k + 1,h=>by
  have h':=List.pairwise_cons.1 h
  rw [gr]
  unfold cq
  rw [List.pairwise_append]
  refine ⟨?_,dl h'.2,?_⟩
  ·rw [List.pairwise_map]
   exact List.Pairwise.imp (fun {a b} hab=>by rw [rf]; exact hab) (dl (k:=k) h'.2)
  ·intro a ha b hb
   obtain ⟨t,_,rfl⟩:=List.mem_map.1 ha
   have hb':=bj.1 hb
   cases b with
   | nil=>simp at hb'
   | cons y r =>
    have hy:y ∈ l:=hb'.1.subset List.mem_cons_self
    have:=h'.1 y hy
    rw [mg,if_pos (by omega)]
    exact this
end Go.Proofs.Ytbgdcebmgjafjaa
namespace Go.Proofs.Ytbgdcebmgjafjaa
open Go Go.Abs
theorem bG {m:MapV} {l:Spx} {w:Vtx}:w ∈ bu m l ↔ ∃ v ∈ l,dR m v=w:=by
 unfold bu; rw [er,List.mem_map]
theorem dJ {m:MapV} {l:Spx}:cq bg (bu m l):=fO gz _
theorem ie {m:MapV} {l:Spx}:(bu m l).length ≤ l.length:=by
 unfold bu
 have:=sP (K:=bg) (l:=l.map (dR m))
 rwa [List.length_map] at this
theorem uw {m:MapV} {l:Spx} (h:l ≠ []):bu m l ≠ []:=fun e=>h (by unfold bu at e; rwa [sH,List.map_eq_nil_iff] at e)
theorem gR {m:MapV} {l:Spx}:fq m l=true ↔ ∀ v ∈ l,v ∈ m.fr:=by
 unfold fq; simp [List.all_eq_true]
theorem ro {m:MapV} {l:Spx} (hm:fg m=0) (hl:ca l=0) (ht:fq m l=true):ca (bu m l)=0:=by
 obtain ⟨q1,q2,q3,q4,q5⟩:=p9 hm
 obtain ⟨p1,p2,p3,p4⟩:=j0 hl
 have hne:l ≠ []:=fun e=>by rw [e] at p1; simp at p1
 refine ou ⟨List.length_pos_iff.2 (uw hne),Nat.le_trans ie p2⟩ dJ fun w hw=>?_
 obtain ⟨v,v1,rfl⟩:=bG.1 hw
 exact q5 _ (tg q2 (gR.1 ht v v1))
def jn (m:MapV) (l:Spx):Spx × Int:=if fg m ≠ 0 then ([],fg m) else if ca l ≠ 0 then ([],ca l) else if fq m l=false then ([],6) else (bu m l,0)
end Go.Proofs.Ytbgdcebmgjafjaa
namespace Go.Proofs.Ytbgdcebmgjafjaa
open Go Go.Abs
section
variable {α:Type} [DecidableEq α] {K:α→α→Int}
theorem qS (hK:LinK K) {a b:List α} (ha:cq K a) (hb:cq K b) (h:∀ x ∈ a,x ∈ b):a.Sublist b:=by
 have:a=b.filter fun x=>decide (x ∈ a):=by
  refine dt hK ha (List.Pairwise.sublist List.filter_sublist hb) fun x=>?_
  rw [List.mem_filter,decide_eq_true_eq]
  exact ⟨fun h'=>⟨h x h',h'⟩,And.right⟩
 rw [this]
 exact List.filter_sublist
theorem hU:∀ {L S:List α},S.Nodup→(∀ x,x ∈ S ↔ x ∈ L)→L.length ≤ S.length→L.Nodup
 | [],_,_,_,_=>List.nodup_nil
 | a :: L,S,hS,hm,hl=>by
  have ha:a ∉ L:=fun ha=>by
   have:=List.Nodup.length_le_of_subset hS (l₂:=L) fun x hx=>by
    rcases List.mem_cons.1 ((hm x).1 hx) with rfl | h
    ·exact ha
    ·exact h
   simp at hl; omega
  have haS:a ∈ S:=(hm a).2 List.mem_cons_self
  refine List.nodup_cons.2 ⟨ha,hU (S:=S.erase a) (hS.erase a) (fun x=>?_) ?_⟩
  ·rw [hS.mem_erase_iff,hm,List.mem_cons]
   exact ⟨fun ⟨h1,h2⟩=>h2.resolve_left h1,fun h=>⟨fun e=>ha (e ▸ h),.inr h⟩⟩
  ·rw [List.length_erase_of_mem haS]; simp at hl; omega
theorem lh (hK:LinK K) {L:List α}:L.length ≤ (il K L).length ↔ L.Nodup:=by
 constructor
 ·exact fun h=>hU ((fO hK L).nodup hK) (fun x=>er) h
 ·intro h
  exact List.Nodup.length_le_of_subset h fun x hx=>er.2 hx
end
section
variable {g:Vtx→Vtx}
theorem rX {l:Spx} (hn:l.Nodup) (h:∀ u ∈ l,∀ v ∈ l,g u=g v→u=v):(l.map g).Nodup:=by
 unfold List.Nodup
 rw [List.pairwise_map]
 refine List.Pairwise.imp_of_mem (fun {a b} ha hb hab e=>hab (h a ha b hb e)) hn
theorem d8:∀ {l:Spx},(l.map g).Nodup→∀ u ∈ l,∀ v ∈ l,g u=g v→u=v
 | [],_,u,hu,_,_,_=>by cases hu
 | a :: l,h,u,hu,v,hv,e=>by
  rw [List.map_cons] at h
  obtain ⟨h1,h2⟩:=List.nodup_cons.1 h
  rcases List.mem_cons.1 hu with h3 | h3
  ·rcases List.mem_cons.1 hv with h4 | h4
   ·rw [h3,h4]
   ·exact absurd (List.mem_map.2 ⟨v,h4,by rw [← e,h3]⟩) h1
  ·rcases List.mem_cons.1 hv with h4 | h4
   ·exact absurd (List.mem_map.2 ⟨u,h3,by rw [e,h4]⟩) h1
   ·exact d8 h2 u h3 v h4 e
end
def fT (S:List Spx) (y:Spx):List Spx:=if y ∈ S then S.erase y else S ++ [y]
def eO (m:MapV) (S:List Spx) (x:Spx):List Spx:=if (bu m x).length < x.length then S else fT S (bu m x)
def bZ (m:MapV) (x:Spx):Bool:=decide (x.length ≤ (bu m x).length)
theorem fx {m:MapV}:∀ {L S:List Spx},L.foldl (eO m) S=((L.filter (bZ m)).map (bu m)).foldl fT S
 | [],S=>rfl
 | x :: L,S=>by
  rw [List.foldl_cons,fx]
  unfold eO
  by_cases h:(bu m x).length < x.length
  ·rw [if_pos h,List.filter_cons_of_neg (by unfold bZ; simp; omega)]
  ·rw [if_neg h,List.filter_cons_of_pos (by unfold bZ; simp; omega),List.map_cons,List.foldl_cons]
theorem gY:∀ {Y S:List Spx},Y.Nodup→(∀ y ∈ Y,y ∉ S)→Y.foldl fT S=S ++ Y
 | [],S,_,_=>by simp
 | y :: Y,S,h,hd=>by
  obtain ⟨h1,h2⟩:=List.nodup_cons.1 h
  rw [List.foldl_cons]
  have:fT S y=S ++ [y]:=by unfold fT; rw [if_neg (hd y List.mem_cons_self)]
  rw [this,gY h2 fun z hz hm=>?_,List.append_assoc]; rfl
  rcases List.mem_append.1 hm with h' | h'
  ·exact hd z (List.mem_cons_of_mem _ hz) h'
  ·simp at h'; subst h'; exact h1 hz
theorem ef {m:MapV} {x:Spx}:bZ m x=true ↔ (x.map (dR m)).Nodup:=by
 unfold bZ
 rw [decide_eq_true_eq]
 have:=lh (K:=bg) gz (L:=x.map (dR m))
 rw [List.length_map] at this
 exact this
theorem pQ {m:MapV} {l:Spx} (hl:cq bg l) (hk:bZ m l=true):((bf l (l.length - 1)).foldl (eO m) []).Nodup∧∀ y,y ∈ (bf l (l.length - 1)).foldl (eO m) [] ↔ y ∈ bf (bu m l) ((bu m l).length - 1):=by
 have hnd:=ef.1 hk
 have hinj:=d8 hnd
 have hln:=hl.nodup gz
 have hlen:(bu m l).length=l.length:=by
  have h1:=ie (m:=m) (l:=l)
  have h2:=of_decide_eq_true hk
  omega
 have hkx:∀ x,x.Sublist l→bZ m x=true:=fun x hx=>ef.2 (hnd.sublist (hx.map _))
 have hkl:∀ x,x.Sublist l→(bu m x).length=x.length:=fun x hx=>by
  have h1:=ie (m:=m) (l:=x)
  have h2:=of_decide_eq_true (hkx x hx)
  omega
 rw [fx,List.filter_eq_self.2 fun x hx=>hkx x (bj.1 hx).1]
 have hY:((bf l (l.length - 1)).map (bu m)).Nodup:=by
  unfold List.Nodup
  rw [List.pairwise_map]
  refine List.Pairwise.imp_of_mem (fun {a b} ha hb hab e=>hab ?_) ((dl hl).nodup pk)
  obtain ⟨a1,a2⟩:=bj.1 ha
  obtain ⟨b1,b2⟩:=bj.1 hb
  refine dt gz (eX hl ha) (eX hl hb) fun v=>?_
  constructor
  ·intro hv
   have:dR m v ∈ bu m b:=by rw [← e]; exact bG.2 ⟨v,hv,rfl⟩
   obtain ⟨w,w1,w2⟩:=bG.1 this
   rw [← hinj w (b1.subset w1) v (a1.subset hv) w2]; exact w1
  ·intro hv
   have:dR m v ∈ bu m a:=by rw [e]; exact bG.2 ⟨v,hv,rfl⟩
   obtain ⟨w,w1,w2⟩:=bG.1 this
   rw [← hinj w (a1.subset w1) v (b1.subset hv) w2]; exact w1
 rw [gY hY (fun y _=>by simp),List.nil_append]
 refine ⟨hY,fun y=>?_⟩
 rw [List.mem_map,bj]
 constructor
 ·rintro ⟨x,hx,rfl⟩
  obtain ⟨x1,x2⟩:=bj.1 hx
  refine ⟨qS gz dJ dJ fun w hw=>?_,by rw [hkl x x1,hlen]; exact x2⟩
  obtain ⟨v,v1,v2⟩:=bG.1 hw
  exact bG.2 ⟨v,x1.subset v1,v2⟩
 ·rintro ⟨y1,y2⟩
  have hxs:(l.filter fun v=>decide (dR m v ∈ y)).Sublist l:=List.filter_sublist
  have hxy:bu m (l.filter fun v=>decide (dR m v ∈ y))=y:=by
   refine dt gz dJ (List.Pairwise.sublist y1 dJ) fun w=>?_
   rw [bG]
   constructor
   ·rintro ⟨v,v1,rfl⟩
    exact of_decide_eq_true (List.mem_filter.1 v1).2
   ·intro hw
    obtain ⟨v,v1,rfl⟩:=bG.1 (y1.subset hw)
    exact ⟨v,List.mem_filter.2 ⟨v1,decide_eq_true hw⟩,rfl⟩
  refine ⟨_,bj.2 ⟨hxs,?_⟩,hxy⟩
  rw [← hkl _ hxs,hxy,y2,hlen]
theorem pK {m:MapV} {l:Spx} (hl:cq bg l) (h0:l ≠ []) (hk:bZ m l=false):(bf l (l.length - 1)).foldl (eO m) []=[]:=by
 have hln:=hl.nodup gz
 have hpos:=List.length_pos_iff.2 h0
 obtain ⟨u,hu,v,hv,huv,hne⟩:∃ u,u ∈ l∧∃ v,v ∈ l∧dR m u=dR m v∧u ≠ v:=by
  refine Classical.byContradiction fun hn=>?_
  have:bZ m l=true:=ef.2 (rX hln fun u hu v hv e=>Classical.byContradiction fun hne=>hn ⟨u,hu,v,hv,e,hne⟩)
  rw [this] at hk; cases hk
 have hface:∀ z ∈ l,l.erase z ∈ bf l (l.length - 1):=fun z hz=>bj.2 ⟨List.erase_sublist,List.length_erase_of_mem hz⟩
 have hmiss:∀ x ∈ bf l (l.length - 1),∀ z ∈ l,z ∉ x→x=l.erase z:=fun x hx z hz hzx=>by
  obtain ⟨x1,x2⟩:=bj.1 hx
  have hs:x.Sublist (l.erase z):=qS gz (eX hl hx) (List.Pairwise.sublist List.erase_sublist hl) fun w hw=>(hln.mem_erase_iff).2 ⟨fun e=>hzx (e ▸ hw),x1.subset hw⟩
  exact hs.eq_of_length (by rw [List.length_erase_of_mem hz,x2])
 have himg:∀ z ∈ l,(∃ z' ∈ l,dR m z'=dR m z∧z' ≠ z)→bu m (l.erase z)=bu m l:=fun z hz ⟨z',h1,h2,h3⟩=>by
  refine dt gz dJ dJ fun w=>?_
  rw [bG,bG]
  constructor
  ·rintro ⟨a,a1,a2⟩; exact ⟨a,List.mem_of_mem_erase a1,a2⟩
  ·rintro ⟨a,a1,a2⟩
   by_cases e:a=z
   ·exact ⟨z',(hln.mem_erase_iff).2 ⟨h3,h1⟩,by rw [h2,← e]; exact a2⟩
   ·exact ⟨a,(hln.mem_erase_iff).2 ⟨e,a1⟩,a2⟩
 have iu:=himg u hu ⟨v,hv,huv.symm,fun e=>hne e.symm⟩
 have iv:=himg v hv ⟨u,hu,huv,hne⟩
 have hxy:l.erase u ≠ l.erase v:=fun e=>by
  have:v ∈ l.erase u:=(hln.mem_erase_iff).2 ⟨fun e=>hne e.symm,hv⟩
  rw [e] at this
  exact ((hln.mem_erase_iff).1 this).1 rfl
 have honly:∀ x ∈ bf l (l.length - 1),bZ m x=true→x=l.erase u ∨ x=l.erase v:=fun x hx hkx=>by
  by_cases h1:u ∈ x
  ·by_cases h2:v ∈ x
   ·exact absurd (d8 (ef.1 hkx) u h1 v h2 huv) hne
   ·exact .inr (hmiss x hx v hv h2)
  ·exact .inl (hmiss x hx u hu h1)
 have hkk:bZ m (l.erase u)=bZ m (l.erase v):=by
  unfold bZ
  rw [iu,iv,List.length_erase_of_mem hu,List.length_erase_of_mem hv]
 rw [fx]
 have hnd:((bf l (l.length - 1)).filter (bZ m)).Nodup:=List.Pairwise.sublist List.filter_sublist ((dl hl).nodup pk)
 cases hb:bZ m (l.erase u)
 ·have:(bf l (l.length - 1)).filter (bZ m)=[]:=by
    rw [List.filter_eq_nil_iff]
    intro x hx h
    rcases honly x hx h with rfl | rfl
    ·rw [hb] at h; cases h
    ·rw [← hkk,hb] at h; cases h
  rw [this]; rfl
 ·have hp:((bf l (l.length - 1)).filter (bZ m)).Perm [l.erase u,l.erase v]:=by
    refine (List.perm_ext_iff_of_nodup hnd (by simp [hxy])).2 fun x=>?_
    rw [List.mem_filter]
    constructor
    ·rintro ⟨x1,x2⟩
     rcases honly x x1 x2 with rfl | rfl <;> simp
    ·intro hx
     simp at hx
     rcases hx with rfl | rfl
     ·exact ⟨hface u hu,hb⟩
     ·exact ⟨hface v hv,by rw [← hkk]; exact hb⟩
  have hlen:((bf l (l.length - 1)).filter (bZ m)).length=2:=hp.length_eq
  have hall:∀ x ∈ (bf l (l.length - 1)).filter (bZ m),bu m x=bu m l:=fun x hx=>by
   have:=hp.mem_iff.1 hx
   simp at this
   rcases this with rfl | rfl
   ·exact iu
   ·exact iv
  generalize (bf l (l.length - 1)).filter (bZ m)=F at hlen hall
  match F,hlen with
  | [a,b],_ =>
   rw [List.map_cons,List.map_cons,List.map_nil,hall a (by simp),hall b (by simp)]
   simp [fT]
end Go.Proofs.Ytbgdcebmgjafjaa
namespace Go.Proofs.Ytbgdcebmgjafjaa
open Go Go.Abs
open Nat (reduceEqDiff reduceAdd reduceLeDiff)
attribute [local irreducible] az ag aY aZ aE aP ay aQ a9 bh Go.Abs.Fn aX Go.Abs.Pure ax aC Yl
theorem sr (s:AV) (l:Spx) (hl:l.length ≤ 1000000) (h0:l ≠ []) (H:Hp) (nx:Nat) (hn:gA s=some l.length) (hs:∀ H',(∀ x,x < nx→H' x=H x)→cT 2 H' s=some (l.length,cX l)):Abs.Fn Try.prog 54 [s] H nx fun r H' nx'=>r=.msl nx (l.length * 2) 2 0 l.length∧H'=af H nx (cX l)∧nx'=nx + 1:=by
 have hpos:=List.length_pos_iff.2 h0
 refine Abs.Fn.of_c2 follows wS (Nat.le_of_ble_eq_true rfl) ?_
 simp only [b54,cO,cG,cN,cM,cD,cF,cB,aq,aR]
 (have zz:=and_self; repeat' (first|refine zW ?_|apply a_n|refine zO ?_|refine vY ?_|fail)) <;> (try clear zz)
 refine vb (k:=l.length) (by ((try simp only [bL,ZA,reduceEqDiff,↓reduceIte,reduceAdd,reduceLeDiff]); (try with_reducible rfl)); exact hn) (fun h=>?_) (fun h=>by omega) (fun h=>by omega)
 (have zz:=and_self; repeat' (first|refine zW ?_|apply a_n|refine zO ?_|refine vY ?_|refine b0Y ?_|refine cFY ?_|fail)) <;> (try clear zz)
 refine sM rfl ev0 ev0 (hs _ fun x _=>rfl) (t8 _) (by omega) (by omega) ?_
 (have zz:=and_self; repeat' (first|apply a_n|refine zO ?_|refine vY ?_|refine an rfl ?_|refine r1Y ?_|fail)) <;> (try clear zz)
 exact ⟨rfl,rfl,rfl⟩
theorem vT {y lo kb sb k N:Nat} {s:Spx} (hs:s.length ≤ 1000) (hk:k ≤ 1000) (I:List Spx→Hp→Nat→Prop)
    (hp:∀ S H nx,I S H nx→H kb=some [.int .i64 k]∧H sb=some [ar s]∧lo + 3 ≤ nx∧kb < lo∧sb < lo)
    (stab:∀ S H H' nx nx',I S H nx→nx ≤ nx'→(∀ i,i < nx→¬ (lo ≤ i∧i < lo + 3)→H' i=H i)→I S H' nx')
    (rnd:∀ S f H nx,I S H nx→f.length=k→f ≠ []→S.length < N→Yl Try.prog y [.msl nx (k * 2) 2 0 k] (af H nx (cX f)) (nx + 1) fun r H' nx'=>r=.bool true∧I (S ++ [f]) H' nx'∧nx ≤ nx'∧∀ i,lo ≤ i→i < lo + 3→H' i=H i) :
    ∀ (j:Nat) (ch:Spx) (at_:Nat) (S:List Spx) (H:Hp) (nx:Nat),0 < k→ch.length + j=k→S.length + (bf (s.drop at_) j).length ≤ N→at_ ≤ s.length→I S H nx→H lo=some [.yld y]→H (lo + 1)=some [.func 62 [.ptr kb 1 0,.ptr lo 1 0,.ptr sb 1 0,.ptr (lo + 1) 1 0]]→(∃ C,H (lo + 2)=some C∧C.length=k * 2∧C.take (ch.length * 2)=cX ch) →
     Abs.Fn Try.prog 62 [.int .i64 at_,.msl (lo + 2) (k * 2) 2 0 ch.length,.ptr kb 1 0,.ptr lo 1 0,.ptr sb 1 0,.ptr (lo + 1) 1 0] H nx fun r H' nx'=>r=.bool true∧I (S ++ (bf (s.drop at_) j).map (ch ++ ·)) H' nx'∧nx ≤ nx'∧H' lo=H lo∧H' (lo + 1)=H (lo + 1)∧∃ C,H' (lo + 2)=some C∧C.length=k * 2∧C.take (ch.length * 2)=cX ch:=by
 intro j
 induction j with
 | zero =>
  intro ch at_ S H nx hk0 hj hN hat hI h1 h2 ⟨C,h3,hc1,hc2⟩
  obtain ⟨g1,g2,g3,g4,g5⟩:=hp _ _ _ hI
  have hlen:ch.length=k:=by omega
  have hne:ch ≠ []:=fun e=>by rw [e] at hlen; simp at hlen; omega
  obtain rfl:C=cX ch:=by rw [← hc2,List.take_of_length_le (by omega)]
  refine Abs.Fn.of_c2 follows ve (Nat.le_of_ble_eq_true rfl) ?_
  simp only [b62,cO,cG,cN,cM,cD,cF,cB,aq,aR]
  have hcl:=sr (.msl (lo + 2) (k * 2) 2 0 k) ch (by omega) hne H nx (by rw [hlen]; rfl) (fun H' hH'=>by rw [hlen]; exact (iI (n:=k * 2) (off:=0) (len:=k) ((hH' (lo + 2) (by omega)).trans h3) hc1 (by omega)).trans (by rw [List.drop_zero,List.take_of_length_le (by omega)]))
  rw [hlen] at hcl
  rw [hlen]
  have z:decide ((k:Int)=k)=true:=decide_eq_true rfl
  (have zz:=aI @g1 (aI @g2 (aI @h1 (aI @h2 @z))); repeat' (first|refine zW ?_|apply a_n|refine zO ?_|refine vY ?_|(refine zGY ?_ ?_ <;> (intro _hg; try (exfalso; omega)))|fail)) <;> (try clear zz)
  refine pT lo h1 fun S0 hS hsub=>?_
  (have zz:=@hS; repeat' (first|apply a_n|refine zO ?_|refine nvY ?_|fail)) <;> (try clear zz)
  refine nc ?_
  refine aw ev0 ev0 hcl ?_
  rintro _ H2 nx2 ⟨rfl,rfl,rfl⟩
  refine qI ⟨hsub _ (by rw [ai (by omega)]; exact h1),?_⟩
  refine nU ?_
  refine uu ev0 ev0 (Yl.mono (rnd S ch H nx hI hlen hne (by rw [la] at hN; exact hN)) ?_)
  rintro r H3 nx3 ⟨rfl,e1,e2,e3⟩
  (have zz:=and_self; repeat' (first|apply a_n|apply a_r|refine zO ?_|refine nvY ?_|refine an rfl ?_|refine r1Y ?_|fail)) <;> (try clear zz)
  refine ⟨rfl,?_,e2,e3 _ (by omega) (by omega),e3 _ (by omega) (by omega),cX ch,(e3 _ (by omega) (by omega)).trans h3,hc1,by rw [← hlen]; exact hc2⟩
  rw [la,List.map_cons,List.map_nil,List.append_nil]
  exact e1
 | succ j ih =>
  intro ch at_ S H nx hk0 hj hN hat hI h1 h2 ⟨C,h3,hc1,hc2⟩
  obtain ⟨g1,g2,g3,g4,g5⟩:=hp _ _ _ hI
  refine Abs.Fn.of_c2 follows ve (Nat.le_of_ble_eq_true rfl) ?_
  simp only [b62,cO,cG,cN,cM,cD,cF,cB,aq,aR]
  have z:decide ((ch.length:Int)=k)=false:=decide_eq_false (by omega)
  (have zz:=aI @g1 (aI @g2 (aI @h1 (aI @h2 @z))); repeat' (first|refine zW ?_|apply a_n|refine zO ?_|refine vY ?_|refine cFY ?_|fail)) <;> (try clear zz)
  refine a8 (X:=Nat × List Spx) (fun x=>[(1,.msl (lo + 2) (k * 2) 2 0 ch.length),(4,.ptr sb 1 0),(5,.ptr (lo + 1) 1 0),(9,.int .i64 x.1)]) (fun x H' nx'=>x.1 ≤ s.length∧I x.2 H' nx'∧nx ≤ nx'∧H' lo=H lo∧H' (lo + 1)=H (lo + 1)∧(∃ C,H' (lo + 2)=some C∧C.length=k * 2∧C.take (ch.length * 2)=cX ch)∧x.2 ++ (bf (s.drop x.1) (j + 1)).map (ch ++ ·)=S ++ (bf (s.drop at_) (j + 1)).map (ch ++ ·)) (fun x=>s.length - x.1) (at_,S) ⟨hat,hI,Nat.le_refl _,rfl,rfl,⟨C,h3,hc1,hc2⟩,rfl⟩ ag0 ?_
  rintro ⟨i,S1⟩ H1 nx1 ⟨i1,hI1,i2,i3,i4,⟨C1,k3,d1,d2⟩,htot⟩
  dsimp only at i1 hI1 htot ⊢
  obtain ⟨q1,q2,q3,q4,q5⟩:=hp _ _ _ hI1
  have w1:=i3.trans h1
  have w2:=i4.trans h2
  by_cases hi:i < s.length
  rotate_left
  ·(have zz:=aI @q1 (aI @q2 @ao); repeat' (first|refine zW ?_|apply a_n|apply a_x|refine zO ?_|refine vY ?_|(refine zGY ?_ ?_ <;> (intro _hg; try (exfalso; omega)))|refine an rfl ?_|refine r1Y ?_|fail)) <;> (try clear zz)
   rw [show s.drop i=[] from List.drop_eq_nil_of_le (by omega),oV,List.map_nil,List.append_nil] at htot
   exact ⟨rfl,by rw [← htot]; exact hI1,i2,i3,i4,C1,k3,d1,d2⟩
  have ix:=ix2 hi
  rw [q0 hi,List.map_append,List.map_map,← List.append_assoc] at htot
  have hmm:(bf (s.drop (i + 1)) j).map ((fun x=>ch ++ x) ∘ fun x=>s.getD i default :: x)=(bf (s.drop (i + 1)) j).map ((ch ++ [s.getD i default]) ++ ·):=List.map_congr_left fun x _=>by simp
  rw [hmm] at htot
  generalize s.getD i default=v at *
  (have zz:=aI @q1 (aI @q2 @ao); repeat' (first|refine zW ?_|apply a_n|refine zO ?_|refine vY ?_|(refine zGY ?_ ?_ <;> (intro _hg; try (exfalso; omega)))|fail)) <;> (try clear zz)
  refine kp sb (lo + 1) q2 w2 (by omega) fun S0 hS1 hS2 hsub=>?_
  (have zz:=aI @hS1 (aI @hS2 @ix); repeat' (first|apply a_n|refine zO ?_|refine nvY ?_|fail)) <;> (try clear zz)
  refine nc ?_
  (have zz:=and_self; repeat' (first|apply a_n|refine zO ?_|refine blY ?_|fail)) <;> (try clear zz)
  refine ⟨hsub _ (by rw [ai (by omega)]; exact q2) (by rw [ai (by omega)]; exact w2),?_⟩
  refine nc ?_
  refine nz (b:=lo + 2) (m:=k * 2) (off:=0) (len:=ch.length) (n:=1) rfl ev0 (by rw [ai (by omega)]; exact k3) ev0 mv rfl d1 (fun _=>by omega) (by omega) (by omega) ?_
  refine qI ⟨hsub _ (by rw [ai (by omega),ai (by omega)]; exact q2) (by rw [ai (by omega),ai (by omega)]; exact w2),?_⟩
  refine nU ?_
  have hl1:(ch ++ [v]).length=ch.length + 1:=by simp
  have hcc:=f8 ch
  have hput:(aH C1 (0 + ch.length * 2) [.int .i64 v.color,.int .i64 v.label]).length=k * 2∧(aH C1 (0 + ch.length * 2) [.int .i64 v.color,.int .i64 v.label]).take ((ch.length + 1) * 2)=cX (ch ++ [v]):=by
   rw [Nat.zero_add]
   simp only [aH]
   refine ⟨by simp [d1]; omega,?_⟩
   rw [d2,iO,u9,List.take_append_of_le_length (by simp [hcc]; omega),List.take_of_length_le (by simp [hcc]; omega)]
  have hN1:S1.length + (bf (s.drop (i + 1)) j).length ≤ N:=by
   have:=congrArg List.length htot
   simp only [List.length_append,List.length_map] at this
   omega
  have hih:=ih (ch ++ [v]) (i + 1) S1 (af (af H1 nx1 [.int .i64 v.color,.int .i64 v.label]) (lo + 2) (aH C1 (0 + ch.length * 2) [.int .i64 v.color,.int .i64 v.label])) (nx1 + 1) hk0 (by omega) hN1 (by omega) (stab _ _ _ _ _ hI1 (by omega) (fun x hx hn=>by rw [ai (by omega),ai (by omega)])) (by rw [ai (by omega),ai (by omega)]; exact w1) (by rw [ai (by omega),ai (by omega)]; exact w2) ⟨_,ak,hput.1,by rw [hl1]; exact hput.2⟩
  rw [hl1,show ((i + 1:Nat):Int)=(i:Int) + 1 by omega] at hih
  refine aw ev0 ev0 hih ?_
  rintro r H4 nx4 ⟨rfl,f1,f2,f3,f4,C4,f5,f6,f7⟩
  (have zz:=and_self; repeat' (first|apply a_n|refine zO ?_|refine vY ?_|refine nvY ?_|refine cFY ?_|fail)) <;> (try clear zz)
  refine ⟨(i + 1,S1 ++ (bf (s.drop (i + 1)) j).map ((ch ++ [v]) ++ ·)),by dsimp only; omega,⟨by dsimp only; omega,f1,by omega,f3.trans ?_,f4.trans ?_,⟨C4,f5,f6,?_⟩,htot⟩,ag0⟩
  ·rw [ai (by omega),ai (by omega)]; exact i3
  ·rw [ai (by omega),ai (by omega)]; exact i4
  ·have:=congrArg (List.take (ch.length * 2)) f7
   rw [List.take_take,Nat.min_eq_left (by omega),iO,List.take_append_of_le_length (by omega)] at this
   rw [this]
   exact List.take_of_length_le (by omega)
end Go.Proofs.Ytbgdcebmgjafjaa
namespace Go.Proofs.Ytbgdcebmgjafjaa
open Go Go.Abs
open Nat (reduceEqDiff reduceAdd reduceLeDiff)
attribute [local irreducible] az ag aY aZ aE aP ay aQ a9 bh Go.Abs.Fn aX Go.Abs.Pure ax aC Yl
theorem sJ {y kb sb k:Nat} {s:Spx} {H:Hp} {nx:Nat} (hs:s.length ≤ 1000) (hk0:0 < k) (hk:k ≤ 1000) (I:List Spx→Hp→Nat→Prop)
    (hp:∀ S H nx',I S H nx'→H kb=some [.int .i64 k]∧H sb=some [ar s]∧nx + 3 ≤ nx'∧kb < nx∧sb < nx)
    (stab:∀ S H H' nx1 nx',I S H nx1→nx1 ≤ nx'→(∀ i,i < nx1→¬ (nx ≤ i∧i < nx + 3)→H' i=H i)→I S H' nx')
    (rnd:∀ S f H nx1,I S H nx1→f.length=k→f ≠ []→S.length < (bf s k).length→Yl Try.prog y [.msl nx1 (k * 2) 2 0 k] (af H nx1 (cX f)) (nx1 + 1) fun r H' nx'=>r=.bool true∧I (S ++ [f]) H' nx'∧nx1 ≤ nx'∧∀ i,nx ≤ i→i < nx + 3→H' i=H i)
    (gk:H kb=some [.int .i64 k]) (lk:kb < nx) (h0:∀ H',(∀ i,i < nx→H' i=H i)→I [] H' (nx + 3)) :
    Abs.Fn Try.prog 61 [.yld y,.ptr kb 1 0,.ptr sb 1 0] H nx fun _ H' nx'=>I (bf s k) H' nx':=by
 refine Abs.Fn.of_c2 follows wh (Nat.le_of_ble_eq_true rfl) ?_
 simp only [b61,cO,cG,cN,cM,cD,cF,cB,aq,aR]
 (have zz:=@gk; repeat' (first|refine zW ?_|apply a_n|refine zO ?_|refine vY ?_|refine alY ?_|refine bxY ?_|refine stY ?_|fail)) <;> (try clear zz)
 generalize hH:af (af (af H nx [.yld y]) (nx + 1) [.nilf]) (nx + 1) (aH [.nilf] 0 [.func 62 [.ptr kb 1 0,.ptr nx 1 0,.ptr sb 1 0,.ptr (nx + 1) 1 0]])=H1
 have hfn:H1 (nx + 1)=some [.func 62 [.ptr kb 1 0,.ptr nx 1 0,.ptr sb 1 0,.ptr (nx + 1) 1 0]]:=by rw [← hH,ak]; rfl
 have hfk:H1 kb=some [.int .i64 k]:=by rw [← hH,ai (by omega),ai (by omega),ai (by omega)]; exact gk
 have hfy:H1 nx=some [.yld y]:=by rw [← hH,ai (by omega),ai (by omega),ak]
 have hfo:∀ i,i < nx→H1 i=H i:=fun i hi=>by rw [← hH,ai (by omega),ai (by omega),ai (by omega)]
 clear hH
 refine kp kb (nx + 1) hfk hfn (by omega) fun S0 hS1 hS2 hsub=>?_
 (have zz:=aI @hS1 @hS2; repeat' (first|apply a_n|refine zO ?_|refine nvY ?_|fail)) <;> (try clear zz)
 refine nc ?_
 refine vX (k1:=.i64) (k2:=.i64) (n:=0) (m:=k) rfl ev0 ev0 (Int.le_refl _) (by omega) (by omega) (by omega) ?_
 refine qI ⟨hsub _ (by rw [ai (by omega)]; exact hfk) (by rw [ai (by omega)]; exact hfn),?_⟩
 refine nU ?_
 have hz:(aN (AV.agg [AV.int .i64 0,AV.int .i64 0]) k).length=k * 2:=by simp [aN,AV.cells]
 have hih:=vT (y:=y) (N:=(bf s k).length) (lo:=nx) (kb:=kb) (sb:=sb) (k:=k) (s:=s) hs hk I hp stab rnd k [] 0 [] (af H1 (nx + 2) (aN (AV.agg [AV.int .i64 0,AV.int .i64 0]) k)) (nx + 3) hk0 (by simp) (by simp) (Nat.zero_le _) (h0 _ (fun i hi=>by rw [ai (by omega)]; exact hfo i hi)) (by rw [ai (by omega)]; exact hfy) (by rw [ai (by omega)]; exact hfn) ⟨_,ak,hz,rfl⟩
 refine aw ev0 (by ((try simp only [bL,ZA,reduceEqDiff,↓reduceIte,reduceAdd,reduceLeDiff]); (try with_reducible rfl)); rfl) hih ?_
 rintro r H4 nx4 ⟨rfl,f1,-⟩
 (have zz:=and_self; repeat' (first|apply a_n|refine zO ?_|apply uN|refine an rfl ?_|fail)) <;> (try clear zz)
 rw [List.drop_zero,List.nil_append,show (fun x:Spx=>([]:Spx) ++ x)=id from rfl,List.map_id] at f1
 exact f1
theorem o7 {kb sb k:Nat} {s:Spx} {H:Hp} {nx:Nat} (hs:s.length ≤ 8) (hk0:0 < k) (hk:k ≤ 1000) (gk:H kb=some [.int .i64 k]) (gs:H sb=some [ar s]) (lk:kb < nx) (ls:sb < nx) :
    Abs.Fn Try.prog 60 [.esl,.func 61 [.ptr kb 1 0,.ptr sb 1 0]] H nx fun r H' nx'=>Row H' 1 r ((bf s k).map ar)∧nx ≤ nx'∧∀ b',eg r=some b'→nx ≤ b'∧b' < nx':=by
 refine Abs.Fn.of_c2 follows wE (Nat.le_of_ble_eq_true rfl) ?_
 simp only [b60,cO,cG,cN,cM,cD,cF,cB,aq,aR]
 (have zz:=and_self; repeat' (first|refine zW ?_|apply a_n|refine zO ?_|refine vY ?_|refine bxY ?_|fail)) <;> (try clear zz)
 refine rG (nx + 1) (nx + 2) rfl rfl ev0 (fun c0 cj hy=>?_)
 refine Abs.Fn.mono (sJ (nx:=nx + 2) (kb:=kb) (sb:=sb) (k:=k) (s:=s) (by omega) hk0 hk (fun S H' nx'=>nx + 5 ≤ nx'∧H' kb=some [.int .i64 k]∧H' sb=some [ar s]∧H' (nx + 1)=some [c0]∧∃ sv,H' nx=some [sv]∧Row H' 1 sv (S.map ar)∧∀ b',eg sv=some b'→nx + 5 ≤ b'∧b' < nx') ?_ ?_ ?_ ?_ ?_ ?_) ?_
 ·rintro S H' nx' ⟨h1,h2,h3,h4,h5⟩
  exact ⟨h2,h3,by omega,by omega,by omega⟩
 ·rintro S H1 H2 a c ⟨h1,h2,h3,h4,sv,h5,h6,h7⟩ hac hs'
  refine ⟨by omega,(hs' _ (by omega) (by omega)).trans h2,(hs' _ (by omega) (by omega)).trans h3,(hs' _ (by omega) (by omega)).trans h4,sv,(hs' _ (by omega) (by omega)).trans h5,h6.same (fun b' hb'=>hs' _ (h7 b' hb').2 (by have:=h7 b' hb'; omega)),fun b' hb'=>⟨(h7 b' hb').1,by have:=h7 b' hb'; omega⟩⟩
 ·rintro S f H' nx' ⟨h1,h2,h3,h4,sv,h5,h6,h7⟩ hfl hf0 hSN
  have h4':af H' nx' (cX f) (nx + 1)=some [c0]:=by rw [ai (by omega)]; exact h4
  refine hy _ _ _ _ h4' rfl ?_
  clear hy
  (have zz:=and_self; repeat' (first|apply a_n|refine zO ?_|refine vZ ?_|fail)) <;> (try clear zz)
  refine ⟨h4',?_⟩
  have hS70:=Nat.lt_of_lt_of_le hSN (qz (k:=k) hs)
  have hd:bm (af H' nx' (cX f)) (nx + 1) nx'=some (cX f):=by rw [gu (by omega),ak]
  have hdo:∀ x,x < nx'→x ≠ nx + 1→bm (af H' nx' (cX f)) (nx + 1) x=H' x:=fun x a b=>by rw [gu b,ai (by omega)]
  generalize bm (af H' nx' (cX f)) (nx + 1)=H1 at *
  refine cK ?_
  refine uI (only nx' (cX f)) (bm H1 nx') [(2,.ptr nx 1 0),(5,ar f)] (Fz.one hd) ⟨.inl rfl,.inr (vV (s:=.msl nx' (k * 2) 2 0 k) (by rw [← hfl]; exact Row.box nx' f.length (cX f) nG (f8 f))),trivial⟩ ?_
  have he:∀ x,x < nx'→x ≠ nx + 1→bm H1 nx' x=H' x:=fun x a b=>by rw [gu (by omega)]; exact hdo x a b
  have g5:bm H1 nx' nx=some [sv]:=(he nx (by omega) (by omega)).trans h5
  clear hd hdo
  generalize bm H1 nx'=H2 at *
  (have zz:=aI @g5 (aI @bd @aU); repeat' (first|apply a_n|refine zO ?_|refine vY ?_|refine blY ?_|fail)) <;> (try clear zz)
  refine qq rfl ev0 (h6.same fun b' hb'=>?_) ev0 mH rfl rfl Nat.one_pos (by rw [List.length_map]; omega) (by rw [List.length_map]; omega) ?_
  ·have:=h7 b' hb'
   rw [ai (by omega)]; exact he _ (by omega) (by omega)
  rintro sv' H3 nx3 r1 r2 r3 r4 r5
  have zs:∀ x,x < nx + 5→eg sv ≠ some x:=fun x hx e=>by have:=h7 x e; omega
  have z:∀ x,x < nx'→x ≠ nx + 1→eg sv ≠ some x→H3 x=H' x:=fun x a1 a2 a3=>(r4 x (by omega) a3).trans (by rw [ai (by omega)]; exact he x a1 a2)
  have g6:H3 nx=some [sv]:=(z nx (by omega) (by omega) (zs _ (by omega))).trans h5
  obtain ⟨q1,q2⟩:=r1.one
  (have zz:=aI @g6 (aI @q1 @q2); repeat' (first|apply a_n|refine zO ?_|refine stY ?_|fail)) <;> (try clear zz)
  have w:∀ x,x ≠ nx→x ≠ nx + 1→af (af H3 nx (aH [sv] 0 [sv'])) (nx + 1) [c0] x=H3 x:=fun x a1 a2=>by rw [ai a2,ai a1]
  have u7:∀ b',eg sv'=some b'→nx + 5 ≤ b'∧b' < nx3:=fun b' hb'=>by
   rcases r5 b' hb' with e | ⟨e1,e2⟩
   ·have:=h7 b' e; omega
   ·omega
  refine ⟨rfl,⟨by omega,?_,?_,ak,sv',?_,?_,u7⟩,by omega,fun x x1 x2=>?_⟩
  ·rw [w _ (by omega) (by omega),z _ (by omega) (by omega) (zs _ (by omega)),h2]
  ·rw [w _ (by omega) (by omega),z _ (by omega) (by omega) (zs _ (by omega)),h3]
  ·rw [ai (by omega),ak]; rfl
  ·rw [List.map_append]
   exact r1.same (fun b' hb'=>w b' (by have:=u7 b' hb'; omega) (by have:=u7 b' hb'; omega))
  ·rw [w _ (by omega) (by omega),z _ (by omega) (by omega) (zs _ (by omega))]
 ·rw [ai (by omega),ai (by omega)]; exact gk
 ·omega
 ·intro H' hH'
  refine ⟨by omega,?_,?_,?_,.esl,?_,.nil,fun b' hb'=>(by cases hb')⟩
  ·rw [hH' _ (by omega),ai (by omega),ai (by omega),gk]
  ·rw [hH' _ (by omega),ai (by omega),ai (by omega),gs]
  ·rw [hH' _ (by omega),ak]
  ·rw [hH' _ (by omega),ai (by omega),ak]
 ·rintro r H' nx' ⟨h1,h2,h3,h4,sv,h5,h6,h7⟩
  refine .inl ⟨h4,?_⟩
  (have zz:=@h5; repeat' (first|refine zW ?_|apply a_n|refine zO ?_|refine vY ?_|refine an rfl ?_|refine r1Y ?_|fail)) <;> (try clear zz)
  exact ⟨h6.same (fun b' hb'=>gu (by have:=h7 b' hb'; omega)),by omega,fun b' hb'=>by have:=h7 b' hb'; omega⟩
end Go.Proofs.Ytbgdcebmgjafjaa
namespace Go.Proofs.Ytbgdcebmgjafjaa
open Go Go.Abs
theorem tR {H H':Hp} (hs:∀ b cs,H b=some cs→H' b=some cs) {x y:AV} (h:Snap H x y):Snap H' x y:=by
 induction h with
 | bool b=>exact .bool _
 | int k n=>exact .int _ _
 | str s=>exact .str _
 | nilp=>exact .nilp
 | nilf=>exact .nilf
 | nilm=>exact .nilm
 | esl=>exact .esl
 | eslsl sz=>exact .eslsl _
 | sl sz l l' hl hc h ih=>exact .sl sz l l' hl hc ih
 | slnil sz sz'=>exact .slnil _ _
 | msl b n sz off len cs l' hb hn hf hl hc h ih=>exact .msl b n sz off len cs l' (hs _ _ hb) hn hf hl hc ih
 | mslnil b n sz off sz'=>exact .mslnil _ _ _ _ _
 | ptr b n off cs cs' hb hn hl h ih=>exact .ptr b n off cs cs' (hs _ _ hb) hn hl ih
 | iptr cs cs' off hl h ih=>exact .iptr cs cs' off hl ih
 | func f cs cs' hl h ih=>exact .func f cs cs' hl ih
 | agg cs cs' hl h ih=>exact .agg cs cs' hl ih
 | tup cs cs' hl h ih=>exact .tup cs cs' hl ih
theorem nI {H:Hp} {s:AV} {l:Spx} {e f:Int} (h:Snap H s (ar l)) (he:e=f):Snap H (.tup [s,.int .i64 e]) (.tup [ar l,.int .i64 f]):=by
 subst he; exact pd (bi h (bi (.int _ _) ab))
attribute [local irreducible] az ag aY aZ aE aP ay aQ a9 bh Go.Abs.Fn aX Go.Abs.Pure ax aC Yl
theorem qX (m:MapV) (l:Spx) (hm:ShM m) (hl:Shn l):Pure Try.prog 13 [o9 m,ar l] (.tup [ar (jn m l).1,.int .i64 (jn m l).2]):=by
 refine Pure.of_c2 follows wA (Nat.le_of_ble_eq_true rfl) ?_
 simp only [b13,cO,cG,cN,cM,cD,cF,cB,aq,aR]
 have hc:=lM l hl
 unfold jn
 (have zz:=aI @bd @aU; repeat' (first|refine zW ?_|apply a_n|refine zO ?_|refine vZ ?_|refine bxZ ?_|fail)) <;> (try clear zz)
 refine aw ev0 ev0 (vB m hm _ _) ?_
 rintro _ H1 nx1 ⟨hsm,hle,h⟩
 rcases h with ⟨he,B,rfl,hB1,hB2,hB3⟩ | ⟨he,rfl⟩
 rotate_left
 ·rw [if_pos he]
  have z:decide (fg m ≠ 0)=true:=decide_eq_true he
  (have zz:=@z; repeat' (first|refine zW ?_|apply a_n|apply a_r|refine zO ?_|refine vY ?_|refine cTY ?_|refine an rfl ?_|refine r2Y ?_|fail)) <;> (try clear zz)
  exact nI (.eslsl _) rfl
 rw [if_neg (fun h=>h he)]
 obtain ⟨q1,q2,q3,q4,q5⟩:=p9 he
 have z0:decide ((0:Int) ≠ 0)=false:=rfl
 by_cases hes:ca l=0
 rotate_left
 ·rw [if_pos hes]
  have z:decide (ca l ≠ 0)=true:=decide_eq_true hes
  (have zz:=aI @z0 @z; repeat' (first|refine zW ?_|apply a_n|apply a_r|refine zO ?_|refine vY ?_|refine cY ?_ (hp:=hc) (hs:=by (first | refine aa ?_ rfl | apply ac); (repeat' (first | exact ab | apply am | apply ae | exact aG _)); first | done | fail)|refine cTY ?_|refine cFY ?_|refine an rfl ?_|refine r2Y ?_|fail)) <;> (try clear zz)
  exact nI (.eslsl _) rfl
 rw [if_neg (fun h=>h hes)]
 rw [hes] at hc
 obtain ⟨p1,p2,p3,p4⟩:=j0 hes
 have hne:l ≠ []:=fun e=>by rw [e] at p1; simp at p1
 (have zz:=@z0; repeat' (first|refine zW ?_|apply a_n|refine zO ?_|refine vY ?_|refine cY ?_ (hp:=hc) (hs:=by (first | refine aa ?_ rfl | apply ac); (repeat' (first | exact ab | apply am | apply ae | exact aG _)); first | done | fail)|refine cFY ?_|fail)) <;> (try clear zz)
 refine aw ev0 ev0 (xu m l q2 (by omega) hne B H1 nx1 hB3 hB2) ?_
 rintro _ H2 nx2 ⟨hle2,h⟩
 rcases h with ⟨ht,rfl,hsm2⟩ | ⟨ht,sv,Hf,H3,rfl,hone,hfz,hsn,hsm2⟩
 ·rw [if_pos ht]
  (have zz:=and_self; repeat' (first|refine zW ?_|apply a_n|apply a_r|refine zO ?_|refine vY ?_|refine cTY ?_|refine an rfl ?_|refine r2Y ?_|fail)) <;> (try clear zz)
  exact nI (.eslsl _) rfl
 ·rw [if_neg (by rw [ht]; exact fun h=>by cases h)]
  (have zz:=@hone; repeat' (first|refine zW ?_|apply a_n|refine zO ?_|refine vY ?_|refine cFY ?_|refine an rfl ?_|refine r2Y ?_|fail)) <;> (try clear zz)
  exact nI (tR hfz.sub hsn) rfl
end Go.Proofs.Ytbgdcebmgjafjaa
namespace Go.Proofs.Ytbgdcebmgjafjaa
open Go Go.Abs
def ko (s:Spx) (k:Int):List Spx × Int:=if ca s ≠ 0 then ([],ca s) else if k < 1 ∨ (s.length:Int) < k then ([],2) else (bf s k.toNat,0)
theorem pJ {H:Hp} {s:AV} {l:List Spx} {e f:Int} (h:Snap H s (b8 l)) (he:e=f):Snap H (.tup [s,.int .i64 e]) (.tup [b8 l,.int .i64 f]):=by
 subst he; exact pd (bi h (bi (.int _ _) ab))
attribute [local irreducible] az ag aY aZ aE aP ay aQ a9 bh Go.Abs.Fn aX Go.Abs.Pure ax aC Yl
theorem sT (s:Spx) (k:Nat) (H:Hp) (nx:Nat):Abs.Fn Try.prog 38 [ar s,.int .i64 k] H nx fun r H' nx'=>r=.func 61 [.ptr (nx + 1) 1 0,.ptr nx 1 0]∧H'=af (af H nx [ar s]) (nx + 1) [.int .i64 k]∧nx'=nx + 2:=by
 refine Abs.Fn.of_c2 follows v6 (Nat.le_of_ble_eq_true rfl) ?_
 simp only [b38,cO,cG,cN,cM,cD,cF,cB,aq,aR]
 (have zz:=aI @bd @aU; repeat' (first|refine zW ?_|apply a_n|refine zO ?_|refine vY ?_|refine bxY ?_|refine an rfl ?_|refine r1Y ?_|fail)) <;> (try clear zz)
 exact ⟨rfl,rfl,rfl⟩
theorem rW {kb sb k:Nat} {s:Spx} {H:Hp} {nx:Nat} (hs:s.length ≤ 8) (hk0:0 < k) (hk:k ≤ 1000) (gk:H kb=some [.int .i64 k]) (gs:H sb=some [ar s]) (lk:kb < nx) (ls:sb < nx) :
    Abs.Fn Try.prog 37 [.func 61 [.ptr kb 1 0,.ptr sb 1 0]] H nx fun r H' nx'=>Row H' 1 r ((bf s k).map ar)∧nx ≤ nx':=by
 refine Abs.Fn.of_c2 follows wu (Nat.le_of_ble_eq_true rfl) ?_
 simp only [b37,cO,cG,cN,cM,cD,cF,cB,aq,aR]
 (have zz:=and_self; repeat' (first|refine zW ?_|apply a_n|refine zO ?_|refine vY ?_|fail)) <;> (try clear zz)
 refine aw ev0 ev0 (o7 hs hk0 hk gk gs lk ls) ?_
 rintro r H1 nx1 ⟨r1,r2,r3⟩
 obtain ⟨q1,q2⟩:=r1.one
 (have zz:=aI @q1 @q2; repeat' (first|apply a_n|refine zO ?_|refine vY ?_|refine an rfl ?_|refine r1Y ?_|fail)) <;> (try clear zz)
 exact ⟨r1,r2⟩
theorem od (s:Spx) (k:Int) (hs:Shn s):Pure Try.prog 14 [ar s,.int .i64 k] (.tup [b8 (ko s k).1,.int .i64 (ko s k).2]):=by
 refine Pure.of_c2 follows wI (Nat.le_of_ble_eq_true rfl) ?_
 simp only [b14,cO,cG,cN,cM,cD,cF,cB,aq,aR]
 have hc:=lM s hs
 unfold ko
 by_cases he:ca s=0
 rotate_left
 ·rw [if_pos he]
  have z:decide (ca s ≠ 0)=true:=decide_eq_true he
  (have zz:=@z; repeat' (first|refine zW ?_|apply a_n|apply a_r|refine zO ?_|refine vY ?_|refine cY ?_ (hp:=hc) (hs:=by (first | refine aa ?_ rfl | apply ac); (repeat' (first | exact ab | apply am | apply ae | exact aG _)); first | done | fail)|refine cTY ?_|refine an rfl ?_|refine r2Y ?_|fail)) <;> (try clear zz)
  exact pJ (.eslsl _) rfl
 rw [if_neg (fun h=>h he)]
 rw [he] at hc
 obtain ⟨p1,p2,p3,p4⟩:=j0 he
 have z0:decide ((0:Int) ≠ 0)=false:=rfl
 by_cases hk:k < 1 ∨ (s.length:Int) < k
 ·rw [if_pos hk]
  (have zz:=aI @z0 @ao; repeat' (first|refine zW ?_|apply a_n|apply a_r|refine zO ?_|refine vY ?_|refine cY ?_ (hp:=hc) (hs:=by (first | refine aa ?_ rfl | apply ac); (repeat' (first | exact ab | apply am | apply ae | exact aG _)); first | done | fail)|refine gTY ?_|refine gFY ?_|refine cTY ?_|refine cFY ?_|(refine zGY ?_ ?_ <;> (intro _hg; try (exfalso; omega)))|refine an rfl ?_|refine r2Y ?_|fail)) <;> (try clear zz)
  all_goals first | exact pJ (.eslsl _) rfl | (exfalso; omega)
 rw [if_neg hk]
 obtain ⟨n,rfl⟩:∃ n:Nat,k=n:=⟨k.toNat,by omega⟩
 rw [Int.toNat_natCast]
 (have zz:=aI @z0 @ao; repeat' (first|refine zW ?_|apply a_n|refine zO ?_|refine vY ?_|refine cY ?_ (hp:=hc) (hs:=by (first | refine aa ?_ rfl | apply ac); (repeat' (first | exact ab | apply am | apply ae | exact aG _)); first | done | fail)|refine gTY ?_|refine cFY ?_|(refine zGY ?_ ?_ <;> (intro _hg; try (exfalso; omega)))|fail)) <;> (try clear zz)
 refine aw ev0 ev0 (sT s n _ _) ?_
 rintro _ H1 nx1 ⟨rfl,rfl,rfl⟩
 refine aw ev0 ev0 (rW (kb:=0 + 1) (sb:=0) (k:=n) (s:=s) p2 (by omega) (by omega) ak (by rw [ai (by omega),ak]) (by omega) (by omega)) ?_
 rintro r H2 nx2 ⟨r1,r2⟩
 obtain ⟨q1,q2⟩:=r1.one
 (have zz:=aI @q1 @q2; repeat' (first|apply a_n|refine zO ?_|refine vY ?_|refine an rfl ?_|refine r2Y ?_|fail)) <;> (try clear zz)
 exact pJ (qo r1) rfl
end Go.Proofs.Ytbgdcebmgjafjaa
namespace Go.Proofs.Ytbgdcebmgjafjaa
open Go Go.Abs
open Nat (reduceEqDiff reduceAdd reduceLeDiff)
def jU (H:Hp) (sv:AV) (D:List Spx):Prop:=(sv=.esl∧D=[]) ∨ ∃ B N C,sv=.msl B N 1 0 D.length∧H B=some C∧C.length=N∧0 < N∧D.length ≤ N∧C.take D.length=D.map ar
theorem jU.same {H H':Hp} {sv:AV} {D:List Spx} (h:jU H sv D) (hs:∀ b,eg sv=some b→H' b=H b):jU H' sv D:=by
 rcases h with h | ⟨B,N,C,rfl,h1,h2⟩
 ·exact .inl h
 ·exact .inr ⟨B,N,C,rfl,(hs B rfl).trans h1,h2⟩
theorem jU.snap {H:Hp} {sv:AV} {D:List Spx} (h:jU H sv D):Snap H sv (b8 D):=by
 rcases h with ⟨rfl,rfl⟩ | ⟨B,N,C,rfl,h1,h2,h3,h4,h5⟩
 ·exact .eslsl 1
 ·refine oD (l:=D.map ar) h1 h2 (by omega) (by simp) (fun y hy=>?_) (fun i a c ha hc=>?_)
  ·obtain ⟨z,_,rfl⟩:=List.mem_map.1 hy; rfl
  ·have hin:i < D.length:=by simpa using (List.getElem?_eq_some_iff.1 hc).1
   rw [← h5,List.getElem?_take,if_pos hin] at hc
   rw [Nat.zero_add,hc] at ha; cases ha
   have hm:a ∈ D.map ar:=by
    rw [← h5]
    exact List.mem_of_getElem? (i:=i) (by rw [List.getElem?_take,if_pos hin]; exact hc)
   obtain ⟨z,_,rfl⟩:=List.mem_map.1 hm
   exact aG _ _
theorem jU.lenS {H:Hp} {sv:AV} {D:List Spx} (h:jU H sv D):cz sv=some (.int .i64 D.length):=by
 rcases h with ⟨rfl,rfl⟩ | ⟨B,N,C,rfl,_⟩ <;> rfl
attribute [local irreducible] az ag aY aZ aE aP ay aQ a9 bh Go.Abs.Fn aX Go.Abs.Pure ax aC Yl
theorem tJ (D:List Spx) (i B N nx:Nat) (C:List AV) (H:Hp) (hi:i < D.length) (hl:D.length ≤ 1000000) (hB:B < nx) (h1:H B=some C) (h2:C.length=N) (h4:D.length ≤ N) (h5:C.take D.length=D.map ar) :
    Abs.Fn Try.prog 18 [.msl B N 1 0 D.length,.int .i64 i,.int .i64 (i + 1:Nat)] H nx fun r H' nx'=>r=.msl B N 1 0 (D.length - 1)∧nx'=nx∧∃ C',H'=af H B C'∧C'.length=N∧C'.take (D.length - 1)=(D.eraseIdx i).map ar:=by
 refine Abs.Fn.of_c2 follows yk (Nat.le_of_ble_eq_true rfl) ?_
 simp only [b18,cO,cG,cN,cM,cD,cF,cB,aq,aR]
 have a1:fI 1 (.msl B N 1 0 D.length) (some (.int .i64 i)) (some (.int .i64 (i + 1:Nat))) (some (.int .i64 D.length))=some .undef:=by
  simp only [fI,aL,Int.natCast_nonneg,if_true,Int.toNat_natCast]
  rw [if_neg (by omega),if_pos ⟨by omega,by omega,Nat.le_refl _,by omega⟩]
 have a2:fI 1 (.msl B N 1 0 D.length) none (some (.int .i64 i)) none=some (.msl B N 1 0 i):=by
  simp only [fI,aL,Int.natCast_nonneg,if_true,Int.toNat_natCast]
  rw [if_pos ⟨trivial,by omega,by omega,by omega⟩,if_pos (.inl trivial),Nat.zero_mul,Nat.sub_zero]
 have z:decide ((i:Int)=((i + 1:Nat):Int))=false:=decide_eq_false (by omega)
 have hds:∀ (k:Nat),k ≤ D.length→(C.drop k).take (D.length - k)=(D.drop k).map ar:=fun k hk=>by
  have:(C.take D.length).drop k=(C.drop k).take (D.length - k):=List.drop_take
  rw [← this,h5,List.map_drop]
 have hones:∀ l:List Spx,AV.ones (l.map ar)=true:=fun l=>by
  unfold AV.ones
  rw [List.all_eq_true]
  intro x hx
  obtain ⟨y,_,rfl⟩:=List.mem_map.1 hx
  rfl
 have fin:∀ (H2:Hp),H2=af H B (aH C i ((D.drop (i + 1)).map ar))→dV 1 .esl (.msl B N 1 (D.length - 1) 1) H2=some (af H B (aH (aH C i ((D.drop (i + 1)).map ar)) (D.length - 1) [.esl])):=by
  rintro _ rfl
  have hl2:(aH C i ((D.drop (i + 1)).map ar)).length=N:=by
   simp only [aH,List.length_append,List.length_take,List.length_drop,List.length_map,h2]; omega
  simp only [dV]
  rw [if_neg (by omega),ak]
  dsimp only
  rw [if_pos ⟨hl2,trivial,rfl,rfl,by omega⟩,ah]
  rfl
 have fin2:(aH (aH C i ((D.drop (i + 1)).map ar)) (D.length - 1) [.esl]).length=N∧(aH (aH C i ((D.drop (i + 1)).map ar)) (D.length - 1) [.esl]).take (D.length - 1)=(D.eraseIdx i).map ar:=by
  have hl2:(aH C i ((D.drop (i + 1)).map ar)).length=N:=by
   simp only [aH,List.length_append,List.length_take,List.length_drop,List.length_map,h2]; omega
  have hci:C.take i=(D.take i).map ar:=by
   have:=congrArg (List.take i) h5
   rwa [List.take_take,Nat.min_eq_left (by omega),← List.map_take] at this
  have ht:(aH C i ((D.drop (i + 1)).map ar)).take (D.length - 1)=(D.eraseIdx i).map ar:=by
   simp only [aH]
   rw [List.take_append_of_le_length (by simp; omega),List.take_of_length_le (by simp; omega),hci,List.eraseIdx_eq_take_drop_succ,List.map_append]
  refine ⟨?_,?_⟩
  ·rw [aH,List.length_append,List.length_append,List.length_take,List.length_drop,hl2]
   simp; omega
  ·rw [aH,List.append_assoc,List.take_append_of_le_length (by rw [List.length_take,hl2]; omega),List.take_take,Nat.min_self]
   exact ht
 have a4:fI 1 (.msl B N 1 0 (D.length - 1)) (some (.int .i64 ((D.length - 1:Nat):Int))) (some (.int .i64 D.length)) none=some (.msl B N 1 (D.length - 1) 1):=by
  simp only [fI,aL,Int.natCast_nonneg,if_true,Int.toNat_natCast]
  rw [if_neg (by omega),if_pos ⟨trivial,by omega,Nat.one_pos,by omega,by omega⟩,Nat.mul_one,Nat.zero_add,show D.length - (D.length - 1)=1 by omega]
 by_cases hlast:i + 1 < D.length
 ·have a3:fI 1 (.msl B N 1 0 D.length) (some (.int .i64 (i + 1:Nat))) none none=some (.msl B N 1 (i + 1) (D.length - (i + 1))):=by
    simp only [fI,aL,Int.natCast_nonneg,if_true,Int.toNat_natCast]
    rw [if_pos ⟨trivial,by omega,Nat.le_refl _,by omega⟩,if_pos (.inr hlast),Nat.zero_add,Nat.mul_one]
  (have zz:=aI @a1 (aI @a2 (aI @a3 @z)); repeat' (first|refine zW ?_|apply a_n|refine zO ?_|refine vY ?_|refine cFY ?_|fail)) <;> (try clear zz)
  refine nz (b:=B) (m:=N) (off:=0) (len:=i) (n:=D.length - (i + 1)) (new:=(D.drop (i + 1)).map ar) rfl ev0 h1 ev0 ((iI (n:=N) (off:=i + 1) (len:=D.length - (i + 1)) h1 h2 (by omega)).trans (by rw [Nat.mul_one,hds _ (by omega)])) (hones _) h2 (fun _=>by omega) (by omega) (by omega) ?_
  rw [show i + (D.length - (i + 1))=D.length - 1 by omega,show 0 + i * 1=i by omega]
  (have zz:=@a4; repeat' (first|refine zW ?_|apply a_n|refine zO ?_|refine vY ?_|fail)) <;> (try clear zz)
  refine sZ (by ((try simp only [bL,ZA,reduceEqDiff,↓reduceIte,reduceAdd,reduceLeDiff]); (try with_reducible rfl)); exact fin _ rfl) ?_
  (have zz:=and_self; repeat' (first|refine zW ?_|apply a_n|refine zO ?_|refine vY ?_|refine an rfl ?_|refine r1Y ?_|fail)) <;> (try clear zz)
  exact ⟨rfl,rfl,_,rfl,fin2⟩
 ·have ei:i + 1=D.length:=by omega
  have a3:fI 1 (.msl B N 1 0 D.length) (some (.int .i64 (i + 1:Nat))) none none=some (.sl 1 []):=by
   simp only [fI,aL,Int.natCast_nonneg,if_true,Int.toNat_natCast]
   rw [if_pos ⟨trivial,by omega,Nat.le_refl _,by omega⟩,if_neg (by omega)]
  have hd0:(D.drop (i + 1)).map ar=[]:=by rw [List.drop_of_length_le (by omega)]; rfl
  have hp0:aH C i []=C:=by simp [aH]
  (have zz:=aI @a1 (aI @a2 (aI @a3 @z)); repeat' (first|refine zW ?_|apply a_n|refine zO ?_|refine vY ?_|refine cFY ?_|fail)) <;> (try clear zz)
  refine nz (b:=B) (m:=N) (off:=0) (len:=i) (n:=0) (new:=[]) rfl ev0 h1 ev0 (by rw [tZ]; rfl) rfl h2 (fun _=>by omega) (by omega) (by omega) ?_
  rw [show i + 0=D.length - 1 by omega,show 0 + i * 1=i by omega,← hd0]
  (have zz:=@a4; repeat' (first|refine zW ?_|apply a_n|refine zO ?_|refine vY ?_|fail)) <;> (try clear zz)
  refine sZ (by ((try simp only [bL,ZA,reduceEqDiff,↓reduceIte,reduceAdd,reduceLeDiff]); (try with_reducible rfl)); exact fin _ rfl) ?_
  (have zz:=and_self; repeat' (first|refine zW ?_|apply a_n|refine zO ?_|refine vY ?_|refine an rfl ?_|refine r1Y ?_|fail)) <;> (try clear zz)
  exact ⟨rfl,rfl,_,rfl,fin2⟩
end Go.Proofs.Ytbgdcebmgjafjaa
namespace Go.Proofs.Ytbgdcebmgjafjaa
open Go Go.Abs
theorem jJ {H:Hp} {sv:AV} {D:List Spx} (h:Row H 1 sv (D.map ar)) (h0:D ≠ []):jU H sv D:=by
 have hpos:=List.length_pos_iff.2 h0
 generalize hcs:D.map ar=cs at h
 cases h with
 | nil=>exact absurd (List.map_eq_nil_iff.1 hcs) h0
 | box b len cs g1 g2 =>
  obtain rfl:len=D.length:=by rw [← hcs,List.length_map] at g2; omega
  exact .inr ⟨b,D.length * 1,cs,rfl,g1,g2,by omega,by omega,by rw [hcs]; exact List.take_of_length_le (by omega)⟩
theorem vM {P:Program} {T:Tm} {H:Hp} {nx:Nat} {dm:DM} {K:SP} {l:List Op2} {d:Option Nat} {s x:Opd} {sv xv:AV} {D:List Spx} {y:Spx} (hd:dm2 dm T (.app 1 24 s x)=true) (hs:ov T s=sv) (hrow:jU H sv D) (hx:ov T x=xv) (hsrc:cT 1 H xv=some (1,[ar y])) (hl:D.length ≤ 1000000)
    (next:∀ (sv':AV) (H':Hp) (nx':Nat),jU H' sv' (D ++ [y])→nx ≤ nx'→nx' ≤ nx + 1→(∀ i,i < nx→eg sv ≠ some i→H' i=H i)→(∀ b,eg sv'=some b→eg sv=some b ∨ b=nx∧nx'=nx + 1)→(Row H 1 sv (D.map ar)→Row H' 1 sv' ((D ++ [y]).map ar))→ag P dm l (av T d sv') H' nx' K) :
    ag P dm (⟨d,none,.app 1 24 s x⟩ :: l) T H nx K:=by
 rcases hrow with ⟨rfl,rfl⟩ | ⟨B,N,C,rfl,h1,h2,h3,h4,h5⟩
 ·refine qq hd hs Row.nil hx hsrc rfl rfl Nat.one_pos (by simp) (by simp) fun sv' H' nx' r1 r2 r3 r4 r5=>?_
  exact next sv' H' nx' (jJ (D:=[y]) r1 (by simp)) r2 r3 r4 r5 (fun _=>r1)
 ·by_cases hN:N=D.length
  ·subst hN
   have hC:C=D.map ar:=by rw [← h5,List.take_of_length_le (by omega)]
   subst hC
   refine qq hd hs (by have:=Row.box (H:=H) (sz:=1) B D.length (D.map ar) h1 (by simp); rwa [Nat.mul_one] at this) hx hsrc rfl rfl Nat.one_pos (by simp; omega) (by simp; omega) fun sv' H' nx' r1 r2 r3 r4 r5=>?_
   exact next sv' H' nx' (jJ (by rw [List.map_append]; exact r1) (by simp)) r2 r3 r4 r5 (fun _=>by rw [List.map_append]; exact r1)
  ·refine nz (b:=B) (m:=N) (off:=0) (len:=D.length) (n:=1) hd hs h1 hx hsrc rfl h2 (fun _=>by omega) h3 (by omega) ?_
   refine next _ _ _ (.inr ⟨B,N,_,by rw [List.length_append]; rfl,ak,?_,h3,by simp; omega,?_⟩) (Nat.le_refl _) (by omega) (fun i _ hi=>ai (fun e=>hi (by rw [e]; rfl))) (fun b hb=>.inl hb) (fun hr=>?_)
   ·simp only [aH,List.length_append,List.length_take,List.length_drop,h2]; simp; omega
   ·simp only [aH,Nat.zero_add,Nat.mul_one]
    rw [List.take_append_of_le_length (by simp [h2]; omega),List.take_of_length_le (by simp [h2]; omega),h5,List.map_append]; rfl
   ·generalize hcs:D.map ar=cs at hr
    generalize hsv:AV.msl B N 1 0 D.length=sv at hr
    cases hr with
    | nil=>cases hsv
    | box b len cs g1 g2 =>
     have:N=len * 1∧D.length=len:=by cases hsv; exact ⟨rfl,rfl⟩
     omega
theorem ny {O L P:List Spx} (hp:L.Perm O) (hs:aA bW 0 L.length L) (hn:O.Nodup) (hm:∀ s,s ∈ O ↔ s ∈ P):L=il bW P:=by
 refine dt pk ?_ (fO pk P) fun s=>by rw [hp.mem_iff,hm,er]
 unfold cq
 rw [List.pairwise_iff_getElem]
 intro i j hi hj hij
 have h1:=hs i j (Nat.zero_le _) hij hj
 rw [show L.getD i default=L[i] by simp [List.getD,hi],show L.getD j default=L[j] by simp [List.getD,hj]] at h1
 rcases pk.tri L[i] L[j] with h | h | h
 ·exact h
 ·have:=(List.nodup_iff_pairwise_ne.1 (hp.nodup_iff.2 hn))
  exact absurd h ((List.pairwise_iff_getElem.1 this) i j hi hj hij)
 ·exact absurd h h1
theorem gC {y:Spx}:∀ {D:List Spx},y ∈ D→D.findIdx (fun z=>decide (y=z)) < D.length∧D.eraseIdx (D.findIdx fun z=>decide (y=z))=D.erase y
 | [],h=>by cases h
 | a :: D,h=>by
  rw [List.findIdx_cons]
  by_cases e:y=a
  ·subst e
   simp
  ·have hD:y ∈ D:=(List.mem_cons.1 h).resolve_left e
   obtain ⟨h1,h2⟩:=gC hD
   have e':¬ a=y:=fun h=>e h.symm
   simp [e,h1,h2,List.erase_cons,e']
theorem pY {m:MapV} {l:Spx} (hl:cq bg l) (hk:bZ m l=true) {k:Nat} (hlt:k < (bf l (l.length - 1)).length):bu m ((bf l (l.length - 1)).getD k default) ∉ ((bf l (l.length - 1)).take k).foldl (eO m) []:=by
 have hnd:=ef.1 hk
 have hinj:=d8 hnd
 have hkx:∀ x,x.Sublist l→bZ m x=true:=fun x hx=>ef.2 (hnd.sublist (hx.map _))
 have hY:((bf l (l.length - 1)).map (bu m)).Nodup:=by
  unfold List.Nodup
  rw [List.pairwise_map]
  refine List.Pairwise.imp_of_mem (fun {a b} ha hb hab e=>hab ?_) ((dl hl).nodup pk)
  obtain ⟨a1,a2⟩:=bj.1 ha
  obtain ⟨b1,b2⟩:=bj.1 hb
  refine dt gz (eX hl ha) (eX hl hb) fun v=>?_
  constructor
  ·intro hv
   have:dR m v ∈ bu m b:=by rw [← e]; exact bG.2 ⟨v,hv,rfl⟩
   obtain ⟨w,w1,w2⟩:=bG.1 this
   rw [← hinj w (b1.subset w1) v (a1.subset hv) w2]; exact w1
  ·intro hv
   have:dR m v ∈ bu m a:=by rw [e]; exact bG.2 ⟨v,hv,rfl⟩
   obtain ⟨w,w1,w2⟩:=bG.1 this
   rw [← hinj w (a1.subset w1) v (b1.subset hv) w2]; exact w1
 have hm:∀ x ∈ (bf l (l.length - 1)).take k,x ∈ bf l (l.length - 1):=fun x hx=>List.mem_of_mem_take hx
 have hY2:(((bf l (l.length - 1)).take (k + 1)).map (bu m)).Nodup:=hY.sublist ((List.take_sublist _ _).map _)
 rw [dA hlt,List.map_append] at hY2
 rw [fx,List.filter_eq_self.2 fun x hx=>hkx x (bj.1 (hm x hx)).1,gY (hY.sublist ((List.take_sublist _ _).map _)) (fun y _=>by simp),List.nil_append]
 intro h
 exact (List.nodup_append.1 hY2).2.2 _ h _ (by simp) rfl
attribute [local irreducible] az ag aY aZ aE aP ay aQ a9 bh Go.Abs.Fn aX Go.Abs.Pure ax aC Yl
theorem v8:Cmp Try.prog ar bW (fun s=>Shn s) 20 [] where
 cells _:=rfl
 one _:=rfl
 dat x:=aG x
 dcaps x hx:=by cases hx
 run x y hx hy:=rC x y hx hy
 ord:=pk.ord
theorem rE (y z:Spx) (hy:Shn y) (hz:Shn z):Pure Try.prog 16 [ar z,.iptr [ar y] 0] (.bool (decide (y=z))):=by
 refine Pure.of_c2 follows xO (Nat.le_of_ble_eq_true rfl) ?_
 simp only [b16,cO,cG,cN,cM,cD,cF,cB,aq,aR]
 (have zz:=and_self; repeat' (first|refine zW ?_|apply a_n|refine zO ?_|refine vZ ?_|refine cZ ?_ (hp:=by exact qC y z hy hz) (hs:=by (first | refine aa ?_ rfl | apply ac); (repeat' (first | exact ab | apply am | apply ae | exact aG _)); first | done | fail)|refine an rfl ?_|refine r1Z ?_|fail)) <;> (try clear zz)
 exact .bool _
theorem se (m:MapV) (l:Spx) (hm:ShM m) (hl:Shn l):Pure Try.prog 4 [o9 m,ar l] (.bool true):=by
 refine Pure.of_c2 follows is4 (Nat.le_of_ble_eq_true rfl) ?_
 simp only [b4,cO,cG,cN,cM,cD,cF,cB,aq,aR]
 have f1:=vO m hm
 have f2:=ux l hl
 have f3:=oS m hm
 have f4:=lM l hl
 have z0:decide ((0:Int) ≠ 0)=false:=rfl
 cases e1:tC m
 ·rw [e1] at f1
  (have zz:=aI @bd (aI @aU @ao); repeat' (first|refine zW ?_|apply a_n|apply a_r|refine zO ?_|refine vY ?_|refine cY ?_ (hp:=by first | exact f1 | exact eK) (hs:=by (first | refine aa ?_ rfl | apply ac); (repeat' (first | exact ab | apply am | apply ae | exact bM _ | exact aG _)); first | done | fail)|refine bxY ?_|refine gFY ?_|refine cTY ?_|refine an rfl ?_|refine r1Y ?_|fail)) <;> (try clear zz)
  exact .bool _
 rw [e1] at f1
 by_cases e2:l.length ≤ 10
 rotate_left
 ·rw [decide_eq_false e2] at f2
  (have zz:=aI @bd (aI @aU @ao); repeat' (first|refine zW ?_|apply a_n|apply a_r|refine zO ?_|refine vY ?_|refine cY ?_ (hp:=by first | exact f1 | exact f2 | exact eK) (hs:=by (first | refine aa ?_ rfl | apply ac); (repeat' (first | exact ab | apply am | apply ae | exact bM _ | exact aG _)); first | done | fail)|refine bxY ?_|refine gTY ?_|refine gFY ?_|refine cTY ?_|refine an rfl ?_|refine r1Y ?_|fail)) <;> (try clear zz)
  exact .bool _
 rw [decide_eq_true e2] at f2
 by_cases e3:fg m=0
 rotate_left
 ·have z:decide (fg m ≠ 0)=true:=decide_eq_true e3
  (have zz:=aI @bd (aI @aU (aI @ao @z)); repeat' (first|refine zW ?_|apply a_n|apply a_r|refine zO ?_|refine vY ?_|refine cY ?_ (hp:=by first | exact f1 | exact f2 | exact f3 | exact eK) (hs:=by (first | refine aa ?_ rfl | apply ac); (repeat' (first | exact ab | apply am | apply ae | exact bM _ | exact aG _)); first | done | fail)|refine bxY ?_|refine gTY ?_|refine gFY ?_|refine cTY ?_|refine an rfl ?_|refine r1Y ?_|fail)) <;> (try clear zz)
  exact .bool _
 by_cases e4:ca l=0
 rotate_left
 ·have z:decide (ca l ≠ 0)=true:=decide_eq_true e4
  rw [e3] at f3
  (have zz:=aI @bd (aI @aU (aI @ao (aI @z @z0))); repeat' (first|refine zW ?_|apply a_n|apply a_r|refine zO ?_|refine vY ?_|refine cY ?_ (hp:=by first | exact f1 | exact f2 | exact f3 | exact f4 | exact eK) (hs:=by (first | refine aa ?_ rfl | apply ac); (repeat' (first | exact ab | apply am | apply ae | exact bM _ | exact aG _)); first | done | fail)|refine bxY ?_|refine gTY ?_|refine gFY ?_|refine cTY ?_|refine an rfl ?_|refine r1Y ?_|fail)) <;> (try clear zz)
  exact .bool _
 have s1:=qX m l hm hl
 rw [e3] at f3
 rw [e4] at f4
 by_cases e5:l.length < 2
 ·have z:decide ((l.length:Int) < 2)=true:=decide_eq_true (by omega)
  (have zz:=aI @bd (aI @aU (aI @ao (aI @z @z0))); repeat' (first|refine zW ?_|apply a_n|apply a_r|refine zO ?_|refine vY ?_|refine cY ?_ (hp:=by first | exact f1 | exact f2 | exact f3 | exact f4 | exact eK) (hs:=by (first | refine aa ?_ rfl | apply ac); (repeat' (first | exact ab | apply am | apply ae | exact bM _ | exact aG _)); first | done | fail)|refine bxY ?_|refine gTY ?_|refine cTY ?_|refine an rfl ?_|refine r1Y ?_|fail)) <;> (try clear zz)
  exact .bool _
 have z2:decide ((l.length:Int) < 2)=false:=decide_eq_false (by omega)
 unfold jn at s1
 rw [if_neg (fun h=>h e3),if_neg (fun h=>h e4)] at s1
 cases e6:fq m l
 ·rw [e6,if_pos rfl] at s1
  have z6:decide ((6:Int) ≠ 0)=true:=rfl
  (have zz:=aI @bd (aI @aU (aI @ao (aI @z0 (aI @z2 @z6)))); repeat' (first|refine zW ?_|apply a_n|apply a_r|refine zO ?_|refine vY ?_|refine cY ?_ (hp:=by first | exact f1 | exact f2 | exact f3 | exact f4 | exact s1 | exact eK) (hs:=by (first | refine aa ?_ rfl | apply ac); (repeat' (first | exact ab | apply am | apply ae | exact bM _ | exact aG _)); first | done | fail)|refine bxY ?_|refine gTY ?_|(refine zGY ?_ ?_ <;> (intro _hg; try (exfalso; omega)))|refine cTY ?_|refine cFY ?_|refine an rfl ?_|refine r1Y ?_|fail)) <;> (try clear zz)
  exact .bool _
 rw [e6,if_neg (fun h=>by cases h)] at s1
 obtain ⟨p1,p2,p3,p4⟩:=j0 e4
 have s2:=od l ((l.length:Int) - 1) hl
 unfold ko at s2
 rw [if_neg (fun h=>h e4),if_neg (by omega),show ((l.length:Int) - 1).toNat=l.length - 1 by omega] at s2
 have hFl:=qz (l:=l) (k:=l.length - 1) p2
 have hFx:∀ x ∈ bf l (l.length - 1),ca x=0∧jn m x=(bu m x,0)∧x.length=l.length - 1:=fun x hx=>by
  obtain ⟨x1,x2⟩:=bj.1 hx
  have hsx:ca x=0:=ou ⟨by omega,by omega⟩ (eX p3 hx) fun v hv=>p4 v (x1.subset hv)
  refine ⟨hsx,?_,x2⟩
  unfold jn
  rw [if_neg (fun h=>h e3),if_neg (fun h=>h hsx),if_neg]
  rw [gR.2 fun v hv=>gR.1 e6 v (x1.subset hv)]
  exact fun h=>by cases h
 (have zz:=aI @bd (aI @aU (aI @ao (aI @b0 (aI @z0 @z2)))); repeat' (first|refine zW ?_|apply a_n|refine zO ?_|refine vY ?_|refine cY ?_ (hp:=by first | exact f1 | exact f2 | exact f3 | exact f4 | exact s1 | exact s2) (hs:=by (first | refine aa ?_ rfl | apply ac); (repeat' (first | exact ab | apply am | apply ae | exact bM _ | exact aG _)); first | done | fail)|refine bxY ?_|refine gTY ?_|refine cFY ?_|fail)) <;> (try clear zz)
 refine a8 (X:=Nat × AV × List Spx) (fun x=>[(1,ar l),(2,.ptr 0 2 0),(5,ar (bu m l)),(9,x.2.1),(64,b8 (bf l (l.length - 1))),(65,.int .i64 (bf l (l.length - 1)).length),(66,.int .i64 x.1)]) (fun x H nx=>x.1 ≤ (bf l (l.length - 1)).length∧1 ≤ nx∧H 0=some [ar m.fr,ar m.to]∧jU H x.2.1 x.2.2∧(∀ b,eg x.2.1=some b→1 ≤ b∧b < nx)∧x.2.2=((bf l (l.length - 1)).take x.1).foldl (eO m) []∧x.2.2.length ≤ x.1∧(bZ m l=true→Row H 1 x.2.1 (x.2.2.map ar))∧∀ z ∈ x.2.2,z.length ≤ 8) (fun x=>(bf l (l.length - 1)).length - x.1) (0,.esl,[]) ⟨Nat.zero_le _,by omega,by rw [ak],.inl ⟨rfl,rfl⟩,fun b h=>(by cases h),rfl,Nat.le_refl _,fun _=>Row.nil,fun z h=>(by cases h)⟩ (by (iterate 7 refine And.intro rfl ?_); trivial) ?_
 rintro ⟨k,sv,D⟩ H nx ⟨h1,h2,h3,h4,h5,h6,h7,h8,h9⟩
 dsimp only at h1 h4 h5 h6 h7 h8 h9 ⊢
 by_cases hk:k < (bf l (l.length - 1)).length
 rotate_left
 ·rw [List.take_of_length_le (by omega)] at h6
  have h0:l ≠ []:=fun e=>by rw [e] at p1; simp at p1
  have hls:=h4.lenS
  cases hkp:bZ m l
  ·rw [pK p3 h0 hkp] at h6
   subst h6
   have hz:decide (((bu m l).length:Int) < l.length)=true:=by
    have:=of_decide_eq_false hkp
    exact decide_eq_true (by omega)
   have hls0:cz sv=some (.int .i64 0):=hls
   clear hls
   (have zz:=aI @ao (aI @hls0 @hz); repeat' (first|refine zW ?_|apply a_n|apply a_x|apply a_r|refine zO ?_|refine vY ?_|refine cY ?_ (hp:=eK) (hs:=by (first | refine aa ?_ rfl | apply ac); (repeat' (first | exact ab | apply am | apply ae | exact bM _)); first | done | fail)|refine cTY ?_|(refine zGY ?_ ?_ <;> (intro _hg; try (exfalso; omega)))|refine an rfl ?_|refine r1Y ?_|fail)) <;> (try clear zz)
   exact .bool _
  ·have hle1:=ie (m:=m) (l:=l)
   have hle2:=of_decide_eq_true hkp
   have hlen:(bu m l).length=l.length:=by omega
   have hz:decide (((bu m l).length:Int) < l.length)=false:=decide_eq_false (by omega)
   obtain ⟨hnd,hmem⟩:=pQ p3 hkp
   rw [← h6] at hnd hmem
   have s3:=od (bu m l) (((bu m l).length:Int) - 1) (show _ ≤ _ by omega)
   unfold ko at s3
   rw [if_neg (fun h=>h (ro e3 e4 e6)),if_neg (by omega),show (((bu m l).length:Int) - 1).toNat=(bu m l).length - 1 by omega] at s3
   have hD0:D ≠ []:=fun e=>by
    have:=(hmem ((bu m l).take ((bu m l).length - 1))).2 (bj.2 ⟨List.take_sublist _ _,by rw [List.length_take]; omega⟩)
    rw [e] at this; cases this
   have hrow:=h8 hkp
   obtain ⟨b,rfl,hb⟩:∃ b,sv=.msl b D.length 1 0 D.length∧H b=some (D.map ar):=by
    generalize hcs:D.map ar=cs at hrow
    cases hrow with
    | nil=>exact absurd (List.map_eq_nil_iff.1 hcs) hD0
    | box b len cs g1 g2 =>
     obtain rfl:len=D.length:=by rw [← hcs,List.length_map] at g2; omega
     exact ⟨b,by rw [Nat.mul_one],g1⟩
   have hbb:=h5 b rfl
   have hsh:∀ s ∈ D,Shn s:=fun s h=>by
    obtain ⟨g1,g2⟩:=bj.1 ((hmem s).1 h)
    have:=g1.length_le
    show _ ≤ _; omega
   (have zz:=aI @ao (aI @hz @z0); repeat' (first|refine zW ?_|apply a_n|apply a_x|refine zO ?_|refine vY ?_|refine cY ?_ (hp:=s3) (hs:=by (first | refine aa ?_ rfl | apply ac); (repeat' (first | exact ab | apply am | apply ae | exact aG _)); first | done | fail)|refine cFY ?_|(refine zGY ?_ ?_ <;> (intro _hg; try (exfalso; omega)))|fail)) <;> (try clear zz)
   refine aw ev0 ev0 (uh v8 (L:=D) (b:=b) (nx:=nx) (n:=D.length) hb hbb.2 rfl (List.length_pos_iff.2 hD0) hsh (by omega)) ?_
   rintro _ H2 nx2 ⟨L',ps,q1,q2⟩
   have hql:=q1.length_eq
   have hL:=ny q1 (by rw [hql]; exact q2) hnd hmem
   rw [ud pk (dl dJ)] at hL
   have hsl:∀ s ∈ L',Shn s:=fun s h=>hsh s (q1.mem_iff.1 h)
   have hsa:=rh L' L' (show _ ≤ _ by omega) (show _ ≤ _ by omega) hsl hsl
   rw [decide_eq_true rfl] at hsa
   rw [← hL]
   have z1:decide ((0:Int)=0)=true:=rfl
   have hrow2:Row H2 1 (.msl b D.length 1 0 D.length) (L'.map ar):=by
    have:=Row.box (H:=H2) (sz:=1) b D.length (L'.map ar) ps.at_ (by rw [List.length_map,hql,Nat.mul_one])
    rwa [Nat.mul_one] at this
   (have zz:=@z1; repeat' (first|refine zW ?_|apply a_n|refine zO ?_|refine vY ?_|refine gTY ?_|(refine zGY ?_ ?_ <;> (intro _hg; try (exfalso; omega)))|fail)) <;> (try clear zz)
   refine fk ev0 ev0 hsa (aa (bi (qo hrow2) (bi (gS _ _) ab)) rfl) ?_
   (have zz:=@z1; repeat' (first|apply a_n|refine zO ?_|refine vY ?_|refine cY ?_ (hp:=eK) (hs:=by (first | refine aa ?_ rfl | apply ac); (repeat' (first | exact ab | apply am | apply ae | exact bM _)); first | done | fail)|refine gTY ?_|refine an rfl ?_|refine r1Y ?_|fail)) <;> (try clear zz)
   exact .bool _
 have ix:=uq hk
 obtain ⟨x1,x2,x3⟩:=hFx _ (nt hk)
 have sx:=qX m ((bf l (l.length - 1)).getD k default) hm (show _ ≤ _ by omega)
 rw [x2] at sx
 have hfr:bZ m l=true→bu m ((bf l (l.length - 1)).getD k default) ∉ D:=fun h=>by rw [h6]; exact pY p3 h hk
 have hst:((bf l (l.length - 1)).take (k + 1)).foldl (eO m) []=eO m D ((bf l (l.length - 1)).getD k default):=by
  rw [dA hk,List.foldl_append,← h6]; rfl
 have hle1:=ie (m:=m) (l:=(bf l (l.length - 1)).getD k default)
 unfold eO at hst
 generalize (bf l (l.length - 1)).getD k default=x at *
 by_cases hlt:(bu m x).length < x.length
 ·have z:decide (((bu m x).length:Int) < x.length)=true:=decide_eq_true (by omega)
  rw [if_pos hlt] at hst
  (have zz:=aI @ao (aI @ix (aI @z (aI @z0 (aI @h3 (aI @bd @aU))))); repeat' (first|refine zW ?_|apply a_n|apply a_x|refine zO ?_|refine vY ?_|refine cY ?_ (hp:=sx) (hs:=by (first | refine aa ?_ rfl | apply ac); (repeat' (first | exact ab | apply am | apply ae | exact bM _ | exact aG _)); first | done | fail)|refine alY ?_|refine stY ?_|refine cTY ?_|refine cFY ?_|(refine zGY ?_ ?_ <;> (intro _hg; try (exfalso; omega)))|fail)) <;> (try clear zz)
  have hG:∀ b,b < nx→af (af H nx [.esl]) nx (aH [.esl] 0 [ar (bu m x)]) b=H b:=fun b hb=>by rw [ai (by omega),ai (by omega)]
  exact ⟨(k + 1,sv,D),by dsimp only; omega,⟨by dsimp only; omega,by omega,(hG 0 (by omega)).trans h3,h4.same fun b hb=>hG b (h5 b hb).2,fun b hb=>by have:=h5 b hb; omega,hst.symm,by dsimp only; omega,fun h=>(h8 h).same fun b hb=>hG b (h5 b hb).2,h9⟩,ag0⟩
 have z:decide (((bu m x).length:Int) < x.length)=false:=decide_eq_false (by omega)
 rw [if_neg hlt] at hst
 have hy8:(bu m x).length ≤ 8:=by omega
 generalize bu m x=y at *
 (have zz:=aI @ao (aI @ix (aI @z (aI @z0 (aI @h3 (aI @bd @aU))))); repeat' (first|refine zW ?_|apply a_n|refine zO ?_|refine vY ?_|refine cY ?_ (hp:=sx) (hs:=by (first | refine aa ?_ rfl | apply ac); (repeat' (first | exact ab | apply am | apply ae | exact bM _ | exact aG _)); first | done | fail)|refine alY ?_|refine stY ?_|refine cFY ?_|(refine zGY ?_ ?_ <;> (intro _hg; try (exfalso; omega)))|fail)) <;> (try clear zz)
 have hG:∀ b,b < nx→af (af H nx [.esl]) nx (aH [.esl] 0 [ar y]) b=H b:=fun b hb=>by rw [ai (by omega),ai (by omega)]
 have hGn:af (af H nx [.esl]) nx (aH [.esl] 0 [ar y]) nx=some [ar y]:=by rw [ak]; rfl
 generalize af (af H nx [.esl]) nx (aH [.esl] 0 [ar y])=H2 at *
 have h32:=(hG 0 (by omega)).trans h3
 have h42:jU H2 sv D:=h4.same fun b hb=>hG b (h5 b hb).2
 have h82:bZ m l=true→Row H2 1 sv (D.map ar):=fun h=>(h8 h).same fun b hb=>hG b (h5 b hb).2
 have hix:=ru D (fun z=>decide (y=z)) 16 [.iptr [ar y] 0] (DatL.cons (Dat.iptr (DatL.cons (aG _) DatL.nil)) DatL.nil) (fun z hz=>rE y z (show _ ≤ _ by omega) (show _ ≤ _ by have:=h9 z hz; omega)) (show _ ≤ _ by omega)
 refine fk ev0 ev0 hix (aa (bi h42.snap (bi (rI (bi (sA hGn rfl (bi (aG _ _) ab)) ab)) ab)) rfl) ?_
 by_cases hyD:y ∈ D
 ·obtain ⟨g1,g2⟩:=gC hyD
  have hany:(D.any fun z=>decide (y=z))=true:=List.any_eq_true.2 ⟨y,hyD,decide_eq_true rfl⟩
  rw [if_pos hany]
  unfold fT at hst
  rw [if_pos hyD,← g2] at hst
  generalize D.findIdx (fun z=>decide (y=z))=i at *
  rcases h42 with ⟨-,rfl⟩ | ⟨B,N,C,rfl,b1,b2,b3,b4,b5⟩
  ·cases hyD
  have hBb:=h5 B rfl
  have bm:=tJ D i B N (nx + 1) C H2 g1 (by omega) (by omega) b1 b2 b4 b5
  rw [show ((i + 1:Nat):Int)=(i:Int) + 1 by omega] at bm
  have zi:decide ((0:Int) ≤ (i:Int))=true:=decide_eq_true (by omega)
  (have zz:=@zi; repeat' (first|refine zW ?_|apply a_n|refine zO ?_|refine vY ?_|refine cTY ?_|fail)) <;> (try clear zz)
  refine aw ev0 ev0 bm ?_
  rintro _ H3 nx3 ⟨rfl,rfl,C',rfl,c1,c2⟩
  (have zz:=and_self; repeat' (first|apply a_n|refine zO ?_|refine vY ?_|fail)) <;> (try clear zz)
  have hle:(D.eraseIdx i).length=D.length - 1:=List.length_eraseIdx_of_lt g1
  refine ⟨(k + 1,.msl B N 1 0 (D.length - 1),D.eraseIdx i),by dsimp only; omega,⟨by dsimp only; omega,by omega,by rw [ai (by omega)]; exact h32,.inr ⟨B,N,C',by rw [hle],ak,c1,b3,by rw [hle]; omega,by rw [hle]; exact c2⟩,fun b hb=>?_,hst.symm,by dsimp only; omega,fun h=>absurd hyD (hfr h),fun z hz=>h9 z (List.mem_of_mem_eraseIdx hz)⟩,ag0⟩
  cases hb; omega
 ·have hany:(D.any fun z=>decide (y=z))=false:=by
    rw [List.any_eq_false]
    intro z hz e
    exact hyD (by rw [of_decide_eq_true e]; exact hz)
  rw [if_neg (by rw [hany]; decide)]
  unfold fT at hst
  rw [if_neg hyD] at hst
  have zi:decide ((0:Int) ≤ -1)=false:=rfl
  (have zz:=aI @zi (aI @hGn (aI @bd @aU)); repeat' (first|refine zW ?_|apply a_n|refine zO ?_|refine vY ?_|refine blY ?_|refine cFY ?_|fail)) <;> (try clear zz)
  refine vM rfl ev0 (h42.same fun b hb=>?_) ev0 mH (by omega) ?_
  ·have:=h5 b hb; rw [ai (by omega)]
  rintro s2 H3 nx3 r1 r2 r3 r4 r5 r6
  have hlo:∀ b,b < nx→eg sv ≠ some b→H3 b=H2 b:=fun b hb hn=>(r4 b (by omega) hn).trans (ai (by omega))
  (have zz:=and_self; repeat' (first|apply a_n|refine zO ?_|refine vY ?_|fail)) <;> (try clear zz)
  refine ⟨(k + 1,s2,D ++ [y]),by dsimp only; omega,⟨by dsimp only; omega,by omega,(hlo 0 (by omega) (fun h=>by have:=h5 0 h; omega)).trans h32,r1,fun b hb=>?_,hst.symm,by simp; omega,fun h=>r6 ((h82 h).same fun b hb=>ai (by have:=h5 b hb; omega)),fun z hz=>?_⟩,ag0⟩
  ·rcases r5 b hb with h | h
   ·have:=h5 b h; omega
   ·omega
  ·rcases List.mem_append.1 hz with h | h
   ·exact h9 z h
   ·simp at h; subst h; exact hy8
end Go.Proofs.Ytbgdcebmgjafjaa
namespace Go.Proofs.Ytbgdcebmgjafjaa
open Go Go.Abs Go.RowKit
section
variable {H:Type} {enc:TypeId × Value→H} {W:World}
theorem oi:cQ enc Try.prog W 3 (AV.int .i64) (fun n=>(Lit.int .i64 n).wf=true):=r7 Try.underlying3
set_option maxRecDepth 100000 in
theorem xD:cQ enc Try.prog W 26 bD (fun _=>True) :=
 (hJ Try.underlying26 (by kernel_rfl) (eI (off:=0) (off':=1) rfl (by kernel_rfl) oi (eI (off:=1) (off':=2) rfl (by kernel_rfl) oi lS))).map
  (fun a=>(⟨a.1,a.2.1⟩:Vtx)) (fun _ _=>trivial) (fun _ _=>rfl)
theorem oXs:cQ enc Try.prog W 22 ar Shn :=
 (o5 Try.underlying22 (sz:=2) (by_:=16) (by kernel_rfl) (by kernel_rfl) (by omega) (fun _=>rfl) xD).mono fun l h=>by have:=h.2.2; show _ ≤ _; omega
set_option maxRecDepth 100000 in
theorem x9:cQ enc Try.prog W 24 o9 ShM :=
 (hJ Try.underlying24 (by kernel_rfl) (eI (off:=0) (off':=1) rfl (by kernel_rfl) oXs (eI (off:=1) (off':=2) rfl (by kernel_rfl) oXs lS))).map
  (fun a=>(⟨a.1,a.2.1⟩:MapV)) (by rintro ⟨n,i,u⟩ ⟨h1,h2,_⟩; exact ⟨h1,h2⟩) (fun _ _=>rfl)
end
theorem kc {f:FuncId} {xs:List AV} {vs:List Value} (h:Go.Abs.Pure Try.prog f xs (.bool true)) (w:World) (hv:bx (E0 (l8 w)) w xs vs) :
    Calls Try.prog f vs.toArray w fun e w'=>e=.returned (.bool true)∧Below w.heap.size w w':=by
 refine (h.2 (l8 w) w vs (fun _ h=>h) hv).mono ?_
 rintro e w' ⟨v,imm',rfl,hb,_,_,_,hr⟩
 cases hr
 exact ⟨rfl,hb⟩
theorem xq:laidOutB Try.prog=true:=by kernel_rfl
end Go.Proofs.Ytbgdcebmgjafjaa
namespace Go.Proofs.Ytbgdcebmgjafjaa
open Go Go.Abs Go.RowKit Go.ChangeShapes Go.WideShapes Go.ChangeAt
theorem l4 {H:Type} {enc:TypeId × Value→H} {P:Program} {f:Func} {s:ChangeSpec} {apart fresh handsOn again:Bool} {W W':World} {args:Array Value} {v:Value} {ds gs:List (DataW H)} {before pa pv:List MemPlace}
    (hW:DataW.Whole enc P f.params.toList s.vars apart W args.toList ds gs before)
    (hres:∀ (b:Nat) (sp:Nat→Bool) (hd:Bool),DataW.TrodAll enc P W' b sp hd f.resultTypes.toList (v.resultList f.resultTypes.size) (s.fn H (ds ++ gs)).results [])
    (hargs:∀ sp:Nat→Bool,(∀ p ∈ before,sp p.block=true)→DataW.TrodAll enc P W' 0 sp true f.params.toList args.toList (s.fn H (ds ++ gs)).args pa)
    (hvars:∀ sp:Nat→Bool,(∀ p ∈ before,sp p.block=true)→DataW.TrodVars enc P W' sp s.vars (s.fn H (ds ++ gs)).vars pv)
    (hps:before=pa ++ pv) (hb:Below W.heap.size W W')
    (hok:∀ (j:Nat) (t:TypeId) (r:Value),f.resultTypes[j]?=some t→(v.resultList f.resultTypes.size)[j]?=some r→Value.okWide P W' .any 0 t r) :
    s.post enc P f apart fresh handsOn again W args v W':=by
 have hold:∀ p ∈ before,(fun b=>decide (b < W.heap.size)) p.block=true:=fun p hp=>by simpa using hW.lt p hp
 have hlt:=fun p hp=>hW.lt p hp
 refine ⟨ds,gs,before,[],pa,pv,hW,hres _ _ _,hargs _ hold,hvars _ hold,World.keptBut_mono (fun p hp=>⟨hp,?_⟩) (hb.frame _),fun _=>?_⟩
 ·rw [hps,List.mem_append] at hp
  exact Or.inr hp
 ·obtain ⟨_,_,_,_,_,hz,hn⟩:=hW
  refine ⟨hok,_,_,([] ++ pa) ++ pv,⟨[] ++ pa,pv,trodAll_append (hargs _ (fun _ _=>rfl)) (hres _ _ _),hvars _ (fun _ _=>rfl),rfl,?_,?_⟩,?_⟩
  ·intro b off hp
   have hp':MemPlace.cell b off ∈ before:=by rw [hps]; simpa using hp
   rw [hb.frozen (hlt _ hp')]
   exact hz b off hp'
  ·intro ha
   have:=hn ha
   rw [hps] at this
   simpa using this
  ·intro p hp _
   rw [hps]
   simpa using hp
theorem sq {E:Env} {w:World}:bx E w [] []:=⟨rfl,fun i x y h=>(by cases h)⟩
theorem mE {E:Env} {w:World} {x:AV} {y:Value} {xs:List AV} {ys:List Value} (h:Rel E w x y) (hs:bx E w xs ys):bx E w (x :: xs) (y :: ys):=by
 refine ⟨by simp [hs.1],fun i a b ha hb=>?_⟩
 cases i with
 | zero=>simp at ha hb; subst ha hb; exact h
 | succ i=>simp at ha hb; exact hs.2 i a b ha hb
theorem own:ownKnob Try.prog.godebug=none:=by kernel_rfl
end Go.Proofs.Ytbgdcebmgjafjaa