/- Texts of this claim, one after the other: T130, T131, T138, T139, T140, T141, T142, T143, T163, T164, T132, T134, T160, T161, A33, T122, T133, T162, T165, T220, T221, T222, T223, T224, T225, T226, T227, T228, T170, T172, T173, T151, T171, T146, T174, T175, T176, T177, T179, T178, T180, T181, T144, T147, T148, T182, T183, T185, T190. -/
import Derived.Test.YtlodfaaceehfmaaGreatXG5
import Derived.Test.YtlodfaaceehfmaaGreatXG4
import Derived.Test.YtlodfaaceehfmaaGreatXG3

set_option linter.unusedSimpArgs false
set_option linter.unusedVariables false
set_option maxHeartbeats 1000000
namespace Go.Proofs.YtlodfaaceehfmaaGreat
open Go Go.Abs
open Nat (reduceEqDiff reduceAdd reduceLeDiff)
theorem Bn {H:Hp} {sz:Nat} {s:AV} {elems:List AV} (h:Row H sz s (elems.flatMap AV.cells)) (hc:∀ y ∈ elems,y.cells.length=sz) (hz:0 < sz) (hd:∀ y ∈ elems,∀ c ∈ y.cells,SnapF H c c):SnapF H s (.sl sz elems):=by
 obtain ⟨f1,f2⟩:=dY elems hc;generalize he:elems.flatMap AV.cells=cs at h;cases h with
 | nil =>
  have:elems.length * sz=0:=by rw [← f1,he]; rfl
  have:elems=[]:=fo.1 (by
   rcases Nat.mul_eq_zero.1 this with h | h
   ·exact h
   ·omega)
  subst this; exact .eslsl sz
 | box b len cs hb hl =>
  have hlen:elems.length=len:=Nat.eq_of_mul_eq_mul_right hz (by rw [← f1,he,hl]);refine .msl b (len * sz) sz 0 len cs elems hb hl (by omega) hlen hc (fun i j y a c hy hc' ha=>?_);have hj:j < sz:=by rw [← hc y (fK hy)]; exact (bA.1 hc').1
  have key:∀ (l:List AV) (i j:Nat) (y c:AV),(∀ z ∈ l,z.cells.length=sz)→l[i]?=some y→y.cells[j]?=some c→j < sz→(l.flatMap AV.cells)[i * sz + j]?=some c:=by
   intro l
   induction l with
   | nil=>intro i j y c _ h; simp at h
   | cons x l ih =>
    intro i j y c hl hy hc hj;rw [tR];cases i with
    | zero =>
     simp at hy; subst hy;rw [vV,cb,fW (by rw [hl x (by simp)]; exact hj)]; exact hc
    | succ i =>
     rw [gQ (by rw [hl x (by simp),eZ]; omega),hl x (by simp)];have:=ih i j y c (fun z hz=>hl z (by simp [hz])) (by simpa using hy) hc hj;rw [← this]; congr 1; rw [eZ]; omega
  have:=key elems i j y c hc hy hc' hj;rw [he,← cb (i * sz)] at this;rw [this] at ha; cases ha;exact hd y (fK hy) a (fK hc')
theorem ve {H:Hp} {s:AV} {l:Spx} (h:Row H 2 s (cX l)):SnapF H s (aF l):=by
 refine Bn (elems:=l.map dA) (by rw [Ab]; exact h) (fun y hy=>?_) (by omega) (fun y hy c hx=>?_)
 ·obtain ⟨n,_,rfl⟩:=bP.1 hy; rfl
 ·obtain ⟨n,_,rfl⟩:=bP.1 hy;simp only [dA,AV.cells,dw,List.not_mem_nil,or_false] at hx;rcases hx with rfl | rfl <;> exact .int _ _
attribute [local irreducible] aM am bm be aX a6 aG aZ bf bI Go.Abs.Fn bc Go.Abs.Pure aB aQ Yl
theorem Cr (l:Spx) (hl:l.length ≤ 1000000):fX Tryz.prog 57 [aF l] (aF l):=by
 refine fX.of_c2 follows Ht (br rfl) ?_;simp only [b57,aU]
 repeat' (first|refine zW ?_|apply a_n|refine zO ?_|refine vY ?_|fail)
 have hn:fD (aF l)=some l.length:=by unfold aF il; simp [fD]
 refine yZ (k:=l.length) (by ((try simp only [da,ZA,reduceEqDiff,↓reduceIte,reduceAdd,reduceLeDiff]); (try with_reducible rfl)); exact hn) (fun h=>?_) (fun h=>?_) (fun h=>?_)
 ·repeat' (first|refine zW ?_|apply a_n|refine zO ?_|refine vY ?_|refine b0Y ?_|refine cFY ?_|fail)
  refine rY rfl ev0 ev0 xq (ma _) (by omega) (by omega) ?_
  repeat' (first|apply a_n|refine zO ?_|refine vY ?_|refine ak rfl ?_|refine r1Y ?_|fail)
  exact ve (Row.box _ l.length (cX l) ai (jY l))
 ·repeat' (first|refine zW ?_|apply a_n|apply a_r|refine zO ?_|refine vY ?_|refine cTY ?_|refine ak rfl ?_|refine r1Y ?_|fail)
  obtain rfl:=fo.1 h;exact .eslsl 2
 ·repeat' (first|refine zW ?_|apply a_n|refine zO ?_|refine vY ?_|refine b0Y ?_|refine cFY ?_|fail)
  refine rY rfl ev0 ev0 xq (ma _) (by omega) (by omega) ?_
  repeat' (first|apply a_n|refine zO ?_|refine vY ?_|refine ak rfl ?_|refine r1Y ?_|fail)
  exact ve (Row.box _ l.length (cX l) ai (jY l))
section
variable {g:Nat} {caps:List AV} {s:AV}
theorem Hz (hs:d4 s=some (.int .i64 0)) {H:Hp} {nx:Nat}:Abs.Fn Tryz.prog 97 [s,.int .i64 0,.int .i64 0,.func g caps] H nx fun r H' nx'=>nx'=nx∧H'=H:=by
 refine Abs.Fn.of_c2 follows IG (br rfl) ?_;simp only [b97,aU]
 repeat' (first|refine zW ?_|apply a_n|refine zO ?_|refine vZ ?_|fail)
 refine bC (X:=Unit) (fun x=>[(0,s),(1,.int .i64 0),(2,.int .i64 0),(3,.func g caps),(8,.int .i64 1)]) (fun x H' nx'=>H'=H∧nx'=nx) (fun x=>0) () ⟨rfl,rfl⟩ (by simp (disch:=omega) only [agr,ZG,reduceEqDiff,↓reduceIte,Int.zero_add,true_and]) ?_;rintro _ _ _ ⟨rfl,rfl⟩
 repeat' (first|refine zW ?_|apply a_n|apply a_x|refine zO ?_|refine vZ ?_|(refine zGZ ?_ ?_ <;> (intro _hg; try (exfalso; omega)))|refine ak rfl ?_|fail)
 exact ⟨rfl,rfl⟩
theorem Hd (hs:d4 s=some (.int .i64 0)) {H:Hp} {nx:Nat}:Abs.Fn Tryz.prog 78 [s,.int .i64 0,.int .i64 0,.int .i64 0,.func g caps] H nx fun r H' nx'=>nx'=nx∧H'=H:=by
 refine Abs.Fn.of_c2 follows I9 (br rfl) ?_;simp only [b78,aU]
 repeat' (first|refine zW ?_|apply a_n|refine zO ?_|refine vZ ?_|fail)
 refine bC (X:=Unit) (fun x=>[(0,s),(1,.int .i64 0),(2,.int .i64 0),(3,.int .i64 0),(4,.func g caps)]) (fun x H' nx'=>H'=H∧nx'=nx) (fun x=>0) () ⟨rfl,rfl⟩ ag0 ?_;rintro _ _ _ ⟨rfl,rfl⟩
 repeat' (first|refine zW ?_|apply a_n|refine zO ?_|refine vZ ?_|(refine zGZ ?_ ?_ <;> (intro _hg; try (exfalso; omega)))|fail)
 refine bn ev0 ev0 (Hz hs) ?_;rintro _ _ _ ⟨rfl,rfl⟩
 repeat' (first|apply a_n|apply a_r|refine zO ?_|refine ak rfl ?_|fail)
 exact ⟨rfl,rfl⟩
theorem oE (hs:d4 s=some (.int .i64 0)) {H:Hp} {nx:Nat}:Abs.Fn Tryz.prog 50 [s,.func g caps] H nx fun r H' nx'=>nx'=nx∧H'=H:=by
 refine Abs.Fn.of_c2 follows IL (br rfl) ?_;simp only [b50,aU];have w8:IntKind.wrap .u64 0=0:=by decide
 have zz:=aI @w8 @hs; repeat' (first|refine zW ?_|apply a_n|refine zO ?_|refine vZ ?_|fail)
 refine bn ev0 (have zz:=@w8; evZ) HU ?_;rintro _ _ _ ⟨rfl,rfl,rfl⟩
 repeat' (first|apply a_n|refine zO ?_|refine vZ ?_|fail)
 refine bn ev0 ev0 (Hd hs) ?_;rintro _ _ _ ⟨rfl,rfl⟩
 repeat' (first|apply a_n|refine zO ?_|refine ak rfl ?_|fail)
 exact ⟨rfl,rfl⟩
end
end Go.Proofs.YtlodfaaceehfmaaGreat
namespace Go.Proofs.YtlodfaaceehfmaaGreat
open Go Go.Abs
attribute [local irreducible] aM am bm be aX a6 aG aZ bf bI Go.Abs.Fn bc Go.Abs.Pure aB aQ Yl
theorem HP:Cmp Tryz.prog aF bG (fun s=>Shn s) 38 [] where
 cells _:=rfl
 one _:=rfl
 dat x:=aH x
 dcaps x hx:=by cases hx
 run x y hx hy:=gd x y hx hy
 ord:=iM.ord
end Go.Proofs.YtlodfaaceehfmaaGreat
namespace Go.Proofs.YtlodfaaceehfmaaGreat
open Go Go.Abs
def K16:Type:={x:List Int // x.length=16}
instance:DecidableEq K16:=inferInstanceAs (DecidableEq {x:List Int // x.length=16})
def kK (s:Spx):K16:=⟨gI 8 s,by rw [oQ]⟩
def eK (x:K16):AV:=EW x.1
theorem rg:∀ {n:Nat} {xs ys:List Int},xs.length=n→ys.length=n→dx (List.replicate n .int) (xs.map (AV.int .i64)) (ys.map (AV.int .i64))=some (decide (xs=ys))
 | 0,[],[],_,_=>rfl
 | 0,_ :: _,_,h,_=>absurd h (by simp)
 | 0,[],_ :: _,_,h=>absurd h (by simp)
 | n + 1,[],_,h,_=>absurd h (by simp)
 | n + 1,_ :: _,[],_,h=>absurd h (by simp)
 | n + 1,x :: xs,y :: ys,h1,h2=>by
  have ih:=rg (n:=n) (xs:=xs) (ys:=ys) (by simpa using h1) (by simpa using h2);have e:(x == y)=decide (x=y):=rfl;rw [List.replicate_succ,dR,dR];by_cases hxy:x=y
  ·subst hxy;simp only [dx,iz,if_true,e,decide_true,ih];simp
  ·simp only [dx,iz,if_true,e,bj hxy];simp [hxy]
theorem GN (a b:K16):oK (.st [.int,.int,.int,.int,.int,.int,.int,.int,.int,.int,.int,.int,.int,.int,.int,.int]) (eK a) (eK b)=some (decide (a=b)):=by
 show dx (List.replicate 16 .int) (a.1.map (AV.int .i64)) (b.1.map (AV.int .i64))=_;rw [rg a.2 b.2]
 congr 1
 exact decide_eq_decide.2 ⟨Subtype.ext,fun h=>congrArg Subtype.val h⟩
theorem E5 (v:K16) (ks:List K16):cJ (.st [.int,.int,.int,.int,.int,.int,.int,.int,.int,.int,.int,.int,.int,.int,.int,.int]) (eK v) (ks.map eK)=some (if v ∈ ks then some (ks.idxOf v) else none):=mq _ eK GN v ks
theorem A0 (v:K16):gO (.st [.int,.int,.int,.int,.int,.int,.int,.int,.int,.int,.int,.int,.int,.int,.int,.int]) (eK v)=true:=by
 show (16 == (v.1.map (AV.int .i64)).length)=true;rw [bO,v.2]; rfl
def lu (s:Spx):Prop:=1 ≤ s.length∧s.length ≤ 8∧∀ v ∈ s,0 ≤ v.color
theorem G7 {s t:Spx} (hs:lu s) (ht:lu t) (h:kK s=kK t):s=t:=wG hs.2.1 ht.2.1 hs.2.2 ht.2.2 (congrArg Subtype.val h)
theorem G1 {O:List Spx} {f:Spx} (hO:∀ s ∈ O,lu s) (hf:lu f):kK f ∈ O.map kK ↔ f ∈ O:=by
 rw [bP];exact ⟨fun ⟨s,h1,h2⟩=>by rw [← G7 (hO s h1) hf h2]; exact h1,fun h=>⟨f,h,rfl⟩⟩
theorem FD {s:Spx} (h:bR s=0):lu s:=by
 obtain ⟨p1,p2,p3,p4⟩:=cV h;refine ⟨p1,p2,fun v hv=>?_⟩;have:=p4 v hv;unfold fw at this;simp only [dS,gJ] at this;exact this.1.1
theorem Ec {s t:Spx} {k:Nat} (hs:lu s) (hk:1 ≤ k) (h:t ∈ cC s k):lu t:=by
 obtain ⟨h1,h2⟩:=eb.1 h;exact ⟨by omega,fM h1.length_le hs.2.1,fun v hv=>hs.2.2 v (h1.subset hv)⟩
theorem qp {O L P:List Spx} (hp:L.Perm O) (hs:bv bG 0 L.length L) (hn:O.Nodup) (hm:∀ s,s ∈ O ↔ s ∈ P):L=tE bG P:=by
 refine mD iM ?_ (rz iM P) fun s=>by rw [hp.mem_iff,hm,oG]
 unfold bQ;rw [mQ];intro i j hi hj hij;have h1:=hs i j (cf _) hij hj;rw [show L.getD i default=L[i] by simp [List.getD,hi],show L.getD j default=L[j] by simp [List.getD,hj]] at h1;rcases iM.tri L[i] L[j] with h | h | h
 ·exact h
 ·have:=(List.nodup_iff_pairwise_ne.1 (hp.nodup_iff.2 hn))
  exact absurd h ((mQ.1 this) i j hi hj hij)
 ·exact absurd h h1
end Go.Proofs.YtlodfaaceehfmaaGreat
namespace Go.Proofs.YtlodfaaceehfmaaGreat
open Go Go.Abs
open Nat (reduceEqDiff reduceAdd reduceLeDiff)
attribute [local irreducible] aM am bm be aX a6 aG aZ bf bI Go.Abs.Fn bc Go.Abs.Pure aB aQ Yl
theorem yJ (l:List Spx) (k:Nat) (hl:l.length ≤ 50) (hs:∀ s ∈ l,bR s=0) (hk:1 ≤ k∧k ≤ 8):Pure Tryz.prog 22 [aC l,.int .i64 k] (.tup [aC (fV l k),.int .i64 0]):=by
 refine Pure.of_c2 follows J9 (br rfl) ?_;simp only [b22,aU];have h8:∀ s ∈ l,s.length ≤ 8:=fun s h=>(cV (hs s h)).2.1
 have hgood:∀ s ∈ l.flatMap (fun s=>cC s k),lu s:=fun s h=>by
  obtain ⟨t,t1,t2⟩:=oe.1 h;exact Ec (FD (hs t t1)) hk.1 t2
 have hfl:=nV (k:=k) h8;have z0:decide ((0:Int) ≠ 0)=false:=rfl;have zz:=@aj; repeat' (first|refine zW ?_|apply a_n|refine zO ?_|refine vY ?_|fail)
 refine Aw ?_;clear zz;have zz:=@aj; repeat' (first|refine zW ?_|apply a_n|refine zO ?_|refine vY ?_|fail)
 refine bC (X:=Nat × AV × List Spx) (fun x=>[(1,.int .i64 k),(6,.mp 0),(7,x.2.1),(15,aC l),(16,.int .i64 l.length),(17,.int .i64 x.1)]) (fun x H nx=>x.1 ≤ l.length∧1 ≤ nx∧H 0=some [.omap ((x.2.2.map kK).map eK) (x.2.2.map fun _=>.bool true)]∧Row H 1 x.2.1 (x.2.2.map aF)∧(∀ b,dF x.2.1=some b→1 ≤ b∧b < nx)∧x.2.2.Nodup∧∀ s,s ∈ x.2.2 ↔ s ∈ (l.take x.1).flatMap fun s=>cC s k) (fun x=>l.length - x.1) (0,.esl,[]) ⟨cf _,by omega,ai,Row.nil,fun b h=>(by cases h),List.nodup_nil,fun s=>by simp⟩ (by (iterate 6 refine And.intro rfl ?_); trivial) ?_;rintro ⟨i,sv,O⟩ H nx ⟨h1,hnx,g0,hrow,hbd,hnd,hmem⟩;dsimp only at h1 g0 hrow hbd hnd hmem ⊢;obtain ⟨o1,o2⟩:=hrow.one;by_cases hi:i < l.length
 rotate_left
 ·rw [iv (by omega)] at hmem
  have hOl:O.length ≤ 3500:=by
   have:=xy hnd (l₂:=l.flatMap fun s=>cC s k) (fun s h=>(hmem s).1 h);omega
  have hsort:Abs.Fn Tryz.prog 50 [sv,.func 38 []] H nx fun _ H' nx'=>Row H' 1 sv ((fV l k).map aF):=by
   generalize hcs:O.map aF=cs at hrow;cases hrow with
   | nil =>
    have hO0:O=[]:=List.map_eq_nil_iff.1 hcs;refine Abs.Fn.mono (oE rfl) ?_;rintro _ _ _ ⟨rfl,rfl⟩
    have:fV l k=[]:=by
     unfold fV;rw [xz,tI];intro s h;have:=(hmem s).2 h;rw [hO0] at this; cases this
    rw [this]; exact Row.nil
   | box b len cs k1 k2 =>
    obtain rfl:len=O.length:=by rw [← hcs,bO] at k2; omega
    have hb:=hbd b rfl;subst hcs;by_cases h0:O.length=0
    ·have hO0:O=[]:=fo.1 h0;subst hO0;refine Abs.Fn.mono (oE rfl) ?_;rintro _ _ _ ⟨rfl,rfl⟩
     have:fV l k=[]:=by
      unfold fV;rw [xz,tI];intro s h;have:=(hmem s).2 h;cases this
     rw [this]; exact Row.box b 0 _ k1 rfl
    ·have hg:∀ s ∈ O,Shn s:=fun s h=>show s.length ≤ _ by have:=(hgood s ((hmem s).1 h)).2.1; omega
     have hsf:=AC HP (L:=O) (b:=b) (nx:=nx) (n:=O.length) k1 hb.2 rfl (by omega) hg (by omega);rw [Nat.mul_one];refine Abs.Fn.mono hsf ?_;rintro _ H' nx' ⟨L',ps,p1,p2⟩;have hlen:=p1.length_eq;have:=qp p1 (by rw [hlen]; exact p2) hnd hmem;unfold fV;rw [← this,← hlen];have:=Row.box (H:=H') (sz:=1) b L'.length (L'.map aF) ps.at_ (by simp)
     rwa [Nat.mul_one] at this
  repeat' (first|refine zW ?_|apply a_n|apply a_x|refine zO ?_|refine vY ?_|(refine zGY ?_ ?_ <;> (intro _hg; try (exfalso; omega)))|fail)
  refine bn ev0 ev0 hsort ?_;rintro r H' nx' hr;clear zz;have zz:=aI @o1 @o2; repeat' (first|refine zW ?_|apply a_n|refine zO ?_|refine vY ?_|refine ak rfl ?_|refine r2Y ?_|fail)
  exact ee (l6 hr) rfl
 have ix:=fq hi;have hft:=BU (k:=k) hi
 have hpm:∀ s ∈ (l.take (i + 1)).flatMap (fun s=>cC s k),s ∈ l.flatMap fun s=>cC s k:=fun s h=>by
  obtain ⟨t,t1,t2⟩:=oe.1 h;exact oe.2 ⟨t,jZ t1,t2⟩
 have hsi:=hs _ (aE hi);have h8i:=h8 _ (aE hi);have hfx:=Dm (l.getD i default) k (show _ ≤ _ by omega)
 have hfe:(l.getD i default).length < k ∨ ro (l.getD i default) k=(cC (l.getD i default) k,0):=by
  by_cases h:(l.getD i default).length < k
  ·exact .inl h
  ·refine .inr ?_;unfold ro;rw [if_neg (fun h=>h hsi),if_neg (by omega),cQ]
 have hcar:∀ s ∈ cC (l.getD i default) k,lu s:=fun s h=>hgood s (hpm s (by rw [hft]; exact pq _ h));by_cases hlt:(l.getD i default).length < k
 ·have z:decide (((l.getD i default).length:Int) < k)=true:=bt (by omega);rw [sB hlt,jH] at hft;generalize l.getD i default=s at *;clear zz;have zz:=aI @az (aI @ix (aI @z (aI @o1 @o2))); repeat' (first|refine zW ?_|apply a_n|apply a_x|refine zO ?_|refine vY ?_|refine cTY ?_|(refine zGY ?_ ?_ <;> (intro _hg; try (exfalso; omega)))|fail)
  exact ⟨(i + 1,sv,O),by dsimp only; omega,⟨by dsimp only; omega,hnx,g0,hrow,hbd,hnd,by dsimp only; rw [hft]; exact hmem⟩,ag0⟩
 have z:decide (((l.getD i default).length:Int) < k)=false:=bj (by omega);rw [hfe.resolve_left hlt] at hfx;clear zz;clear hfe;have hgP:∀ s ∈ (l.take i).flatMap (fun s=>cC s k),lu s:=fun s h=>hgood s (hpm s (by rw [hft]; exact nG _ h))
 have hPl:((l.take i).flatMap (fun s=>cC s k) ++ cC (l.getD i default) k).length ≤ 3500:=by
  rw [← hft];have:=nV (k:=k) (c:=l.take (i + 1)) (fun s h=>h8 s (jZ h));rw [iO] at this; omega
 generalize l.getD i default=s at *;generalize cC s k=R at *;generalize (l.take i).flatMap (fun s=>cC s k)=P at *;have hRl:R.length ≤ 3500:=by rw [dr] at hPl; omega
 have zz:=aI @az (aI @aj (aI @ix (aI @z (aI @z0 (aI @o1 @o2))))); repeat' (first|refine zW ?_|apply a_n|refine zO ?_|refine vY ?_|refine cY ?_ (hp:=hfx) (hs:=by (first | refine af ?_ rfl | apply ag); (repeat' (first | exact ac | apply an | apply ah | exact aH _)); first | done | fail)|refine cFY ?_|(refine zGY ?_ ?_ <;> (intro _hg; try (exfalso; omega)))|fail)
 refine bC (X:=Nat × AV × List Spx) (fun x=>[(1,.int .i64 k),(6,.mp 0),(7,x.2.1),(15,aC l),(16,.int .i64 l.length),(17,.int .i64 i),(34,aC R),(35,.int .i64 R.length),(36,.int .i64 x.1)]) (fun x H nx=>x.1 ≤ R.length∧1 ≤ nx∧H 0=some [.omap ((x.2.2.map kK).map eK) (x.2.2.map fun _=>.bool true)]∧Row H 1 x.2.1 (x.2.2.map aF)∧(∀ b,dF x.2.1=some b→1 ≤ b∧b < nx)∧x.2.2.Nodup∧∀ s,s ∈ x.2.2 ↔ s ∈ P ++ R.take x.1) (fun x=>R.length - x.1) (0,sv,O) ⟨cf _,hnx,g0,hrow,hbd,hnd,by dsimp only; rw [List.take_zero,jH]; exact hmem⟩ ag0 ?_;clear zz;clear g0 hrow hbd hnd hmem hnx o1 o2;rintro ⟨j,sv,O⟩ H nx ⟨j1,hnx,g0,hrow,hbd,hnd,hmem⟩;dsimp only at j1 g0 hrow hbd hnd hmem ⊢;obtain ⟨o1,o2⟩:=hrow.one
 have hOl:O.length ≤ 3500:=by
  have:=xy hnd (l₂:=P ++ R.take j) (fun s h=>(hmem s).1 h);rw [dr,iO] at this;rw [dr] at hPl;omega
 by_cases hj:j < R.length
 rotate_left
 ·rw [iv (by omega)] at hmem;have hls:d4 sv=some (.int .i64 O.length):=hrow.lenS (by rw [bO,Nat.mul_one]) jt;have z1:decide ((4096:Int) < O.length)=false:=bj (by omega);have zz:=aI @hls (aI @z1 (aI @o1 @o2)); repeat' (first|refine zW ?_|apply a_n|apply a_x|refine zO ?_|refine vY ?_|refine cFY ?_|(refine zGY ?_ ?_ <;> (intro _hg; try (exfalso; omega)))|fail)
  exact ⟨(i + 1,sv,O),by dsimp only; omega,⟨by dsimp only; omega,hnx,g0,hrow,hbd,hnd,by dsimp only; rw [hft]; exact hmem⟩,ag0⟩
 have iy:=fq hj;have hgf:=hcar _ (aE hj)
 have hgO:∀ s ∈ O,lu s:=fun s h=>by
  rcases fp.1 ((hmem s).1 h) with h | h
  ·exact hgP s h
  ·exact hcar s (jZ h)
 have hkey:=FS (R.getD j default) hgf.1 hgf.2.1;have hts:R.take (j + 1)=R.take j ++ [R.getD j default]:=dE hj;have hmf:=E5 (kK (R.getD j default)) (O.map kK);have hmk:=G1 hgO hgf;generalize R.getD j default=f at *;by_cases hf:f ∈ O
 ·rw [if_pos (hmk.2 hf)] at hmf;have hlt2:(O.map kK).idxOf (kK f) < (O.map kK).length:=pN.2 (hmk.2 hf)
  have hgv:mget (.bool false) false (some ((O.map kK).idxOf (kK f))) (O.map fun _=>AV.bool true)=.bool true:=by
   rw [bO] at hlt2;simp [mget,List.getD,hlt2]
  have zz:=aI @iy (aI @o1 @o2); repeat' (first|refine zW ?_|apply a_n|refine zO ?_|refine vY ?_|refine cY ?_ (hp:=hkey) (hs:=by (first | refine af ?_ rfl | apply ag); (repeat' (first | exact ac | apply an | apply ah | exact aH _)); first | done | fail)|(refine zGY ?_ ?_ <;> (intro _hg; try (exfalso; omega)))|fail)
  refine nt ev0 g0 (by ((try simp only [da,ZA,reduceEqDiff,↓reduceIte,reduceAdd,reduceLeDiff]); (try with_reducible rfl)); rfl) (A0 (kK f)) hmf ?_;rw [hgv];clear zz;have zz:=aI @o1 @o2; repeat' (first|apply a_n|refine zO ?_|refine vY ?_|refine cFY ?_|fail)
  refine ⟨(j + 1,sv,O),by dsimp only; omega,⟨by dsimp only; omega,hnx,g0,hrow,hbd,hnd,fun s=>?_⟩,ag0⟩;dsimp only;rw [hts,← v4,fp,← hmem,dL];exact ⟨.inl,fun h=>h.elim id fun e=>by rw [e]; exact hf⟩
 ·rw [if_neg (fun h=>hf (hmk.1 h))] at hmf;have hgv:mget (.bool false) false none (O.map fun _=>AV.bool true)=.bool false:=rfl;have zz:=aI @iy (aI @o1 @o2); repeat' (first|refine zW ?_|apply a_n|refine zO ?_|refine vY ?_|refine cY ?_ (hp:=hkey) (hs:=by (first | refine af ?_ rfl | apply ag); (repeat' (first | exact ac | apply an | apply ah | exact aH _)); first | done | fail)|(refine zGY ?_ ?_ <;> (intro _hg; try (exfalso; omega)))|fail)
  refine nt ev0 g0 (by ((try simp only [da,ZA,reduceEqDiff,↓reduceIte,reduceAdd,reduceLeDiff]); (try with_reducible rfl)); rfl) (A0 (kK f)) hmf ?_;rw [hgv];clear zz;have zz:=aI @o1 @o2; repeat' (first|refine zW ?_|apply a_n|refine zO ?_|refine vY ?_|refine cY ?_ (hp:=hkey) (hs:=by (first | refine af ?_ rfl | apply ag); (repeat' (first | exact ac | apply an | apply ah | exact aH _)); first | done | fail)|refine cTY ?_|fail)
  refine u9 ev0 g0 (by ((try simp only [da,ZA,reduceEqDiff,↓reduceIte,reduceAdd,reduceLeDiff]); (try with_reducible rfl)); rfl) ev0 (A0 (kK f)) hmf ?_;clear zz;have zz:=aI @o1 (aI @o2 (aI @b0 @bD)); repeat' (first|apply a_n|refine zO ?_|refine vY ?_|refine blY ?_|fail)
  refine iq rfl ev0 (hrow.same fun b hb=>?_) ev0 dp rfl rfl jt (by rw [bO]; omega) (by rw [bO]; omega) ?_
  ·have:=hbd b hb;rw [ae (by omega),ae (by omega)]
  rintro s2 H2 nx2 hr2 i1 i2 i3 i4;obtain ⟨o3,o4⟩:=hr2.one;clear zz;have zz:=aI @o3 @o4; repeat' (first|apply a_n|refine zO ?_|refine vY ?_|fail)
  refine ⟨(j + 1,s2,O ++ [f]),by dsimp only; omega,⟨by dsimp only; omega,by omega,?_,?_,fun b hb=>?_,?_,fun s=>?_⟩,ag0⟩
  ·rw [i3 0 (by omega) (fun h=>by have:=hbd 0 h; omega),ae (by omega),ai];simp [cw,ft]
  ·dsimp only;rw [ed]; exact hr2
  ·rcases i4 b hb with h | h
   ·have:=hbd b h; omega
   ·omega
  ·exact xa.2 ⟨hnd,by simp,fun a ha c hc=>by simp at hc; subst hc; intro e; subst e; exact hf ha⟩
  ·dsimp only;rw [hts,← v4,fp,fp,← hmem]
end Go.Proofs.YtlodfaaceehfmaaGreat
namespace Go.Proofs.YtlodfaaceehfmaaGreat
open Go Go.Abs
theorem sn (K:Nat→Int):∀ n,(∀ i j,i < j→j < n→K j < 0→K i < 0)→∃ b,b ≤ n∧(∀ i,i < b→K i < 0)∧∀ i,b ≤ i→i < n→0 ≤ K i
 | 0,_=>⟨0,aP _,fun i h=>absurd h (by omega),fun i _ h=>absurd h (by omega)⟩
 | n + 1,hm=>by
  by_cases h:K n < 0
  ·refine ⟨n + 1,aP _,fun i hi=>?_,fun i h1 h2=>absurd h1 (by omega)⟩;by_cases e:i=n
   ·subst e; exact h
   ·exact hm i n (by omega) (by omega) h
  ·obtain ⟨b,h1,h2,h3⟩:=sn K n (fun i j hi hj=>hm i j hi (by omega));refine ⟨b,by omega,h2,fun i hi hi2=>?_⟩;by_cases e:i=n
   ·subst e; omega
   ·exact h3 i hi (by omega)
theorem AS {tb tf:Bool} {i j:Nat}:bh .shr tb tf (.int .u64 ((i:Int) + (j:Int))) (.int .u64 1)=some (.int .u64 (((i + j) / 2:Nat):Int)):=by
 have:=vt (k:=.u64) (a:=i + j) (b:=1) (tb:=tb) (tf:=tf) (k':=.u64) (by decide);simpa using this
attribute [local irreducible] aM am bm be aX a6 aG aZ bf bI Go.Abs.Fn bc Go.Abs.Pure aB aQ Yl
theorem jU (c:List Spx) (k:Int) (hc:c.length ≤ 50) (hs:∀ s ∈ c,Shn s):Pure Tryz.prog 51 [dl c,.int .i64 k] (.tup [aC (eX c k).1,.int .i64 (eX c k).2]):=by
 refine Pure.of_c2 follows JB (br rfl) ?_;simp only [b51,aU];have hcc:=jD c (show _ ≤ _ by omega) hs;unfold eX;by_cases he:aO c=0
 rotate_left
 ·rw [if_pos he];have z:decide (aO c ≠ 0)=true:=bt he;have zz:=aI @au (aI @ao @z); repeat' (first|refine zW ?_|apply a_n|apply a_r|refine zO ?_|refine vY ?_|refine cY ?_ (hp:=hcc) (hs:=by (first | refine af ?_ rfl | apply ag); (repeat' (first | exact ac | apply an | apply ah | exact aV _)); first | done | fail)|refine bxY ?_|refine cTY ?_|refine ak rfl ?_|refine r2Y ?_|fail)
  exact ee (.eslsl _) rfl
 rw [if_neg (fun h=>h he)];rw [he] at hcc;have z0:decide ((0:Int) ≠ 0)=false:=rfl;obtain ⟨p1,p2,p3,p4⟩:=dq he;by_cases hk:k < 1 ∨ 8 < k
 ·rw [if_pos hk];have zz:=aI @au (aI @ao @z0); repeat' (first|refine zW ?_|apply a_n|apply a_r|refine zO ?_|refine vY ?_|refine cY ?_ (hp:=hcc) (hs:=by (first | refine af ?_ rfl | apply ag); (repeat' (first | exact ac | apply an | apply ah | exact aV _)); first | done | fail)|refine bxY ?_|refine gTY ?_|refine gFY ?_|refine cTY ?_|refine cFY ?_|(refine zGY ?_ ?_ <;> (intro _hg; try (exfalso; omega)))|refine ak rfl ?_|refine r2Y ?_|fail)
  all_goals first | exact ee (.eslsl _) rfl | (exfalso; omega)
 rw [if_neg hk];obtain ⟨n,rfl⟩:∃ n:Nat,k=n:=⟨k.toNat,by omega⟩
 rw [cQ];have ha:=yJ c n hc p2 ⟨by omega,by omega⟩;have zz:=aI @au (aI @ao (aI @aj @z0)); repeat' (first|refine zW ?_|apply a_n|refine zO ?_|refine vY ?_|refine cY ?_ (hp:=by first | exact hcc | exact ha) (hs:=by (first | refine af ?_ rfl | apply ag); (repeat' (first | exact ac | apply an | apply ah | exact aV _ | exact aW _)); first | done | fail)|refine bxY ?_|refine gTY ?_|refine cFY ?_|(refine zGY ?_ ?_ <;> (intro _hg; try (exfalso; omega)))|refine ak rfl ?_|refine r2Y ?_|fail)
 exact ee (aW _).snap rfl
theorem y9 (l:List Spx) (v:Spx) (hl:Shn l) (hs:∀ c ∈ l,Shn c) (hv:Shn v) {b:Nat} (hb:b ≤ l.length) (h1:∀ i,i < b→bG (l.getD i default) v < 0) (h2:∀ i,b ≤ i→i < l.length→0 ≤ bG (l.getD i default) v) :
    Pure Tryz.prog 54 [aC l,aF v,.func 38 []] (.tup [.int .i64 b,.bool (decide (b < l.length) && decide (bG (l.getD b default) v=0))]):=by
 refine Pure.of_c2 follows Kb (br rfl) ?_;simp only [b54,aU];have hl':l.length ≤ 17592186044416:=hl;have zz:=aI @b0 (aI @bD @aj); repeat' (first|refine zW ?_|apply a_n|refine zO ?_|refine vZ ?_|fail)
 refine oN (X:=Nat × Nat) (fun x=>[(0,aC l),(1,aF v),(2,.func 38 []),(8,.int .i64 l.length),(9,.int .i64 x.1),(10,.int .i64 x.2)]) (fun x=>x.1 ≤ b∧b ≤ x.2∧x.2 ≤ l.length) (fun x=>x.2 - x.1) (0,l.length) ⟨cf _,hb,aP _⟩ ag0 ?_;rintro ⟨i,j⟩ ⟨g1,g2,g3⟩;dsimp only at g1 g2 g3 ⊢;by_cases hij:i < j
 ·have hh:(i + j) / 2 < l.length:=by omega
  have hc:=gd (l.getD ((i + j) / 2) default) v (hs _ (aE hh)) hv;have ix:=fq hh;by_cases hn:bG (l.getD ((i + j) / 2) default) v < 0
  ·have hbb:(i + j) / 2 < b:=Nat.lt_of_not_le fun h=>by have:=h2 _ h hh; omega
   clear zz;have zz:=aI @b0 (aI @bD (aI @aj (aI @gz (aI @AS @ix)))); repeat' (first|refine zW ?_|apply a_n|refine zO ?_|refine vZ ?_|refine cZ ?_ (hp:=hc) (hs:=by (first | refine af ?_ rfl | apply ag); (repeat' (first | exact ac | apply an | apply ah | exact aH _)); first | done | fail)|(refine zGZ ?_ ?_ <;> (intro _hg; try (exfalso; omega)))|fail)
   exact ⟨((i + j) / 2 + 1,j),⟨by omega,by omega,by omega⟩,by dsimp only; omega,ag0,rfl,rfl⟩
  ·have hbb:b ≤ (i + j) / 2:=Nat.le_of_not_lt fun h=>hn (h1 _ h);clear zz;have zz:=aI @b0 (aI @bD (aI @aj (aI @gz (aI @AS @ix)))); repeat' (first|refine zW ?_|apply a_n|refine zO ?_|refine vZ ?_|refine cZ ?_ (hp:=hc) (hs:=by (first | refine af ?_ rfl | apply ag); (repeat' (first | exact ac | apply an | apply ah | exact aH _)); first | done | fail)|(refine zGZ ?_ ?_ <;> (intro _hg; try (exfalso; omega)))|fail)
   exact ⟨(i,(i + j) / 2),⟨by omega,by omega,by omega⟩,by dsimp only; omega,ag0,rfl,rfl⟩
 ·have ei:i=b:=by omega
  have ej:j=b:=by omega
  clear zz;clear hij g1 g2 g3;subst ei;by_cases hlt:i < l.length
  ·have hc:=gd (l.getD i default) v (hs _ (aE hlt)) hv;have ix:=fq hlt;have dlt:decide ((i:Int) < (l.length:Int))=true:=bt (by omega);have dij:decide ((i:Int) < (j:Int))=false:=bj (by omega);have zz:=aI @b0 (aI @bD (aI @aj (aI @ix (aI @dlt @dij)))); repeat' (first|refine zW ?_|apply a_n|apply a_x|refine zO ?_|refine vZ ?_|refine cZ ?_ (hp:=hc) (hs:=by (first | refine af ?_ rfl | apply ag); (repeat' (first | exact ac | apply an | apply ah | exact aH _)); first | done | fail)|refine gTZ ?_|refine cFZ ?_|refine ak rfl ?_|refine r2Z ?_|fail)
   refine cm (ar (.int _ _) (ar (cu ?_) ac));rw [bt hlt,Bool.true_and]
  ·have dlt:decide ((i:Int) < (l.length:Int))=false:=bj (by omega);have dij:decide ((i:Int) < (j:Int))=false:=bj (by omega);have zz:=aI @b0 (aI @bD (aI @aj (aI @dlt @dij))); repeat' (first|refine zW ?_|apply a_n|apply a_x|refine zO ?_|refine vZ ?_|refine gFZ ?_|refine cFZ ?_|refine ak rfl ?_|refine r2Z ?_|fail)
   refine cm (ar (.int _ _) (ar (cu ?_) ac));rw [bj hlt,Bool.false_and]
end Go.Proofs.YtlodfaaceehfmaaGreat
namespace Go.Proofs.YtlodfaaceehfmaaGreat
open Go Go.Abs
def bF (l:List Nat):List Int:=l.map fun (n:Nat)=>(n:Int)
def eJ (c:Int) (rows:List (List Int)):AV:=.agg [.int .i64 c,cI rows]
theorem fB (c:Int) (rows:List (List Int)):Dat (eJ c rows):=Dat.agg (DatL.cons .int (DatL.cons (o6 _) DatL.nil))
structure MatOk (H:Hp) (b lo hi n:Nat) (F:Nat→List Nat) (vs:List AV):Prop where
 box:H b=some vs
 len:vs.length=n
 row:∀ j,j < n→Row H 1 (vs.getD j .undef) ((F j).map y7)
 bnd:∀ j B,j < n→dF (vs.getD j .undef)=some B→lo ≤ B∧B < hi∧B ≠ b
 apart:∀ i j B,i < n→j < n→i ≠ j→dF (vs.getD i .undef)=some B→dF (vs.getD j .undef) ≠ some B
theorem MatOk.same {H H':Hp} {b lo hi hi' n:Nat} {F G:Nat→List Nat} {vs:List AV} (h:MatOk H b lo hi n F vs) (hb:H' b=H b) (hs:∀ x,lo ≤ x→x < hi→x ≠ b→H' x=H x) (hh:hi ≤ hi') (hG:∀ j,j < n→G j=F j):MatOk H' b lo hi' n G vs :=
 ⟨hb.trans h.box,h.len,fun j hj=>by rw [hG j hj]; exact (h.row j hj).same fun B hB=>by have:=h.bnd j B hj hB; exact hs B this.1 this.2.1 this.2.2,fun j B hj hB=>by have:=h.bnd j B hj hB; exact ⟨this.1,by omega,this.2.2⟩,h.apart⟩
theorem MatOk.put {H H':Hp} {b lo hi hi' n i x:Nat} {F G:Nat→List Nat} {vs:List AV} {sv:AV} (h:MatOk H b lo hi n F vs) (hin:i < n) (hG:∀ j,j < n→G j=if j=i then F j ++ [x] else F j) (hrow:Row H' 1 sv ((F i ++ [x]).map y7)) (hB:∀ B,dF sv=some B→dF (vs.getD i .undef)=some B ∨ hi ≤ B∧B < hi'∧B ≠ b) (hb:H' b=some (vs.set i sv))
    (hs:∀ x,lo ≤ x→x < hi→x ≠ b→dF (vs.getD i .undef) ≠ some x→H' x=H x) (hh:hi ≤ hi') (hlo:lo ≤ hi):MatOk H' b lo hi' n G (vs.set i sv):=by
 have hl:=h.len;have hg:∀ j,(vs.set i sv).getD j .undef=if i=j then sv else vs.getD j .undef:=fun j=>pT (by omega)
 refine ⟨hb,by simp [hl],fun j hj=>?_,fun j B hj=>?_,fun p q B hp hq hpq=>?_⟩
 ·rw [hg,hG j hj];by_cases e:i=j
  ·rw [if_pos e,if_pos e.symm,← e]; exact hrow
  ·rw [if_neg e,if_neg (fun h=>e h.symm)]
   exact (h.row j hj).same fun B hB'=>by
    have:=h.bnd j B hj hB';exact hs B this.1 this.2.1 this.2.2 fun h'=>h.apart i j B hin hj e h' hB'
 ·rw [hg];by_cases e:i=j
  ·rw [if_pos e];intro hB';rcases hB B hB' with h' | h'
   ·have:=h.bnd _ B hin h'; exact ⟨this.1,by omega,this.2.2⟩
   ·exact ⟨by omega,h'.2⟩
  ·rw [if_neg e];intro hB';have:=h.bnd j B hj hB';exact ⟨this.1,by omega,this.2.2⟩
 ·rw [hg,hg];by_cases e1:i=p
  ·rw [if_pos e1,if_neg (by omega)];intro h1 h2;rcases hB B h1 with h' | h'
   ·exact h.apart i q B hin hq (by omega) h' h2
   ·have:=h.bnd q B hq h2; omega
  ·rw [if_neg e1];by_cases e2:i=q
   ·rw [if_pos e2];intro h1 h2;rcases hB B h2 with h' | h'
    ·exact h.apart p i B hp hin (by omega) h1 h'
    ·have:=h.bnd p B hp h1; omega
   ·rw [if_neg e2]; exact h.apart p q B hp hq hpq
theorem MatOk.snap {H:Hp} {b lo hi n:Nat} {F:Nat→List Nat} {vs:List AV} (h:MatOk H b lo hi n F vs):Snap H (.msl b n 1 0 n) (cI ((List.range n).map fun i=>bF (F i))):=by
 refine lm (l:=((List.range n).map fun i=>bF (F i)).map aL) h.box h.len (by omega) (by simp) (fun y hy=>?_) (fun i a c ha hc=>?_)
 ·obtain ⟨z,_,rfl⟩:=bP.1 hy; rfl
 ·have hin:i < n:=by
    have:=(bA.1 hc).1;simpa using this
  have hr:=h.row i hin;rw [cb] at ha;have e1:vs.getD i .undef=a:=by rw [List.getD_eq_getElem?_getD,ha]; rfl
  rw [e1] at hr
  have e2:c=aL (bF (F i)):=by
   rw [mI,mI,List.getElem?_range hin] at hc;simpa using hc.symm
  rw [e2];exact DX hr
theorem MatOk.new {H:Hp} {b lo hi n:Nat} {F:Nat→List Nat} (hb:H b=some (List.replicate n .esl)) (hF:∀ j,j < n→F j=[]):MatOk H b lo hi n F (List.replicate n .esl):=by
 have hg:∀ j,j < n→(List.replicate n AV.esl).getD j .undef=.esl:=fun j hj=>by simp [List.getD,List.getElem?_replicate,hj]
 refine ⟨hb,by simp,fun j hj=>?_,fun j B hj h=>?_,fun i j B hi hj _ h=>?_⟩
 ·rw [hg j hj,hF j hj]; exact Row.nil
 ·rw [hg j hj] at h; cases h
 ·rw [hg i hi] at h; cases h
theorem mE {H:Hp} {s:AV} {c:Int} {l:List (List Int)} {e f:Int} (h:Snap H s (cI l)) (he:e=f):Snap H (.tup [.agg [.int .i64 c,s],.int .i64 e]) (.tup [eJ c l,.int .i64 f]):=by
 subst he; exact cm (ar (tg (ar (.int _ _) (ar h ac))) (ar (.int _ _) ac))
theorem rh {c:List Spx} {k:Nat} {s:Spx}:s ∈ fV c k ↔ ∃ t ∈ c,s ∈ cC t k:=by
 unfold fV; rw [oG,oe]
theorem DQ {c:List Spx} {k:Nat}:bQ bG (fV c k):=rz iM _
theorem kO {c:List Spx} {k:Nat} (h:c.length ≤ 50) (h8:∀ s ∈ c,s.length ≤ 8):(fV c k).length ≤ 3500:=fM xJ (fM (nV h8) (by omega))
attribute [local irreducible] aM am bm be aX a6 aG aZ bf bI Go.Abs.Fn bc Go.Abs.Pure aB aQ Yl
end Go.Proofs.YtlodfaaceehfmaaGreat
namespace Go.Proofs.YtlodfaaceehfmaaGreat
open Go Go.Abs
open Nat (reduceEqDiff reduceAdd reduceLeDiff)
theorem Ao {x:Int} {l:List Int}:kN 1 (aL (x :: l)) (some (.int .i64 1)) none none=some (aL l):=jK (l:=x :: l) (k:=1) (by simp)
theorem Gn {x:Int} {l:List Int}:eG 1 (aL (x :: l)) (.int .i64 0)=some (.iptr [.int .i64 x] 0):=by
 rw [l9,if_pos ⟨Int.le_refl _,by simp only [bN]; omega⟩]; rfl
theorem po {P:Program} {T:Tm} {H:Hp} {nx:Nat} {dm:DM} {K:SP} {l:List Op2} {d:Option Nat} {bytes b N len n:Nat} {s x:Opd} {v:AV} {new C cs:List AV} (hd:dm2 dm T (.app 1 bytes s x)=true) (hs:ov T s=.msl b N 1 0 len) (hb:H b=some C) (hN:C.length=N) (htk:C.take len=cs) (hcl:cs.length=len) (hx:ov T x=v) (hsrc:ef 1 H v=some (n,new)) (ho:AV.ones new=true) (hnl:new.length=n) (hle:len + n ≤ N) (h1:N * bytes ≤ 140737488355328) (h2:N ≤ 9223372036854775807)
    (next:∀ C':List AV,C'.length=N→C'.take (len + n)=cs ++ new→am P dm l (aJ T d (.msl b N 1 0 (len + n))) (aq H b C') nx K) :
    am P dm (⟨d,none,.app 1 bytes s x⟩ :: l) T H nx K:=by
 by_cases e:len=N
 ·obtain rfl:n=0:=by omega
  obtain rfl:new=[]:=List.eq_nil_of_length_eq_zero hnl;subst e;refine EH hd hs hb hx hsrc ho hN (Nat.mul_one _).symm h1 (by omega) ?_;rw [nP,Nat.mul_one];exact next _ (by rw [jH]; exact hN) (by rw [jH,jH,nP]; exact htk)
 ·refine zG hd hs hb hx hsrc ho hN (fun _=>by omega) (by omega) (by omega) ?_;refine next _ ?_ ?_
  ·rw [gF (by rw [hnl,hN]; omega)]; exact hN
  ·simp only [bK,cb,Nat.mul_one];rw [htk,Fj (by rw [dr,hcl,hnl]; omega),iv (by rw [dr,hcl,hnl]; omega)]
theorem uB {H:Hp} {b N len:Nat} {C:List AV} {R:List Int} (hb:H b=some C) (hN:C.length=N) (hle:len ≤ N) (hR:R.length=len) (h:C.take len=R.map (AV.int .i64)):Snap H (.msl b N 1 0 len) (aL R):=by
 refine lm (l:=R.map (AV.int .i64)) hb hN (by omega) (by simp [hR]) (fun y hy=>?_) (fun i a c ha hc=>?_)
 ·obtain ⟨z,_,rfl⟩:=bP.1 hy; rfl
 ·have hin:i < len:=by have:=(bA.1 hc).1; rw [bO] at this; omega
  rw [← h,gw,if_pos hin] at hc;rw [cb,hc] at ha; cases ha
  have hm:a ∈ R.map (AV.int .i64):=by
   rw [← h];exact fK (i:=i) (by rw [gw,if_pos hin]; exact hc)
  obtain ⟨z,_,rfl⟩:=bP.1 hm;exact .int _ _
def co:List Int→List Int→List Int
 | [],b=>b
 | x :: a,[]=>x :: a
 | x :: a,y :: b=>if x < y then x :: co a (y :: b) else if y < x then y :: co (x :: a) b else co a b
termination_by a b=>a.length + b.length
theorem kd {b:List Int}:co [] b=b:=by rw [co]
theorem ga {a:List Int}:co a []=a:=by cases a <;> rw [co]
theorem nN {x y:Int} {a b:List Int}:co (x :: a) (y :: b)=if x < y then x :: co a (y :: b) else if y < x then y :: co (x :: a) b else co a b:=by rw [co]
theorem n9:∀ (n:Nat) (a b:List Int),a.length + b.length ≤ n→(co a b).length ≤ a.length + b.length
 | _,[],b,_=>by rw [kd]; simp
 | _,x :: a,[],_=>by rw [ga]; simp
 | 0,x :: a,y :: b,h=>by simp only [bN] at h; omega
 | n + 1,x :: a,y :: b,h=>by
  simp only [bN] at h ⊢;rw [nN];have h1:=n9 n a (y :: b) (by simp only [bN]; omega);have h2:=n9 n (x :: a) b (by simp only [bN]; omega);have h3:=n9 n a b (by omega);simp only [bN] at h1 h2;split
  ·simp only [bN]; omega
  split
  ·simp only [bN]; omega
  ·omega
attribute [local irreducible] aM am bm be aX a6 aG aZ bf bI Go.Abs.Fn bc Go.Abs.Pure aB aQ Yl
theorem tY (x:List Int) (n:Int) (hx:x.length ≤ 1000000) (hr:∀ v ∈ x,0 ≤ v∧v < n) (ha:∀ i,i + 1 < x.length→x.getD i default < x.getD (i + 1) default):Pure Tryz.prog 60 [aL x,.int .i64 n] (.int .i64 0):=by
 refine Pure.of_c2 follows J3 (br rfl) ?_;simp only [b60,aU]
 repeat' (first|refine zW ?_|apply a_n|refine zO ?_|refine vZ ?_|fail)
 refine oN (X:=Nat) (fun k=>[(0,aL x),(1,.int .i64 n),(7,aL x),(8,.int .i64 x.length),(9,.int .i64 k)]) (fun k=>k ≤ x.length) (fun k=>x.length - k) 0 (cf _) ag0 ?_;intro k hk;by_cases hk2:k < x.length
 rotate_left
 ·repeat' (first|refine zW ?_|apply a_n|apply a_x|refine zO ?_|refine vZ ?_|(refine zGZ ?_ ?_ <;> (intro _hg; try (exfalso; omega)))|refine ak rfl ?_|refine r1Z ?_|fail)
  exact .int _ _
 have h1:=hr _ (ba hk2);have z1:decide (x.getD k default < 0)=false:=bj (by omega);have z2:decide (n ≤ x.getD k default)=false:=bj (by omega);by_cases hk0:0 < k
 rotate_left
 ·have zk:decide (0 < (k:Int))=false:=bj (by omega);have zz:=aI @z1 (aI @z2 @zk); repeat' (first|refine zW ?_|apply a_n|refine zO ?_|refine vZ ?_|refine gTZ ?_|refine gFZ ?_|refine cFZ ?_|(refine zGZ ?_ ?_ <;> (intro _hg; try (exfalso; omega)))|fail)
  exact ⟨k + 1,by omega,by omega,ag0,rfl,rfl⟩
 have zk:decide (0 < (k:Int))=true:=bt (by omega);have h2:=ha (k - 1) (by omega);rw [show k - 1 + 1=k by omega] at h2
 have iy:eG 1 (aL x) (.int .i64 ((k:Int) - 1))=some (.iptr [.int .i64 (x.getD (k - 1) default)] 0):=by
  rw [l9,if_pos ⟨by omega,by omega⟩,show ((k:Int) - 1).toNat=k - 1 by omega]
 have z3:decide (x.getD k default ≤ x.getD (k - 1) default)=false:=bj (by omega);have zz:=aI @z1 (aI @z2 (aI @zk (aI @iy @z3))); repeat' (first|refine zW ?_|apply a_n|refine zO ?_|refine vZ ?_|refine gTZ ?_|refine cFZ ?_|(refine zGZ ?_ ?_ <;> (intro _hg; try (exfalso; omega)))|fail)
 exact ⟨k + 1,by omega,by omega,ag0,rfl,rfl⟩
def BI (c:Int) (R:List (List Int)):Prop:=0 ≤ c∧c ≤ 4096∧R.length ≤ 4096∧∀ r ∈ R,(∀ v ∈ r,0 ≤ v∧v < c)∧r.length ≤ 4096∧∀ i,i + 1 < r.length→r.getD i default < r.getD (i + 1) default
theorem s7 (c:Int) (R:List (List Int)) (h:BI c R):Pure Tryz.prog 55 [.agg [.int .i64 c,cI R]] (.int .i64 0):=by
 refine Pure.of_c2 follows JU (br rfl) ?_;simp only [b55,aU];obtain ⟨h1,h2,h3,h4⟩:=h;have z1:decide (c < 0)=false:=bj (by omega);have z2:decide (4096 < c)=false:=bj (by omega);have z3:decide ((4096:Int) < R.length)=false:=bj (by omega);have zz:=aI @z1 (aI @z2 @z3); repeat' (first|refine zW ?_|apply a_n|refine zO ?_|refine vZ ?_|refine bxZ ?_|refine gTZ ?_|refine cFZ ?_|fail)
 refine oN (X:=Nat) (fun k=>[(1,.ptr 0 2 0),(21,cI R),(22,.int .i64 R.length),(23,.int .i64 k)]) (fun k=>k ≤ R.length) (fun k=>R.length - k) 0 (cf _) (by (iterate 4 refine And.intro rfl ?_); trivial) ?_;intro k hk;by_cases hk2:k < R.length
 rotate_left
 ·repeat' (first|refine zW ?_|apply a_n|apply a_x|refine zO ?_|refine vZ ?_|(refine zGZ ?_ ?_ <;> (intro _hg; try (exfalso; omega)))|refine ak rfl ?_|refine r1Z ?_|fail)
  exact .int _ _
 obtain ⟨r1,r2,r3⟩:=h4 _ (ba hk2);have hv:=tY (R.getD k default) c (by omega) r1 r3;have z0:decide ((0:Int) ≠ 0)=false:=rfl;clear zz;have zz:=@z0; repeat' (first|refine zW ?_|apply a_n|refine zO ?_|refine vZ ?_|refine cZ ?_ (hp:=hv) (hs:=by (first | refine af ?_ rfl | apply ag); (repeat' (first | exact ac | apply an | apply ah | exact bE _)); first | done | fail)|refine cFZ ?_|(refine zGZ ?_ ?_ <;> (intro _hg; try (exfalso; omega)))|fail)
 exact ⟨k + 1,by omega,by omega,ag0,rfl,rfl⟩
theorem yo (a b:List Int) (ha:a.length ≤ 1000000000000) (hb:b.length ≤ 1000000000000):Pure Tryz.prog 82 [aL a,aL b] (aL (co a b)):=by
 refine Pure.of_c2 follows Kg (br rfl) ?_;simp only [b82,aU]
 repeat' (first|refine zW ?_|apply a_n|refine zO ?_|refine vZ ?_|fail)
 refine Aj (k1:=.i64) (k2:=.i64) (n:=0) (m:=(a.length:Int) + b.length) rfl ev0 ev0 (Int.le_refl _) (by omega) (by omega) (by omega) ?_;rw [show ((a.length:Int) + b.length).toNat=a.length + b.length by omega];have hz:(bl (AV.agg [AV.int .i64 0]) (a.length + b.length)).length=a.length + b.length:=by simp [bl,AV.cells]
 generalize hN:a.length + b.length=N at *
 repeat' (first|refine zW ?_|apply a_n|refine zO ?_|refine vZ ?_|fail)
 refine bC (X:=List Int × List Int × List Int × Nat) (fun x=>[(0,aL x.1),(1,aL x.2.1),(5,.msl 0 N 1 0 x.2.2.2)]) (fun x H nx=>1 ≤ nx∧x.2.2.1.length=x.2.2.2∧x.2.2.2 + x.1.length + x.2.1.length ≤ N∧x.2.2.1 ++ co x.1 x.2.1=co a b∧∃ C,H 0=some C∧C.length=N∧C.take x.2.2.2=x.2.2.1.map (AV.int .i64)) (fun x=>x.1.length + x.2.1.length) (a,b,[],0) ⟨aP _,rfl,by dsimp only; omega,rfl,_,ai,hz,rfl⟩ (by refine ⟨rfl,rfl,?_,trivial⟩; ((try simp only [da,ZA,reduceEqDiff,↓reduceIte,reduceAdd,reduceLeDiff]); (try with_reducible rfl)); rfl) ?_;rintro ⟨a',b',D,k⟩ H nx ⟨h1,h2,h3,h4,C,h5,h6,h7⟩;dsimp only at h1 h2 h3 h4 h7 ⊢;have hDl:(D.map (AV.int .i64)).length=k:=by rw [bO]; exact h2
 have hfin:(a'=[] ∨ b'=[])→D ++ (a' ++ b')=co a b:=fun h=>by
  rcases h with rfl | rfl
  ·rw [kd] at h4; exact h4
  ·rw [ga] at h4; rw [jH]; exact h4
 by_cases hne:a'=[] ∨ b'=[]
 ·have h4:=hfin hne;clear hfin
  have y1:decide ((0:Int) < a'.length)=false ∨ decide ((0:Int) < a'.length)=true∧decide ((0:Int) < b'.length)=false:=by
   rcases hne with rfl | rfl
   ·exact .inl rfl
   ·by_cases h:a'=[]
    ·subst h; exact .inl rfl
    ·exact .inr ⟨bt (by have:=nB.2 h; omega),rfl⟩
  rcases y1 with y1 | ⟨y1,y2⟩
  ·have zz:=@y1; repeat' (first|refine zW ?_|apply a_n|apply a_x|refine zO ?_|refine vY ?_|refine gFY ?_|refine cFY ?_|fail)
   refine po (b:=0) (N:=N) (len:=k) (n:=a'.length) (new:=a'.map (AV.int .i64)) rfl ev0 h5 h6 h7 hDl ev0 jy lD (by rw [bO]) (by omega) (by omega) (by omega) fun C2 c1 c2=>?_
   repeat' (first|apply a_n|refine zO ?_|refine vY ?_|fail)
   refine po (b:=0) (N:=N) (len:=k + a'.length) (n:=b'.length) (new:=b'.map (AV.int .i64)) rfl ev0 ai c1 c2 (by rw [dr,hDl,bO]) ev0 jy lD (by rw [bO]) (by omega) (by omega) (by omega) fun C3 c3 c4=>?_
   repeat' (first|apply a_n|refine zO ?_|refine vY ?_|refine ak rfl ?_|refine r1Y ?_|fail)
   rw [← h4];exact uB ai c3 (by omega) (by simp only [dr]; omega) (by rw [← n6,c4,ed,ed,v4])
  ·have zz:=aI @y1 @y2; repeat' (first|refine zW ?_|apply a_n|apply a_x|refine zO ?_|refine vY ?_|refine gTY ?_|refine cFY ?_|fail)
   refine po (b:=0) (N:=N) (len:=k) (n:=a'.length) (new:=a'.map (AV.int .i64)) rfl ev0 h5 h6 h7 hDl ev0 jy lD (by rw [bO]) (by omega) (by omega) (by omega) fun C2 c1 c2=>?_
   repeat' (first|apply a_n|refine zO ?_|refine vY ?_|fail)
   refine po (b:=0) (N:=N) (len:=k + a'.length) (n:=b'.length) (new:=b'.map (AV.int .i64)) rfl ev0 ai c1 c2 (by rw [dr,hDl,bO]) ev0 jy lD (by rw [bO]) (by omega) (by omega) (by omega) fun C3 c3 c4=>?_
   repeat' (first|apply a_n|refine zO ?_|refine vY ?_|refine ak rfl ?_|refine r1Y ?_|fail)
   rw [← h4];exact uB ai c3 (by omega) (by simp only [dr]; omega) (by rw [← n6,c4,ed,ed,v4])
 have ha0:a' ≠ []:=fun h=>hne (.inl h);have hb0:b' ≠ []:=fun h=>hne (.inr h);clear hfin hne;obtain ⟨x,a2,rfl⟩:=List.exists_cons_of_ne_nil ha0;obtain ⟨y,b2,rfl⟩:=List.exists_cons_of_ne_nil hb0;rw [nN] at h4;have la:(x :: a2).length=a2.length + 1:=rfl;have lb:(y :: b2).length=b2.length + 1:=rfl;have i1:=Gn (x:=x) (l:=a2);have i2:=Gn (x:=y) (l:=b2);have s1:=Ao (x:=x) (l:=a2);have s2:=Ao (x:=y) (l:=b2);generalize hA:x :: a2=A at *;generalize hB:y :: b2=B at *;have y1:decide ((0:Int) < A.length)=true:=bt (by omega);have y2:decide ((0:Int) < B.length)=true:=bt (by omega);by_cases g1:x < y
 ·rw [if_pos g1] at h4;have z1:decide (x < y)=true:=bt g1;have zz:=aI @i1 (aI @i2 (aI @y1 (aI @y2 @z1))); repeat' (first|refine zW ?_|apply a_n|refine zO ?_|refine vY ?_|refine blY ?_|refine gTY ?_|refine cTY ?_|fail)
  refine po (b:=0) (N:=N) (len:=k) (n:=1) (new:=[.int .i64 x]) rfl ev0 (by rw [ae (by omega)]; exact h5) h6 h7 hDl ev0 dp rfl rfl (by omega) (by omega) (by omega) fun C2 c1 c2=>?_;clear zz;have zz:=@s1; repeat' (first|apply a_n|refine zO ?_|refine vY ?_|fail)
  exact ⟨(a2,B,D ++ [x],k + 1),by dsimp only; omega,⟨by omega,by simp [h2],by dsimp only; omega,by simpa using h4,C2,ai,c1,by rw [c2,ed]; rfl⟩,ag0⟩
 rw [if_neg g1] at h4;have z1:decide (x < y)=false:=bj g1;by_cases g2:y < x
 ·rw [if_pos g2] at h4;have z2:decide (y < x)=true:=bt g2;have zz:=aI @i1 (aI @i2 (aI @y1 (aI @y2 (aI @z1 @z2)))); repeat' (first|refine zW ?_|apply a_n|refine zO ?_|refine vY ?_|refine blY ?_|refine gTY ?_|refine cTY ?_|refine cFY ?_|fail)
  refine po (b:=0) (N:=N) (len:=k) (n:=1) (new:=[.int .i64 y]) rfl ev0 (by rw [ae (by omega)]; exact h5) h6 h7 hDl ev0 dp rfl rfl (by omega) (by omega) (by omega) fun C2 c1 c2=>?_;clear zz;have zz:=@s2; repeat' (first|apply a_n|refine zO ?_|refine vY ?_|fail)
  exact ⟨(A,b2,D ++ [y],k + 1),by dsimp only; omega,⟨by omega,by simp [h2],by dsimp only; omega,by simpa using h4,C2,ai,c1,by rw [c2,ed]; rfl⟩,ag0⟩
 rw [if_neg g2] at h4;have z2:decide (y < x)=false:=bj g2;have zz:=aI @i1 (aI @i2 (aI @s1 (aI @s2 (aI @y1 (aI @y2 (aI @z1 @z2)))))); repeat' (first|refine zW ?_|apply a_n|refine zO ?_|refine vY ?_|refine gTY ?_|refine cTY ?_|refine cFY ?_|fail)
 exact ⟨(a2,b2,D,k),by dsimp only; omega,⟨by omega,h2,by dsimp only; omega,h4,C,h5,h6,h7⟩,ag0⟩
end Go.Proofs.YtlodfaaceehfmaaGreat
namespace Go.Proofs.YtlodfaaceehfmaaGreat
open Go Go.Abs
attribute [local irreducible] aM am bm be aX a6 aG aZ bf bI Go.Abs.Fn bc Go.Abs.Pure aB aQ Yl
end Go.Proofs.YtlodfaaceehfmaaGreat
namespace Go.Proofs.YtlodfaaceehfmaaGreat
open Go Go.Abs
theorem Hm {H:Hp} {s:AV} {l:List Spx} (h:Row H 1 s (l.map aF)):∃ Hf H',Fz Hf H H'∧Snap Hf s (aC l)∧∀ x,dF s ≠ some x→H' x=H x:=by
 generalize hcs:l.map aF=cs at h;cases h with
 | nil=>exact ⟨bT,H,Fz.none,l6 (by rw [hcs]; exact Row.nil),fun _ _=>rfl⟩
 | box b len cs g1 g2=>exact ⟨only b cs,cK H b,Fz.one g1,l6 (by rw [hcs]; exact Row.box b len cs oS g2),fun x hx=>dj (fun e=>hx (by rw [e]; rfl))⟩
attribute [local irreducible] aM am bm be aX a6 aG aZ bf bI Go.Abs.Fn bc Go.Abs.Pure aB aQ Yl
end Go.Proofs.YtlodfaaceehfmaaGreat
namespace Go.Proofs.YtlodfaaceehfmaaGreat
open Go Go.Abs
def bw (l:List Int):Prop:=l.Pairwise (· < ·)
theorem iG:∀ (n:Nat) (a b:List Int),a.length + b.length ≤ n→bw a→bw b→bw (co a b)∧∀ z,z ∈ co a b ↔ (z ∈ a∧z ∉ b) ∨ (z ∈ b∧z ∉ a)
 | _,[],b,_,_,hb=>by rw [kd]; exact ⟨hb,fun z=>by simp⟩
 | _,x :: a,[],_,ha,_=>by rw [ga]; exact ⟨ha,fun z=>by simp⟩
 | 0,x :: a,y :: b,h,_,_=>by simp only [bN] at h; omega
 | n + 1,x :: a,y :: b,h,ha,hb=>by
  simp only [bN] at h;obtain ⟨a1,a2⟩:=gS.1 ha;obtain ⟨b1,b2⟩:=gS.1 hb;rw [nN];by_cases g1:x < y
  ·rw [if_pos g1];obtain ⟨h1,h2⟩:=iG n a (y :: b) (by simp only [bN]; omega) a2 hb
   have hxb:∀ z ∈ y :: b,x < z:=fun z hz=>by
    rcases dw.1 hz with rfl | hz
    ·exact g1
    ·have:=b1 z hz; omega
   refine ⟨gS.2 ⟨fun z hz=>?_,h1⟩,fun z=>?_⟩
   ·rcases (h2 z).1 hz with ⟨q,_⟩ | ⟨q,_⟩
    ·exact a1 z q
    ·exact hxb z q
   ·rw [dw,h2,dw (a:=z) (b:=x)];by_cases hz:z=x
    ·subst hz;have:z ∉ y :: b:=fun q=>by have:=hxb z q; omega
     simp [this]
    ·simp [hz]
  rw [if_neg g1];by_cases g2:y < x
  ·rw [if_pos g2];obtain ⟨h1,h2⟩:=iG n (x :: a) b (by simp only [bN]; omega) ha b2
   have hya:∀ z ∈ x :: a,y < z:=fun z hz=>by
    rcases dw.1 hz with rfl | hz
    ·exact g2
    ·have:=a1 z hz; omega
   refine ⟨gS.2 ⟨fun z hz=>?_,h1⟩,fun z=>?_⟩
   ·rcases (h2 z).1 hz with ⟨q,_⟩ | ⟨q,_⟩
    ·exact hya z q
    ·exact b1 z q
   ·rw [dw,h2,dw (a:=z) (b:=y)];by_cases hz:z=y
    ·subst hz;have:z ∉ x :: a:=fun q=>by have:=hya z q; omega
     simp [this]
    ·simp [hz]
  rw [if_neg g2];obtain rfl:x=y:=by omega
  obtain ⟨h1,h2⟩:=iG n a b (by omega) a2 b2;refine ⟨h1,fun z=>?_⟩;rw [h2];by_cases hz:z=x
  ·subst hz;have q1:z ∉ a:=fun q=>by have:=a1 z q; omega
   have q2:z ∉ b:=fun q=>by have:=b1 z q; omega
   simp [q1,q2]
  ·simp [hz]
theorem BJ {a b:List Int} (ha:bw a) (hb:bw b) (h:∀ x,x ∈ a ↔ x ∈ b):a=b:=by
 have na:a.Nodup:=tH (fun {x y} (h:x < y) e=>by omega) ha;have nb:b.Nodup:=tH (fun {x y} (h:x < y) e=>by omega) hb;exact List.Perm.eq_of_pairwise (fun x y _ _ h1 h2=>by omega) ha hb ((List.perm_ext_iff_of_nodup na nb).2 h)
theorem EU {l:List Int} (h:bw l) (i:Nat) (hi:i + 1 < l.length):l.getD i default < l.getD (i + 1) default:=by
 have:=(mQ.1 h) i (i + 1) (by omega) hi (by omega);simpa [List.getD,hi,show i < l.length by omega] using this
theorem rW:∀ {a b:List Int},bw a→bw b→(∀ z,z ∈ a ↔ z ∈ b)→a=b
 | [],[],_,_,_=>rfl
 | [],y :: b,_,_,h=>absurd ((h y).2 (di ..)) (by simp)
 | x :: a,[],_,_,h=>absurd ((h x).1 (di ..)) (by simp)
 | x :: a,y :: b,ha,hb,h=>by
  obtain ⟨a1,a2⟩:=gS.1 ha;obtain ⟨b1,b2⟩:=gS.1 hb
  have e:x=y:=by
   rcases dw.1 ((h x).1 (di ..)) with e | e
   ·exact e
   ·rcases dw.1 ((h y).2 (di ..)) with e2 | e2
    ·exact e2.symm
    ·have:=b1 _ e; have:=a1 _ e2; omega
  subst e
  congr 1
  refine rW a2 b2 fun z=>⟨fun hz=>?_,fun hz=>?_⟩
  ·rcases dw.1 ((h z).1 (d6 _ hz)) with e | e
   ·have:=a1 z hz; omega
   ·exact e
  ·rcases dw.1 ((h z).2 (d6 _ hz)) with e | e
   ·have:=b1 z hz; omega
   ·exact e
theorem eI {a b:List Int} (ha:bw a) (hb:bw b):bw (co a b):=(iG _ a b (aP _) ha hb).1
def bit (z:Int) (a:List Int):Nat:=if z ∈ a then 1 else 0
theorem kf {z:Int}:bit z []=0:=by simp [bit]
theorem gq {z:Int} {a:List Int}:bit z a < 2:=by unfold bit; split <;> omega
theorem dP {z:Int} {a:List Int}:bit z a=1 ↔ z ∈ a:=by unfold bit; split <;> simp [*]
theorem dN {a b:List Int} {z:Int} (ha:bw a) (hb:bw b):bit z (co a b)=(bit z a + bit z b) % 2:=by
 unfold bit;have h:=(iG _ a b (aP _) ha hb).2 z;by_cases h1:z ∈ a <;> by_cases h2:z ∈ b <;> simp [h,h1,h2]
theorem iW {a b:List Int} (ha:bw a) (hb:bw b) (h:∀ z,bit z a=bit z b):a=b :=
 rW ha hb fun z=>by rw [← dP,← dP,h z]
theorem vb {a:List Int} (h:∀ z,bit z a=0):a=[]:=by
 cases a with
 | nil=>rfl
 | cons x l=>exact absurd (h x) (by rw [dP.2 (di ..)]; decide)
def ld (r:List Int):Int:=r.getD 0 0
theorem de {v:List Int} (h:v ≠ []):ld v ∈ v:=by
 cases v with
 | nil=>exact absurd rfl h
 | cons x l=>exact di ..
theorem m8 {v:List Int} (h:bw v) {z:Int} (hz:z ∈ v):ld v ≤ z:=by
 cases v with
 | nil=>cases hz
 | cons x l =>
  rcases dw.1 hz with rfl | hz
  ·exact Int.le_refl _
  ·exact Int.le_of_lt ((gS.1 h).1 z hz)
inductive Sp (R:List (List Int)):List Int→Prop
 | nil:Sp R []
 | add {v r:List Int}:Sp R v→r ∈ R→Sp R (co v r)
theorem fe {R:List (List Int)} {r:List Int} (h:r ∈ R):Sp R r:=by
 have:=Sp.add (Sp.nil (R:=R)) h
 rwa [kd] at this
def nr (z:Int) (p:List Int→Bool):List (List Int)→Nat
 | []=>0
 | r :: E=>(if p r=true then bit z r else 0) + nr z p E
theorem nu {z:Int} {p q:List Int→Bool}:∀ {E:List (List Int)},(∀ r ∈ E,p r=q r)→nr z p E=nr z q E
 | [],_=>rfl
 | r :: E,h=>by
  unfold nr;rw [h r (di ..),nu fun x hx=>h x (d6 _ hx)]
theorem rU {z:Int} {p:List Int→Bool}:∀ {E:List (List Int)},nr z p E ≠ 0→∃ q ∈ E,p q=true∧z ∈ q
 | [],h=>absurd rfl h
 | r :: E,h=>by
  unfold nr at h;by_cases h1:p r=true∧z ∈ r
  ·exact ⟨r,di ..,h1⟩
  ·have:nr z p E ≠ 0:=fun e=>by
     rw [e] at h;by_cases h2:p r=true
     ·rw [if_pos h2] at h;have:bit z r=1:=by have:=gq (z:=z) (a:=r); omega
      exact h1 ⟨h2,dP.1 this⟩
     ·rw [if_neg h2] at h; exact h rfl
   obtain ⟨q,q1,q2⟩:=rU this;exact ⟨q,d6 _ q1,q2⟩
theorem ms {z:Int} {p:List Int→Bool} {E:List (List Int)} (h:∀ q ∈ E,p q=true→z ∉ q):nr z p E=0 :=
 Decidable.byContradiction fun e=>by
  obtain ⟨q,q1,q2,q3⟩:=rU e;exact h q q1 q2 q3
theorem yI {z:Int} {p:List Int→Bool} {r:List Int}:∀ {E:List (List Int)},E.Nodup→r ∈ E→nr z (fun q=>(p q).xor (decide (q=r))) E % 2=(nr z p E + bit z r) % 2
 | [],_,h=>by cases h
 | q :: E,hn,h=>by
  obtain ⟨n1,n2⟩:=List.nodup_cons.1 hn;unfold nr;by_cases e:q=r
  ·subst e
   rw [nu (q:=p) (fun x hx=>by
    have:x ≠ q:=fun e=>n1 (e ▸ hx);simp [this])]
   cases hp:p q <;> simp <;> have:=gq (z:=z) (a:=q) <;> omega
  ·have h2:r ∈ E:=(dw.1 h).resolve_left fun x=>e x.symm;have:=yI (z:=z) (p:=p) n2 h2;simp only [e,decide_false,Bool.xor_false];omega
theorem r6 {z:Int} {p:List Int→Bool} {r:List Int}:∀ {E:List (List Int)},E.Nodup→r ∈ E→z ∈ r→(∀ q ∈ E,z ∈ q→q=r)→nr z p E=if p r=true then 1 else 0
 | [],_,h,_,_=>by cases h
 | q :: E,hn,h,hz,ho=>by
  obtain ⟨n1,n2⟩:=List.nodup_cons.1 hn;unfold nr;by_cases e:q=r
  ·subst e;rw [ms (fun x hx _ hzx=>n1 (ho x (d6 _ hx) hzx ▸ hx)),dP.2 hz,nP]
  ·have h2:r ∈ E:=(dw.1 h).resolve_left fun x=>e x.symm;have hq:z ∉ q:=fun x=>e (ho q (di ..) x);rw [r6 n2 h2 hz fun x hx=>ho x (d6 _ hx),show bit z q=0 by unfold bit; rw [if_neg hq]];simp
theorem vE {E:List (List Int)} {v:List Int} (hE:∀ r ∈ E,bw r) (hn:E.Nodup) (h:Sp E v):bw v∧∃ p,∀ z,bit z v=nr z p E % 2:=by
 induction h with
 | nil=>exact ⟨qJ,fun _=>false,fun z=>by rw [kf,ms (p:=fun _=>false) fun q _ h=>by cases h]⟩
 | @add w r h1 h2 ih =>
  obtain ⟨ha,p,hp⟩:=ih;refine ⟨eI ha (hE _ h2),fun q=>(p q).xor (decide (q=r)),fun z=>?_⟩;rw [dN ha (hE _ h2),hp z,yI hn h2];omega
theorem lL {R:List (List Int)} {v:List Int} (hR:∀ r ∈ R,bw r) (h:Sp R v):bw v:=by
 induction h with
 | nil=>exact qJ
 | add h1 h2 ih=>exact eI ih (hR _ h2)
structure Red (E:List (List Int)):Prop where
 asc:∀ r ∈ E,bw r
 ne:∀ r ∈ E,r ≠ []
 own:∀ r ∈ E,∀ q ∈ E,ld r ∈ q→q=r
 ord:E.Pairwise fun r q=>ld r < ld q
theorem Red.nodup {E:List (List Int)} (h:Red E):E.Nodup:=tH (fun {x y} (q:ld x < ld y) e=>by rw [e] at q; omega) h.ord
theorem Red.cnt {E:List (List Int)} (h:Red E) {p:List Int→Bool} {r:List Int} (hr:r ∈ E):nr (ld r) p E=if p r=true then 1 else 0 :=
 r6 h.nodup hr (de (h.ne r hr)) fun q hq hz=>h.own r hr q hq hz
theorem FB {E:List (List Int)} {v w:List Int} (hE:Red E) (hv:Sp E v) (hw:Sp E w) (h:∀ r ∈ E,ld r ∈ v ↔ ld r ∈ w):v=w:=by
 obtain ⟨av,p,hp⟩:=vE hE.asc hE.nodup hv;obtain ⟨aw,q,hq⟩:=vE hE.asc hE.nodup hw;refine iW av aw fun z=>?_;rw [hp z,hq z]
 congr 1
 refine nu fun r hr=>?_;have h1:=h r hr;rw [← dP,← dP,hp,hq,hE.cnt hr,hE.cnt hr] at h1;cases h2:p r <;> cases h3:q r <;> simp [h2,h3] at h1 <;> rfl
theorem xl {p:List Int→Bool}:∀ {E:List (List Int)},E.Pairwise (fun r q=>ld r < ld q)→(∃ r ∈ E,p r=true)→∃ r ∈ E,p r=true∧∀ q ∈ E,p q=true→ld r ≤ ld q
 | [],_,h=>by obtain ⟨_,h,_⟩:=h; cases h
 | x :: E,ho,h=>by
  obtain ⟨o1,o2⟩:=gS.1 ho;by_cases hx:p x=true
  ·refine ⟨x,di ..,hx,fun q hq _=>?_⟩;rcases dw.1 hq with rfl | hq
   ·exact Int.le_refl _
   ·exact Int.le_of_lt (o1 q hq)
  ·obtain ⟨r,hr,hp⟩:=h;have hrE:r ∈ E:=(dw.1 hr).resolve_left fun e=>hx (e ▸ hp);obtain ⟨s,s1,s2,s3⟩:=xl o2 ⟨r,hrE,hp⟩;refine ⟨s,d6 _ s1,s2,fun q hq hpq=>?_⟩;rcases dw.1 hq with rfl | hq
   ·exact absurd hpq hx
   ·exact s3 q hq hpq
theorem yy {E:List (List Int)} {v:List Int} (hE:Red E) (hv:Sp E v) (h0:v ≠ []):∃ r ∈ E,ld r=ld v:=by
 obtain ⟨av,p,hp⟩:=vE hE.asc hE.nodup hv
 have hex:∃ r ∈ E,p r=true:=Decidable.byContradiction fun hn=>h0 (vb fun z=>by
  rw [hp z,ms fun q hq hpq=>absurd ⟨q,hq,hpq⟩ hn])
 obtain ⟨r,r1,r2,r3⟩:=xl hE.ord hex;refine ⟨r,r1,Int.le_antisymm ?_ ?_⟩
 ·have h1:bit (ld v) v=1:=dP.2 (de h0);rw [hp] at h1;obtain ⟨q,q1,q2,q3⟩:=rU (z:=ld v) (p:=p) (E:=E) (fun e=>by rw [e] at h1; cases h1);exact Int.le_trans (r3 q q1 q2) (m8 (hE.asc q q1) q3)
 ·refine m8 av (dP.1 ?_);rw [hp,hE.cnt r1,if_pos r2]
theorem uJ:∀ {E F:List (List Int)},E.map ld=F.map ld→(∀ r ∈ E,∀ q ∈ F,ld r=ld q→r=q)→E=F
 | [],[],_,_=>rfl
 | [],_ :: _,h,_=>by cases h
 | _ :: _,[],h,_=>by cases h
 | x :: E,y :: F,h,hi=>by
  obtain ⟨h1,h2⟩:=List.cons.inj h;rw [hi x (di ..) y (di ..) h1,uJ h2 fun r hr q hq=>hi r (d6 _ hr) q (d6 _ hq)]
theorem xD {E F:List (List Int)} (hE:Red E) (hF:Red F) (h:∀ v,Sp E v ↔ Sp F v):E=F:=by
 have leads:E.map ld=F.map ld:=by
  refine rW (List.pairwise_map.2 hE.ord) (List.pairwise_map.2 hF.ord) fun z=>?_;rw [bP,bP];constructor
  ·rintro ⟨r,hr,rfl⟩;exact yy hF ((h r).1 (fe hr)) (hE.ne r hr)
  ·rintro ⟨r,hr,rfl⟩;exact yy hE ((h r).2 (fe hr)) (hF.ne r hr)
 refine uJ leads fun r hr q hq e=>?_;refine FB hF ((h r).1 (fe hr)) (fe hq) fun f hf=>⟨fun hfr=>?_,fun hfq=>?_⟩
 ·have hm:ld f ∈ E.map ld:=by rw [leads]; exact bP.2 ⟨f,hf,rfl⟩
  obtain ⟨g,hg,eg⟩:=bP.1 hm;rw [← eg] at hfr;have h1:=hE.own g hg r hr hfr;rw [← eg,← h1,e];exact de (hF.ne q hq)
 ·have h1:=hF.own f hf q hq hfq;rw [← h1,← e];exact de (hE.ne r hr)
abbrev Ln:=List Int × List Int
def jO (f:Ln→List Int) (z:Int) (p:Ln→Bool):List Ln→Nat
 | []=>0
 | r :: E=>(if p r=true then bit z (f r) else 0) + jO f z p E
theorem gu {f:Ln→List Int} {z:Int} {p q:Ln→Bool}:∀ {E:List Ln},(∀ r ∈ E,p r=q r)→jO f z p E=jO f z q E
 | [],_=>rfl
 | r :: E,h=>by
  unfold jO;rw [h r (di ..),gu fun x hx=>h x (d6 _ hx)]
theorem ng {f:Ln→List Int} {z:Int}:∀ {E:List Ln},jO f z (fun _=>false) E=0
 | []=>rfl
 | r :: E=>by unfold jO; rw [ng]; rfl
theorem qZ {f:Ln→List Int} {z:Int} {p:Ln→Bool} {r:Ln}:∀ {E:List Ln},E.Nodup→r ∈ E→jO f z (fun q=>(p q).xor (decide (q=r))) E % 2=(jO f z p E + bit z (f r)) % 2
 | [],_,h=>by cases h
 | q :: E,hn,h=>by
  obtain ⟨n1,n2⟩:=List.nodup_cons.1 hn;unfold jO;by_cases e:q=r
  ·subst e
   rw [gu (q:=p) (fun x hx=>by
    have:x ≠ q:=fun e=>n1 (e ▸ hx);simp [this])]
   cases hp:p q <;> simp <;> have:=gq (z:=z) (a:=f q) <;> omega
  ·have h2:r ∈ E:=(dw.1 h).resolve_left fun x=>e x.symm;have:=qZ (f:=f) (z:=z) (p:=p) n2 h2;simp only [e,decide_false,Bool.xor_false];omega
structure RedU (M:List Ln):Prop where
 asc:∀ l ∈ M,bw l.1∧bw l.2
 ne:∀ l ∈ M,l.1 ≠ []
 own:∀ l ∈ M,∀ m ∈ M,ld l.1 ∈ m.1→m=l
 nodup:M.Nodup
def dU (x l:Ln):Ln:=(co x.1 l.1,co x.2 l.2)
def rdL (M:List Ln) (p:Ln→Bool) (x:Ln):Ln:=M.foldl (fun a l=>if p l=true then dU a l else a) x
def cq (x:Ln):Prop:=bw x.1∧bw x.2
theorem eA {x l:Ln} (hx:cq x) (hl:cq l):cq (dU x l):=⟨eI hx.1 hl.1,eI hx.2 hl.2⟩
theorem ig {p:Ln→Bool}:∀ {M:List Ln} {x:Ln},(∀ l ∈ M,cq l)→cq x→cq (rdL M p x)
 | [],_,_,hx=>hx
 | l :: M,x,hM,hx=>by
  unfold rdL;rw [List.foldl_cons];refine ig (M:=M) (fun m hm=>hM m (d6 _ hm)) ?_;split
  ·exact eA hx (hM l (di ..))
  ·exact hx
theorem jA {p:Ln→Bool} {z:Int}:∀ {M:List Ln} {x:Ln},(∀ l ∈ M,cq l)→cq x→bit z (rdL M p x).1=(bit z x.1 + jO Prod.fst z p M) % 2
 | [],x,_,_=>by
  have:=gq (z:=z) (a:=x.1);show bit z x.1=(bit z x.1 + 0) % 2;omega
 | l :: M,x,hM,hx=>by
  have hl:=hM l (di ..)
  have hx':cq (if p l=true then dU x l else x):=by
   split
   ·exact eA hx hl
   ·exact hx
  have ih:=jA (p:=p) (z:=z) (M:=M) (fun m hm=>hM m (d6 _ hm)) hx';show bit z (rdL M p (if p l=true then dU x l else x)).1=(bit z x.1 + ((if p l=true then bit z l.1 else 0) + jO Prod.fst z p M)) % 2;rw [ih];clear ih;by_cases h:p l=true
  ·rw [if_pos h,if_pos h];unfold dU;rw [dN hx.1 hl.1];omega
  ·rw [if_neg h,if_neg h];omega
theorem kW {p:Ln→Bool} {z:Int}:∀ {M:List Ln} {x:Ln},(∀ l ∈ M,cq l)→cq x→bit z (rdL M p x).2=(bit z x.2 + jO Prod.snd z p M) % 2
 | [],x,_,_=>by
  have:=gq (z:=z) (a:=x.2);show bit z x.2=(bit z x.2 + 0) % 2;omega
 | l :: M,x,hM,hx=>by
  have hl:=hM l (di ..)
  have hx':cq (if p l=true then dU x l else x):=by
   split
   ·exact eA hx hl
   ·exact hx
  have ih:=kW (p:=p) (z:=z) (M:=M) (fun m hm=>hM m (d6 _ hm)) hx';show bit z (rdL M p (if p l=true then dU x l else x)).2=(bit z x.2 + ((if p l=true then bit z l.2 else 0) + jO Prod.snd z p M)) % 2;rw [ih];clear ih;by_cases h:p l=true
  ·rw [if_pos h,if_pos h];unfold dU;rw [dN hx.2 hl.2];omega
  ·rw [if_neg h,if_neg h];omega
def eD (x:Ln) (l:Ln):Bool:=decide (ld l.1 ∈ x.1)
def eP (M:List Ln) (x:Ln):Ln:=rdL M (eD x) x
theorem El {x y:Ln} (hx:cq x) (hy:cq y) (h1:∀ z,bit z x.1=bit z y.1) (h2:∀ z,bit z x.2=bit z y.2):x=y :=
 Prod.ext (iW hx.1 hy.1 h1) (iW hx.2 hy.2 h2)
theorem B8 {M:List Ln} {x l:Ln} (hM:RedU M) (hx:cq x) (hl:l ∈ M):eP M (dU x l)=eP M x:=by
 have hla:cq l:=hM.asc l hl;have hxl:=eA hx hla
 have hp:∀ m ∈ M,eD (dU x l) m=(eD x m).xor (decide (m=l)):=fun m hm=>by
  unfold eD;have h1:ld m.1 ∈ l.1 ↔ m=l:=⟨fun h=>(hM.own m hm l hl h).symm,fun e=>e ▸ de (hM.ne m hm)⟩
  have h2:=(iG _ x.1 l.1 (aP _) hx.1 hla.1).2 (ld m.1);show decide (ld m.1 ∈ co x.1 l.1)=_;by_cases b:m=l
  ·subst b;have h3:=de (hM.ne m hm);by_cases a:ld m.1 ∈ x.1 <;> simp [h2,h3,a]
  ·have h3:ld m.1 ∉ l.1:=fun h=>b (h1.1 h);by_cases a:ld m.1 ∈ x.1 <;> simp [h2,h3,a,b]
 refine El (ig hM.asc hxl) (ig hM.asc hx) (fun z=>?_) (fun z=>?_)
 ·unfold eP;rw [jA hM.asc hxl,jA hM.asc hx,gu hp];have:=qZ (f:=Prod.fst) (z:=z) (p:=eD x) hM.nodup hl;unfold dU;rw [dN hx.1 hla.1];omega
 ·unfold eP;rw [kW hM.asc hxl,kW hM.asc hx,gu hp];have:=qZ (f:=Prod.snd) (z:=z) (p:=eD x) hM.nodup hl;unfold dU;rw [dN hx.2 hla.2];omega
theorem Cl {M:List Ln} {x:Ln} (hM:RedU M) (hx:cq x) (h:∀ l ∈ M,ld l.1 ∉ x.1):eP M x=x:=by
 have hp:∀ m ∈ M,eD x m=false:=fun m hm=>bj (h m hm);refine El (ig hM.asc hx) hx (fun z=>?_) (fun z=>?_)
 ·unfold eP;rw [jA hM.asc hx,gu hp,ng];have:=gq (z:=z) (a:=x.1); omega
 ·unfold eP;rw [kW hM.asc hx,gu hp,ng];have:=gq (z:=z) (a:=x.2); omega
theorem dV {a b:List Int} {z:Int} (ha:bw a) (hb:bw b):z ∈ co a b ↔ (z ∈ a∧z ∉ b) ∨ (z ∈ b∧z ∉ a):=(iG _ a b (aP _) ha hb).2 z
theorem eY {a b c:List Int} (ha:bw a) (hb:bw b) (hc:bw c):co a (co b c)=co (co a b) c :=
 iW (eI ha (eI hb hc)) (eI (eI ha hb) hc) fun z=>by
  rw [dN ha (eI hb hc),dN hb hc,dN (eI ha hb) hc,dN ha hb]; omega
theorem fH {a:List Int} (ha:bw a):co a a=[] :=
 vb fun z=>by rw [dN ha ha]; omega
theorem j0 {S:List (List Int)} {v w:List Int} (hS:∀ r ∈ S,bw r) (hv:Sp S v) (hw:Sp S w):Sp S (co v w):=by
 induction hw with
 | nil=>rw [ga]; exact hv
 | @add w r h1 h2 ih =>
  rw [eY (lL hS hv) (lL hS h1) (hS _ h2)];exact Sp.add ih h2
theorem lR {R S:List (List Int)} {v:List Int} (hS:∀ r ∈ S,bw r) (h:∀ r ∈ R,Sp S r) (hv:Sp R v):Sp S v:=by
 induction hv with
 | nil=>exact Sp.nil
 | add h1 h2 ih=>exact j0 hS ih (h _ h2)
theorem kg {R S:List (List Int)} {v:List Int} (h:∀ r ∈ R,r ∈ S) (hv:Sp R v):Sp S v:=by
 induction hv with
 | nil=>exact Sp.nil
 | add h1 h2 ih=>exact Sp.add ih (h _ h2)
theorem ws {p:Ln→Bool} {S:List (List Int)} (hS:∀ r ∈ S,bw r):∀ {M:List Ln} {x:Ln},(∀ l ∈ M,cq l∧l.1 ∈ S)→cq x→Sp S (co x.1 (rdL M p x).1)
 | [],x,_,hx=>by
  show Sp S (co x.1 x.1);rw [fH hx.1]; exact Sp.nil
 | l :: M,x,hM,hx=>by
  obtain ⟨hl,hlS⟩:=hM l (di ..);have hM':=fun m hm=>hM m (d6 _ hm)
  have hx':cq (if p l=true then dU x l else x):=by
   split
   ·exact eA hx hl
   ·exact hx
  have ih:=ws (p:=p) hS (M:=M) hM' hx';have hr:=ig (p:=p) (M:=M) (fun m hm=>(hM' m hm).1) hx';show Sp S (co x.1 (rdL M p (if p l=true then dU x l else x)).1);by_cases h:p l=true
  ·rw [if_pos h] at ih hr hx' ⊢
   have e:co x.1 (rdL M p (dU x l)).1=co (co (dU x l).1 (rdL M p (dU x l)).1) l.1 :=
    iW (eI hx.1 hr.1) (eI (eI hx'.1 hr.1) hl.1) fun z=>by
     rw [dN hx.1 hr.1,dN (eI hx'.1 hr.1) hl.1,dN hx'.1 hr.1];show _=((bit z (co x.1 l.1) + _) % 2 + _) % 2;rw [dN hx.1 hl.1];omega
   rw [e];exact Sp.add ih hlS
  ·rw [if_neg h] at ih ⊢;exact ih
theorem ml {M:List Ln} {x:Ln} (hM:RedU M) (hx:cq x) {l:Ln} (hl:l ∈ M):ld l.1 ∉ (eP M x).1:=by
 rw [← dP];unfold eP;rw [jA hM.asc hx]
 have hc:∀ {E:List Ln},E.Nodup→(∀ m ∈ E,ld l.1 ∈ m.1→m=l)→jO Prod.fst (ld l.1) (eD x) E=if l ∈ E∧eD x l=true then 1 else 0:=by
  intro E
  induction E with
  | nil=>intro _ _; simp [jO]
  | cons m E ih =>
   intro hn ho;obtain ⟨n1,n2⟩:=List.nodup_cons.1 hn;have ih:=ih n2 fun m hm=>ho m (d6 _ hm);show (if eD x m=true then bit (ld l.1) m.1 else 0) + jO Prod.fst (ld l.1) (eD x) E=_;rw [ih];by_cases e:m=l
   ·subst e;have hb:bit (ld m.1) m.1=1:=dP.2 (de (hM.ne m hl));simp [n1,hb]
   ·have hb:bit (ld l.1) m.1=0:=by
      unfold bit;rw [if_neg fun h=>e (ho m (di ..) h)]
    have e2:l ≠ m:=fun h=>e h.symm;simp [hb,e2]
 rw [hc hM.nodup fun m hm h=>hM.own l hl m hm h];unfold eD bit;by_cases h:ld l.1 ∈ x.1 <;> simp [h,hl]
def iJ (y l:Ln):Ln:=if ld y.1 ∈ l.1 then dU l y else l
def kE (M:List Ln) (y:Ln):List Ln:=M.map (iJ y) ++ [y]
theorem sQ {M:List Ln} {y l:Ln} (hM:RedU M) (hy:cq y) (h0:y.1 ≠ []) (hn:∀ l ∈ M,ld l.1 ∉ y.1) (hl:l ∈ M) :
    cq (iJ y l)∧(∀ m ∈ M,ld m.1 ∈ (iJ y l).1 ↔ l=m)∧ld y.1 ∉ (iJ y l).1∧ld (iJ y l).1=ld l.1:=by
 have hla:=hM.asc l hl;have how:∀ m ∈ M,ld m.1 ∈ l.1 ↔ l=m:=fun m hm=>⟨fun h=>hM.own m hm l hl h,fun e=>e ▸ de (hM.ne l hl)⟩
 unfold iJ;by_cases h:ld y.1 ∈ l.1
 ·rw [if_pos h];have hs:=fun z=>dV (z:=z) hla.1 hy.1
  have ho:∀ m ∈ M,ld m.1 ∈ (dU l y).1 ↔ l=m:=fun m hm=>by
   show ld m.1 ∈ co l.1 y.1 ↔ _;rw [hs];have:=hn m hm;rw [← how m hm];simp [this]
  refine ⟨eA hla hy,ho,?_,?_⟩
  ·show ld y.1 ∉ co l.1 y.1;rw [hs];have:=de h0;simp [this,h]
  ·have hm:=(ho l hl).2 rfl;refine Int.le_antisymm (m8 (eA hla hy).1 hm) ?_;have hne:(dU l y).1 ≠ []:=fun e=>by rw [e] at hm; cases hm
   have hq:=de hne;rcases (hs _).1 hq with q | q
   ·exact m8 hla.1 q.1
   ·exact Int.le_trans (m8 hla.1 h) (m8 hy.1 q.1)
 ·rw [if_neg h];exact ⟨hla,how,h,rfl⟩
theorem B5 {M:List Ln} {y:Ln} (hM:RedU M) (hy:cq y) (h0:y.1 ≠ []) (hn:∀ l ∈ M,ld l.1 ∉ y.1):RedU (kE M y):=by
 have hf:=fun l (hl:l ∈ M)=>sQ hM hy h0 hn hl
 have hmem:∀ {m},m ∈ kE M y→(∃ l ∈ M,iJ y l=m) ∨ m=y:=fun {m} h=>by
  rcases fp.1 h with h | h
  ·exact .inl (bP.1 h)
  ·exact .inr (dL.1 h)
 constructor
 ·intro m hm;rcases hmem hm with ⟨l,hl,rfl⟩ | rfl
  ·exact (hf l hl).1
  ·exact hy
 ·intro m hm;rcases hmem hm with ⟨l,hl,rfl⟩ | rfl
  ·intro e;have:=((hf l hl).2.1 l hl).2 rfl;rw [e] at this; cases this
  ·exact h0
 ·intro m hm k hk h;rcases hmem hm with ⟨l,hl,rfl⟩ | rfl
  ·rw [(hf l hl).2.2.2] at h;rcases hmem hk with ⟨q,hq,rfl⟩ | rfl
   ·rw [((hf q hq).2.1 l hl).1 h]
   ·exact absurd h (hn l hl)
  ·rcases hmem hk with ⟨q,hq,rfl⟩ | rfl
   ·exact absurd h (hf q hq).2.2.1
   ·rfl
 ·refine xa.2 ⟨?_,by simp,fun a ha b hb e=>?_⟩
  ·refine List.pairwise_map.2 (List.Pairwise.imp_of_mem (fun {a b} ha hb hab e=>hab ?_) hM.nodup);have h1:=(hf a ha).2.2.2;rw [e,(hf b hb).2.2.2] at h1;refine (hM.own b hb a ha ?_);rw [h1]; exact de (hM.ne a ha)
  ·obtain ⟨l,hl,rfl⟩:=bP.1 ha;rw [dL] at hb;subst hb;have:=(hf l hl).2.2.1;rw [e] at this;exact this (de h0)
def bL (g:Int→Nat):List Int→Nat
 | []=>0
 | x :: l=>g x + bL g l
theorem gG {g:Int→Nat}:∀ (n:Nat) (a b:List Int),a.length + b.length ≤ n→bL g (co a b) % 2=(bL g a + bL g b) % 2
 | _,[],b,_=>by rw [kd]; show _=(0 + bL g b) % 2; rw [cb]
 | _,x :: a,[],_=>by rw [ga]; show _=(bL g (x :: a) + 0) % 2; rw [nP]
 | 0,x :: a,y :: b,h=>by simp only [bN] at h; omega
 | n + 1,x :: a,y :: b,h=>by
  simp only [bN] at h;rw [nN];by_cases g1:x < y
  ·rw [if_pos g1];have ih:=gG (g:=g) n a (y :: b) (by simp only [bN]; omega);show (g x + bL g (co a (y :: b))) % 2=(g x + bL g a + bL g (y :: b)) % 2;omega
  rw [if_neg g1];by_cases g2:y < x
  ·rw [if_pos g2];have ih:=gG (g:=g) n (x :: a) b (by simp only [bN]; omega);show (g y + bL g (co (x :: a) b)) % 2=(bL g (x :: a) + (g y + bL g b)) % 2;omega
  rw [if_neg g2];obtain rfl:x=y:=by omega
  have ih:=gG (g:=g) n a b (by omega);show bL g (co a b) % 2=(g x + bL g a + (g x + bL g b)) % 2;omega
def kM (R:List (List Int)) (n:Nat) (l:Ln):Prop:=(∀ z,bit z l.1=bL (fun j=>bit z (R.getD j.toNat default)) l.2 % 2)∧∀ j ∈ l.2,0 ≤ j∧j < (n:Int)
theorem wL {R:List (List Int)} {n:Nat} {x l:Ln} (hx:cq x) (hl:cq l) (h1:kM R n x) (h2:kM R n l):kM R n (dU x l):=by
 refine ⟨fun z=>?_,fun j hj=>?_⟩
 ·show bit z (co x.1 l.1)=bL _ (co x.2 l.2) % 2;rw [dN hx.1 hl.1,gG _ _ _ (aP _),h1.1,h2.1];omega
 ·rcases (dV hx.2 hl.2).1 hj with h | h
  ·exact h1.2 j h.1
  ·exact h2.2 j h.1
theorem q9 {R:List (List Int)} {n:Nat} {p:Ln→Bool}:∀ {M:List Ln} {x:Ln},(∀ l ∈ M,cq l∧kM R n l)→cq x→kM R n x→kM R n (rdL M p x)
 | [],_,_,_,h=>h
 | l :: M,x,hM,hx,h=>by
  obtain ⟨hl,hlo⟩:=hM l (di ..);have hM':=fun m hm=>hM m (d6 _ hm);show kM R n (rdL M p (if p l=true then dU x l else x));by_cases hp:p l=true
  ·rw [if_pos hp];exact q9 hM' (eA hx hl) (wL hx hl h hlo)
  ·rw [if_neg hp];exact q9 hM' hx h
theorem kM.mono {R:List (List Int)} {n m:Nat} {l:Ln} (h:kM R n l) (hn:n ≤ m):kM R m l:=⟨h.1,fun j hj=>by have:=h.2 j hj; omega⟩
def stE (R:List (List Int)):Nat→List Ln × List (List Int)
 | 0=>([],[])
 | i + 1=>if (eP (stE R i).1 (R.getD i default,[(i:Int)])).1=[] then ((stE R i).1,(stE R i).2 ++ [(eP (stE R i).1 (R.getD i default,[(i:Int)])).2]) else (kE (stE R i).1 (eP (stE R i).1 (R.getD i default,[(i:Int)])),(stE R i).2)
structure StOk (R:List (List Int)) (i:Nat) (M:List Ln) (D:List (List Int)):Prop where
 red:RedU M
 ok:∀ l ∈ M,kM R i l
 dep:∀ y ∈ D,cq ([],y)∧kM R i ([],y)
 len:M.length + D.length=i
 inS:∀ l ∈ M,Sp (R.take i) l.1
 all:∀ r ∈ R.take i,Sp (M.map Prod.fst) r
theorem fu {M:List Ln} (h:RedU M):∀ r ∈ M.map Prod.fst,bw r:=fun r hr=>by
 obtain ⟨l,hl,rfl⟩:=bP.1 hr;exact (h.asc l hl).1
theorem fZ {R:List (List Int)} (hR:∀ r ∈ R,bw r):∀ {i:Nat},i ≤ R.length→StOk R i (stE R i).1 (stE R i).2
 | 0,_=>⟨⟨fun _ h=>(by cases h),fun _ h=>(by cases h),fun _ h=>(by cases h),List.nodup_nil⟩,fun _ h=>(by cases h),fun _ h=>(by cases h),rfl,fun _ h=>(by cases h),fun _ h=>(by cases h)⟩
 | i + 1,hi=>by
  have ih:=fZ hR (i:=i) (by omega);have hx:cq (R.getD i default,[(i:Int)]):=⟨hR _ (aE (by omega)),List.pairwise_singleton ..⟩
  have hxo:kM R (i + 1) (R.getD i default,[(i:Int)]):=⟨fun z=>by
   have:=gq (z:=z) (a:=R.getD i default);show bit z (R.getD i default)=(bit z (R.getD ((i:Nat):Int).toNat default) + 0) % 2;rw [cQ]; omega,fun j hj=>by rw [dL.1 hj]; omega⟩
  have hMo:∀ l ∈ (stE R i).1,cq l∧kM R (i + 1) l:=fun l hl=>⟨ih.red.asc l hl,(ih.ok l hl).mono (by omega)⟩
  have hya:cq (eP (stE R i).1 (R.getD i default,[(i:Int)])):=ig ih.red.asc hx;have hyo:kM R (i + 1) (eP (stE R i).1 (R.getD i default,[(i:Int)])):=q9 hMo hx hxo;have hyn:=fun l hl=>ml ih.red hx (l:=l) hl;have hysp:Sp ((stE R i).1.map Prod.fst) (co (R.getD i default) (eP (stE R i).1 (R.getD i default,[(i:Int)])).1):=ws (fu ih.red) (fun l hl=>⟨ih.red.asc l hl,bP.2 ⟨l,hl,rfl⟩⟩) hx;have htk:R.take (i + 1)=R.take i ++ [R.getD i default]:=dE (by omega);have hTa:∀ r ∈ R.take (i + 1),bw r:=fun r hr=>hR r (jZ hr);unfold stE;generalize eP (stE R i).1 (R.getD i default,[(i:Int)])=y at *;generalize (stE R i).1=M at *;generalize (stE R i).2=D at *;have hup:∀ l ∈ M,Sp (R.take (i + 1)) l.1:=fun l hl=>kg (fun r hr=>by rw [htk]; exact nG _ hr) (ih.inS l hl)
  have hMsp:∀ {v},Sp (M.map Prod.fst) v→Sp (R.take (i + 1)) v:=fun hv=>lR hTa (fun r hr=>by
   obtain ⟨l,hl,rfl⟩:=bP.1 hr;exact hup l hl) hv
  by_cases h0:y.1=[]
  ·rw [if_pos h0];rw [h0,ga] at hysp;refine ⟨ih.red,fun l hl=>(hMo l hl).2,fun z hz=>?_,?_,hup,fun r hr=>?_⟩
   ·rcases fp.1 hz with h | h
    ·exact ⟨(ih.dep z h).1,(ih.dep z h).2.mono (by omega)⟩
    ·rw [dL.1 h];have e:(([],y.2):Ln)=y:=by rw [← h0]
     rw [e];exact ⟨hya,hyo⟩
   ·show M.length + (D ++ [y.2]).length=i + 1;rw [dr,List.length_singleton]; have:=ih.len; omega
   ·rw [htk] at hr;rcases fp.1 hr with h | h
    ·exact ih.all r h
    ·rw [dL.1 h]; exact hysp
  ·rw [if_neg h0];have hi2:=B5 ih.red hya h0 hyn
   have hyS:Sp (R.take (i + 1)) y.1:=by
    have h1:=hMsp hysp;have h2:Sp (R.take (i + 1)) (R.getD i default):=fe (by rw [htk]; exact pq _ (dL.2 rfl));have h3:=j0 hTa h2 h1
    rwa [eY hx.1 hx.1 hya.1,fH hx.1,kd] at h3
   have hyI:y ∈ kE M y:=pq _ (dL.2 rfl)
   have hcl:∀ l ∈ M,Sp ((kE M y).map Prod.fst) l.1:=fun l hl=>by
    have hm:iJ y l ∈ kE M y:=nG _ (bP.2 ⟨l,hl,rfl⟩);have h1:=fe (bP.2 ⟨_,hm,rfl⟩:(iJ y l).1 ∈ (kE M y).map Prod.fst);unfold iJ at h1;by_cases h:ld y.1 ∈ l.1
    ·rw [if_pos h] at h1;have h2:=j0 (fu hi2) h1 (fe (bP.2 ⟨_,hyI,rfl⟩));have hla:=(ih.red.asc l hl).1
     rwa [show (dU l y).1=co l.1 y.1 from rfl,← eY hla hya.1 hya.1,fH hya.1,ga] at h2
    ·rwa [if_neg h] at h1
   refine ⟨hi2,fun m hm=>?_,fun z hz=>⟨(ih.dep z hz).1,(ih.dep z hz).2.mono (by omega)⟩,?_,fun m hm=>?_,fun r hr=>?_⟩
   ·rcases fp.1 hm with h | h
    ·obtain ⟨l,hl,rfl⟩:=bP.1 h;unfold iJ;split
     ·exact wL (hMo l hl).1 hya (hMo l hl).2 hyo
     ·exact (hMo l hl).2
    ·rw [dL.1 h]; exact hyo
   ·show (kE M y).length + D.length=i + 1;unfold kE;rw [dr,bO,List.length_singleton]; have:=ih.len; omega
   ·rcases fp.1 hm with h | h
    ·obtain ⟨l,hl,rfl⟩:=bP.1 h;unfold iJ;split
     ·exact j0 hTa (hup l hl) hyS
     ·exact hup l hl
    ·rw [dL.1 h]; exact hyS
   ·have hMI:∀ {v},Sp (M.map Prod.fst) v→Sp ((kE M y).map Prod.fst) v:=fun hv=>lR (fu hi2) (fun r hr=>by
      obtain ⟨l,hl,rfl⟩:=bP.1 hr;exact hcl l hl) hv
    rw [htk] at hr;rcases fp.1 hr with h | h
    ·exact hMI (ih.all r h)
    ·rw [dL.1 h];have h2:=j0 (fu hi2) (hMI hysp) (fe (bP.2 ⟨_,hyI,rfl⟩))
     rwa [← eY hx.1 hya.1 hya.1,fH hya.1,ga] at h2
def kj (M:List Ln) (c:Nat):List Ln:=(List.range c).filterMap fun (k:Nat)=>M.find? fun l=>decide (ld l.1=(k:Int))
theorem mf {M:List Ln} {c:Nat}:kj M (c + 1)=kj M c ++ (M.find? fun l=>decide (ld l.1=(c:Int))).toList:=by
 unfold kj;rw [List.range_succ,List.filterMap_append]
 congr 1
theorem oV {M:List Ln} {c:Nat} {l:Ln} (hM:RedU M):l ∈ kj M c ↔ l ∈ M∧0 ≤ ld l.1∧ld l.1 < c:=by
 unfold kj;rw [List.mem_filterMap];constructor
 ·rintro ⟨k,hk,h⟩;have h1:=List.mem_of_find?_eq_some h;have h2:ld l.1=(k:Int):=by simpa using List.find?_some h
  have:=ew.1 hk;exact ⟨h1,by omega,by omega⟩
 ·rintro ⟨h1,h2,h3⟩;refine ⟨(ld l.1).toNat,ew.2 (by omega),?_⟩;cases h:M.find? fun m=>decide (ld m.1=((ld l.1).toNat:Int)) with
  | none =>
   have:=List.find?_eq_none.1 h l h1;rw [gJ] at this;omega
  | some m =>
   have e:ld m.1=((ld l.1).toNat:Int):=by simpa using List.find?_some h
   have hm:=List.mem_of_find?_eq_some h
   congr 1
   refine hM.own l h1 m hm ?_;rw [show ld l.1=ld m.1 by omega];exact de (hM.ne m hm)
theorem nT {M:List Ln} (hM:RedU M):∀ {c:Nat},(kj M c).Pairwise fun a b=>ld a.1 < ld b.1
 | 0=>qJ
 | c + 1=>by
  rw [mf];refine List.pairwise_append.2 ⟨nT hM,?_,fun a ha b hb=>?_⟩
  ·cases M.find? fun l=>decide (ld l.1=(c:Int))
   ·exact qJ
   ·exact List.pairwise_singleton ..
  ·have h1:=((oV hM).1 ha).2.2;have h2:ld b.1=(c:Int):=by simpa using List.find?_some (Option.mem_toList.1 hb)
   omega
theorem Dp {M:List Ln} {c:Nat} (hM:RedU M):Red ((kj M c).map Prod.fst):=by
 have hm:∀ r ∈ (kj M c).map Prod.fst,∃ l ∈ M,l.1=r:=fun r hr=>by
  obtain ⟨l,hl,rfl⟩:=bP.1 hr;exact ⟨l,((oV hM).1 hl).1,rfl⟩
 refine ⟨fun r hr=>?_,fun r hr=>?_,fun r hr q hq h=>?_,List.pairwise_map.2 (nT hM)⟩
 ·obtain ⟨l,hl,rfl⟩:=hm r hr;exact (hM.asc l hl).1
 ·obtain ⟨l,hl,rfl⟩:=hm r hr;exact hM.ne l hl
 ·obtain ⟨l,hl,rfl⟩:=hm r hr;obtain ⟨k,hk,rfl⟩:=hm q hq;rw [hM.own l hl k hk h]
def gY (R:List (List Int)) (c:Nat):List Ln:=kj (stE R R.length).1 c
def r8 (R:List (List Int)) (c:Nat):List (List Int):=(gY R c).map Prod.fst
theorem oH {S:List (List Int)} {v:List Int} {P:Int→Prop} (hS:∀ r ∈ S,bw r) (hP:∀ r ∈ S,∀ z ∈ r,P z) (h:Sp S v):∀ z ∈ v,P z:=by
 induction h with
 | nil=>exact fun z hz=>by cases hz
 | @add w r h1 h2 ih =>
  intro z hz;rcases (dV (lL hS h1) (hS r h2)).1 hz with q | q
  ·exact ih z q.1
  ·exact hP r h2 z q.1
theorem pK {R:List (List Int)} {c:Nat} (hR:∀ r ∈ R,bw r) (hv:∀ r ∈ R,∀ z ∈ r,0 ≤ z∧z < (c:Int)):Red (r8 R c)∧(∀ v,Sp (r8 R c) v ↔ Sp R v)∧∀ l,l ∈ gY R c ↔ l ∈ (stE R R.length).1:=by
 have hs:=fZ hR (aP R.length);have hin:=hs.inS;have hall:=hs.all;rw [show R.take R.length=R from List.take_length] at hin hall
 have hmem:∀ l,l ∈ gY R c ↔ l ∈ (stE R R.length).1:=fun l=>by
  unfold gY;rw [oV hs.red];refine ⟨fun h=>h.1,fun h=>?_⟩;have:=oH hR hv (hin l h) _ (de (hs.red.ne l h));exact ⟨h,this.1,this.2⟩
 have hred:Red (r8 R c):=Dp hs.red;refine ⟨hred,fun v=>⟨fun h=>lR hR (fun r hr=>?_) h,fun h=>lR hred.asc (fun r hr=>?_) h⟩,hmem⟩
 ·obtain ⟨l,hl,rfl⟩:=bP.1 hr;exact hin l ((hmem l).1 hl)
 ·refine lR hred.asc (fun q hq=>?_) (hall r hr);obtain ⟨l,hl,rfl⟩:=bP.1 hq;exact fe (bP.2 ⟨l,(hmem l).2 hl,rfl⟩)
theorem vC {α:Type} [Inhabited α] {f:Nat→α} {n i:Nat} (h:i < n):((List.range n).map f).getD i default=f i:=by
 simp [List.getD,h]
theorem pk {α:Type} [Inhabited α] {l:List α} {x:α} (h:x ∈ l):∃ i,i < l.length∧l.getD i default=x:=by
 obtain ⟨i,hi,e⟩:=jW h;exact ⟨i,hi,by simp [List.getD,hi,e]⟩
def Jq (rows:List (List Int)) (n c:Nat):Option Nat:=(List.range rows.length).find? fun i=>decide (n ≤ i) && decide ((c:Int) ∈ rows.getD i default)
def swI (n k i:Nat):Nat:=if i=n then k else if i=k then n else i
def swL (rows:List (List Int)) (n k:Nat):List (List Int):=(List.range rows.length).map fun i=>rows.getD (swI n k i) default
def elF (rows:List (List Int)) (n c i:Nat):List Int:=if i ≠ n∧(c:Int) ∈ rows.getD i default then co (rows.getD i default) (rows.getD n default) else rows.getD i default
def elL (rows:List (List Int)) (n c:Nat):List (List Int):=(List.range rows.length).map (elF rows n c)
def stR (R:List (List Int)):Nat→List (List Int) × Nat
 | 0=>(R,0)
 | c + 1=>match Jq (stR R c).1 (stR R c).2 c with
  | none=>stR R c
  | some k=>(elL (swL (stR R c).1 (stR R c).2 k) (stR R c).2 c,(stR R c).2 + 1)
structure RdOk (R rows:List (List Int)) (n c:Nat):Prop where
 asc:∀ i,i < R.length→bw (rows.getD i default)
 len:rows.length=R.length
 nle:n ≤ R.length
 sp:∀ v,Sp rows v ↔ Sp R v
 top:∀ i,i < n→rows.getD i default ≠ []∧ld (rows.getD i default) < c
 own:∀ i,i < n→∀ j,j < R.length→ld (rows.getD i default) ∈ rows.getD j default→j=i
 ord:∀ i j,i < j→j < n→ld (rows.getD i default) < ld (rows.getD j default)
 low:∀ i,n ≤ i→i < R.length→∀ z ∈ rows.getD i default,(c:Int) ≤ z
theorem pR {n k i N:Nat} (hn:n < N) (hk:k < N) (hi:i < N):swI n k i < N:=by
 unfold swI; split
 ·exact hk
 ·split
  ·exact hn
  ·exact hi
theorem xc {n k i:Nat}:swI n k (swI n k i)=i:=by
 unfold swI;by_cases h1:i=n
 ·subst h1; rw [if_pos rfl]; by_cases h2:k=i
  ·rw [if_pos h2]; exact h2
  ·rw [if_neg h2,if_pos rfl]
 ·rw [if_neg h1];by_cases h2:i=k
  ·rw [if_pos h2,if_pos rfl]; exact h2.symm
  ·rw [if_neg h2,if_neg h1,if_neg h2]
theorem F8 {rows:List (List Int)} {N:Nat} (hl:rows.length=N) (h:∀ i,i < N→bw (rows.getD i default)):∀ r ∈ rows,bw r:=fun r hr=>by
 obtain ⟨i,hi,e⟩:=pk hr;rw [← e]; exact h i (by omega)
theorem GD {rows:List (List Int)} {n k:Nat} (hn:n < rows.length) (hk:k < rows.length) (v:List Int):Sp (swL rows n k) v ↔ Sp rows v:=by
 constructor
 ·refine kg fun r hr=>?_;obtain ⟨i,hi,rfl⟩:=bP.1 hr;exact aE (pR hn hk (ew.1 hi))
 ·refine kg fun r hr=>?_;obtain ⟨i,hi,rfl⟩:=pk hr;refine bP.2 ⟨swI n k i,ew.2 (pR hn hk hi),?_⟩;rw [xc]
theorem Hk {rows:List (List Int)} {n c:Nat} (ha:∀ i,i < rows.length→bw (rows.getD i default)) (hn:n < rows.length) (v:List Int):Sp (elL rows n c) v ↔ Sp rows v:=by
 have hE:∀ i,i < rows.length→bw (elF rows n c i):=fun i hi=>by
  unfold elF;split
  ·exact eI (ha i hi) (ha n hn)
  ·exact ha i hi
 have hEa:∀ r ∈ elL rows n c,bw r:=fun r hr=>by
  obtain ⟨i,hi,rfl⟩:=bP.1 hr;exact hE i (ew.1 hi)
 have hRa:=F8 rfl ha;have hin:∀ i,i < rows.length→elF rows n c i ∈ elL rows n c:=fun i hi=>bP.2 ⟨i,ew.2 hi,rfl⟩
 have hpn:Sp (elL rows n c) (rows.getD n default):=by
  have h:=fe (hin n hn);unfold elF at h
  rwa [if_neg (fun q=>q.1 rfl)] at h
 constructor
 ·refine lR hRa fun r hr=>?_;obtain ⟨i,hi,rfl⟩:=bP.1 hr;have hi:=ew.1 hi;unfold elF;split
  ·exact j0 hRa (fe (aE hi)) (fe (aE hn))
  ·exact fe (aE hi)
 ·refine lR hEa fun r hr=>?_;obtain ⟨i,hi,rfl⟩:=pk hr;have h:=fe (hin i hi);unfold elF at h;split at h
  ·have h2:=j0 hEa h hpn
   rwa [← eY (ha i hi) (ha n hn) (ha n hn),fH (ha n hn),ga] at h2
  ·exact h
theorem EK {R:List (List Int)} (hR:∀ r ∈ R,bw r) (hv:∀ r ∈ R,∀ z ∈ r,(0:Int) ≤ z):∀ {c:Nat},RdOk R (stR R c).1 (stR R c).2 c
 | 0=>⟨fun i hi=>hR _ (aE hi),rfl,cf _,fun _=>Iff.rfl,fun i h=>absurd h (Nat.not_lt_zero _),fun i h=>absurd h (Nat.not_lt_zero _),fun i j _ h=>absurd h (Nat.not_lt_zero _),fun i _ hi z hz=>hv _ (aE hi) z hz⟩
 | c + 1=>by
  have ih:=EK hR hv (c:=c);unfold stR;generalize e1:(stR R c).1=rows at *;generalize e2:(stR R c).2=n at *;obtain ⟨i1,i2,i3,i4,i5,i6,i7,i8⟩:=ih;cases hp:Jq rows n c with
  | none =>
   show RdOk R (stR R c).1 (stR R c).2 (c + 1);rw [e1,e2];refine ⟨i1,i2,i3,i4,fun i hi=>⟨(i5 i hi).1,by have:=(i5 i hi).2; omega⟩,i6,i7,fun i h1 h2 z hz=>?_⟩;have h3:=i8 i h1 h2 z hz;have h4:=List.find?_eq_none.1 hp i (ew.2 (by omega));have h5:z ≠ (c:Int):=fun e=>h4 (by rw [← e]; simp only [dS,gJ]; exact ⟨h1,hz⟩);omega
  | some k =>
   show RdOk R (elL (swL rows n k) n c) (n + 1) (c + 1);have k1:=ew.1 (List.mem_of_find?_eq_some hp)
   have k2:n ≤ k∧(c:Int) ∈ rows.getD k default:=by
    have:=List.find?_some hp;simpa only [dS,gJ] using this
   obtain ⟨k3,k4⟩:=k2;have hkN:k < R.length:=by omega
   have hnN:n < R.length:=by omega
   have sl:(swL rows n k).length=R.length:=by unfold swL; rw [bO,List.length_range,i2]
   have gs:∀ i,i < R.length→(swL rows n k).getD i default=rows.getD (swI n k i) default:=fun i hi=>vC (by omega)
   have gp:(swL rows n k).getD n default=rows.getD k default:=by
    rw [gs n hnN]; unfold swI; rw [if_pos rfl]
   have ge:∀ i,i < R.length→(elL (swL rows n k) n c).getD i default=elF (swL rows n k) n c i:=fun i hi=>vC (by omega)
   have gn:(elL (swL rows n k) n c).getD n default=rows.getD k default:=by
    rw [ge n hnN]; unfold elF; rw [if_neg (fun q=>q.1 rfl),gp]
   have gi:∀ i,i < R.length→i ≠ n→(elL (swL rows n k) n c).getD i default=if (c:Int) ∈ rows.getD (swI n k i) default then co (rows.getD (swI n k i) default) (rows.getD k default) else rows.getD (swI n k i) default:=fun i hi hn=>by
    rw [ge i hi]; unfold elF; rw [gs i hi,gp];by_cases h:(c:Int) ∈ rows.getD (swI n k i) default
    ·rw [if_pos ⟨hn,h⟩,if_pos h]
    ·rw [if_neg (fun q=>h q.2),if_neg h]
   have hpa:=i1 k hkN;have hpl:=i8 k k3 hkN;have hsa:∀ i,i < R.length→bw (rows.getD (swI n k i) default):=fun i hi=>i1 _ (pR hnN hkN hi);have hld:ld (rows.getD k default)=c:=Int.le_antisymm (m8 hpa k4) (hpl _ (de (fun e=>by rw [e] at k4; cases k4)));have hpne:rows.getD k default ≠ []:=fun e=>by rw [e] at k4; cases k4
   have hsw:∀ i,i < n→swI n k i=i:=fun i hi=>by unfold swI; rw [if_neg (by omega),if_neg (by omega)]
   have hnp:∀ i,i < n→ld (rows.getD i default) ∉ rows.getD k default:=fun i hi h=>by have:=i6 i hi k hkN h; omega
   have hsw2:∀ v,Sp (swL rows n k) v ↔ Sp rows v:=fun v=>GD (by omega) (by omega) v;have hda:∀ i,i < (swL rows n k).length→bw ((swL rows n k).getD i default):=fun i hi=>by rw [gs i (by omega)]; exact hsa i (by omega)
   have hmem:∀ j,j < R.length→j ≠ n→∀ z,z ∈ (elL (swL rows n k) n c).getD j default→z ∉ rows.getD k default→z ∈ rows.getD (swI n k j) default:=fun j hj hn z hz hzp=>by
    rw [gi j hj hn] at hz;split at hz
    ·rcases (dV (hsa j hj) hpa).1 hz with q | q
     ·exact q.1
     ·exact absurd q.1 hzp
    ·exact hz
   have hlow:∀ j,j < R.length→j ≠ n→(c:Int) ∉ (elL (swL rows n k) n c).getD j default:=fun j hj hn hz=>by
    rw [gi j hj hn] at hz;split at hz
    ·rename_i h;rcases (dV (hsa j hj) hpa).1 hz with q | q
     ·exact q.2 k4
     ·exact q.2 h
    ·rename_i h; exact h hz
   have htop:∀ i,i < n→ld ((elL (swL rows n k) n c).getD i default)=ld (rows.getD i default)∧(elL (swL rows n k) n c).getD i default ≠ []:=fun i hi=>by
    obtain ⟨t1,t2⟩:=i5 i hi;rw [gi i (by omega) (by omega),hsw i hi];split
    ·have hm:ld (rows.getD i default) ∈ co (rows.getD i default) (rows.getD k default):=(dV (i1 i (by omega)) hpa).2 (.inl ⟨de t1,hnp i hi⟩);have hne:co (rows.getD i default) (rows.getD k default) ≠ []:=fun e=>by rw [e] at hm; cases hm
     refine ⟨Int.le_antisymm (m8 (eI (i1 i (by omega)) hpa) hm) ?_,hne⟩;rcases (dV (i1 i (by omega)) hpa).1 (de hne) with q | q
     ·exact m8 (i1 i (by omega)) q.1
     ·have:=hpl _ q.1; omega
    ·exact ⟨rfl,t1⟩
   refine ⟨fun i hi=>?_,?_,by omega,fun v=>?_,fun i hi=>?_,fun i hi j hj h=>?_,fun i j hij hj=>?_,fun i h1 h2 z hz=>?_⟩
   ·rw [ge i hi]; unfold elF;split
    ·exact eI (hda i (by omega)) (hda n (by omega))
    ·exact hda i (by omega)
   ·unfold elL; rw [bO,List.length_range,sl]
   ·rw [Hk hda (by omega),hsw2,i4]
   ·by_cases hin:i=n
    ·subst hin; rw [gn,hld]; exact ⟨hpne,by omega⟩
    ·obtain ⟨t1,t2⟩:=htop i (by omega);rw [t1];have:=(i5 i (by omega)).2;exact ⟨t2,by omega⟩
   ·by_cases hin:i=n
    ·subst hin;rw [gn,hld] at h;exact Decidable.byContradiction fun hne=>hlow j hj hne h
    ·have hi':i < n:=by omega
     rw [(htop i hi').1] at h;by_cases hjn:j=n
     ·subst hjn; rw [gn] at h; exact absurd h (hnp i hi')
     ·have h3:=i6 i hi' _ (pR hnN hkN hj) (hmem j hj hjn _ h (hnp i hi'));have h4:=congrArg (swI n k) h3;rw [xc,hsw i hi'] at h4;exact h4
   ·by_cases hjn:j=n
    ·subst hjn;rw [gn,hld,(htop i hij).1];exact (i5 i hij).2
    ·rw [(htop i (by omega)).1,(htop j (by omega)).1];exact i7 i j hij (by omega)
   ·have hz2:z ≠ (c:Int):=fun e=>hlow i h2 (by omega) (e ▸ hz);have hs:n ≤ swI n k i:=by unfold swI; split <;> (try split) <;> omega
    rw [gi i h2 (by omega)] at hz
    have hz3:(c:Int) ≤ z:=by
     split at hz
     ·rcases (dV (hsa i h2) hpa).1 hz with q | q
      ·exact i8 _ hs (pR hnN hkN h2) z q.1
      ·exact hpl z q.1
     ·exact i8 _ hs (pR hnN hkN h2) z hz
    omega
def GF (R:List (List Int)) (c:Nat):List (List Int):=(stR R c).1.take (stR R c).2
theorem xt {R:List (List Int)} {c:Nat} (hR:∀ r ∈ R,bw r) (hv:∀ r ∈ R,∀ z ∈ r,0 ≤ z∧z < (c:Int)):GF R c=r8 R c:=by
 have h:=EK hR (fun r hr z hz=>(hv r hr z hz).1) (c:=c);obtain ⟨e1,e2,_⟩:=pK hR hv;unfold GF;generalize (stR R c).1=rows at *;generalize (stR R c).2=n at *;obtain ⟨i1,i2,i3,i4,i5,i6,i7,i8⟩:=h;have hlt:(rows.take n).length=n:=by rw [iO]; omega
 have hg:∀ i,i < n→(rows.take n).getD i default=rows.getD i default:=fun i hi=>by
  simp [List.getD,gw,hi]
 have hex:∀ r ∈ rows.take n,∃ i,i < n∧rows.getD i default=r:=fun r hr=>by
  obtain ⟨i,hi,e⟩:=pk hr;exact ⟨i,by omega,by rw [← e,hg i (by omega)]⟩
 have hsub:∀ r ∈ R,∀ z ∈ r,0 ≤ z∧z < (c:Int):=hv
 have hred:Red (rows.take n):=by
  refine ⟨fun r hr=>?_,fun r hr=>?_,fun r hr q hq hl=>?_,?_⟩
  ·obtain ⟨i,hi,rfl⟩:=hex r hr;exact i1 i (by omega)
  ·obtain ⟨i,hi,rfl⟩:=hex r hr;exact (i5 i hi).1
  ·obtain ⟨i,hi,rfl⟩:=hex r hr;obtain ⟨j,hj,rfl⟩:=hex q hq;rw [i6 i hi j (by omega) hl]
  ·rw [mQ];intro i j hi hj hij;have h1:=hg i (by omega);have h2:=hg j (by omega);simp only [List.getD,hi,hj,sf,vn] at h1 h2;rw [h1,h2];exact i7 i j hij (by omega)
 refine xD hred e1 fun v=>?_;rw [e2,← i4];constructor
 ·exact kg fun r hr=>jZ hr
 ·refine lR hred.asc fun r hr=>?_;obtain ⟨i,hi,e⟩:=pk hr;by_cases hin:i < n
  ·refine fe ?_;rw [← e,← hg i hin];exact aE (by omega)
  ·have hnil:r=[]:=by
     cases hr0:r with
     | nil=>rfl
     | cons z l =>
      have hz:z ∈ rows.getD i default:=by rw [e,hr0]; exact di ..
      have h1:=i8 i (by omega) (by omega) z hz;have h2:=oH hR hv ((i4 r).1 (fe hr)) z (by rw [hr0]; exact di ..);omega
   rw [hnil]; exact Sp.nil
theorem uG {M:List Ln} {v:List Int} (hM:RedU M) (hv:Sp (M.map Prod.fst) v) (h:∀ l ∈ M,ld l.1 ∉ v):v=[]:=by
 have hn:(M.map Prod.fst).Nodup:=List.pairwise_map.2 (List.Pairwise.imp_of_mem (fun {a b} ha hb hab e=>hab (hM.own b hb a ha (by rw [e]; exact de (hM.ne b hb)))) hM.nodup);obtain ⟨av,p,hp⟩:=vE (fu hM) hn hv
 have hpf:∀ r ∈ M.map Prod.fst,¬ p r=true:=fun r hr hpr=>by
  obtain ⟨l,hl,rfl⟩:=bP.1 hr;have h1:=hp (ld l.1)
  rw [r6 hn hr (de (hM.ne l hl)) (fun q hq hz=>by
   obtain ⟨m,hm,rfl⟩:=bP.1 hq;rw [hM.own l hl m hm hz]),if_pos hpr] at h1
  exact h l hl (dP.1 (by omega))
 exact vb fun z=>by rw [hp z,ms fun q hq hpq=>absurd hpq (hpf q hq)]
def vR (R:List (List Int)) (z j:Int):Nat:=bit z (R.getD j.toNat default)
theorem t7 {f:Ln→List Int} {z:Int} {p:Ln→Bool}:∀ {E:List Ln},(∀ l ∈ E,z ∉ f l)→jO f z p E=0
 | [],_=>rfl
 | r :: E,h=>by
  unfold jO;have hb:bit z (f r)=0:=by unfold bit; rw [if_neg (h r (di ..))]
  rw [hb,t7 fun l hl=>h l (d6 _ hl)];split <;> rfl
theorem wj {R:List (List Int)} (hR:∀ r ∈ R,bw r) {i:Nat} (hi:i ≤ R.length):∀ {w:List Int},(∀ j ∈ w,0 ≤ j∧j < (i:Int))→∃ v,Sp (R.take i) v∧∀ z,bit z v=bL (vR R z) w % 2
 | [],_=>⟨[],Sp.nil,fun z=>kf⟩
 | j :: w,h=>by
  obtain ⟨v,h1,h2⟩:=wj hR hi (w:=w) fun k hk=>h k (d6 _ hk);have hj:=h j (di ..);have hT:∀ r ∈ R.take i,bw r:=fun r hr=>hR r (jZ hr)
  have hm:R.getD j.toNat default ∈ R.take i:=by
   have hk:j.toNat < (R.take i).length:=by rw [iO]; omega
   have:=aE hk
   rwa [show (R.take i).getD j.toNat default=R.getD j.toNat default by simp [List.getD,gw,show j.toNat < i by omega]] at this
  refine ⟨_,Sp.add h1 hm,fun z=>?_⟩;rw [dN (lL hT h1) (hT _ hm),h2];show _=(bit z (R.getD j.toNat default) + bL (vR R z) w) % 2;omega
theorem xn {R:List (List Int)} (hR:∀ r ∈ R,bw r):∀ {i:Nat},i ≤ R.length→∀ {y:List Int},bw y→(∀ j ∈ y,0 ≤ j∧j < (i:Int))→(∀ z,bL (vR R z) y % 2=0)→Sp (stE R i).2 y
 | 0,_,y,_,hr,_=>by
  cases y with
  | nil=>exact Sp.nil
  | cons j l=>have:=hr j (di ..); omega
 | i + 1,hi,y,hy,hr,h0=>by
  have ih:=fun {y}=>xn hR (i:=i) (by omega) (y:=y);have hs:=fZ hR (i:=i) (by omega);have hx:cq (R.getD i default,[(i:Int)]):=⟨hR _ (aE (by omega)),List.pairwise_singleton ..⟩
  have hya:cq (eP (stE R i).1 (R.getD i default,[(i:Int)])):=ig hs.red.asc hx;have hyn:=fun l hl=>ml hs.red hx (l:=l) hl;have hysp:Sp ((stE R i).1.map Prod.fst) (co (R.getD i default) (eP (stE R i).1 (R.getD i default,[(i:Int)])).1):=ws (fu hs.red) (fun l hl=>⟨hs.red.asc l hl,bP.2 ⟨l,hl,rfl⟩⟩) hx
  have hxo:kM R (i + 1) (R.getD i default,[(i:Int)]):=⟨fun z=>by
   have:=gq (z:=z) (a:=R.getD i default);show bit z (R.getD i default)=(bit z (R.getD ((i:Nat):Int).toNat default) + 0) % 2;rw [cQ]; omega,fun j hj=>by rw [dL.1 hj]; omega⟩
  have hyo:kM R (i + 1) (eP (stE R i).1 (R.getD i default,[(i:Int)])):=q9 (fun l hl=>⟨hs.red.asc l hl,(hs.ok l hl).mono (by omega)⟩) hx hxo
  have hbi:bit (i:Int) (eP (stE R i).1 (R.getD i default,[(i:Int)])).2=1:=by
   unfold eP;rw [kW hs.red.asc hx,t7 fun l hl h=>by have:=(hs.ok l hl).2 _ h; omega];show (bit (i:Int) [(i:Int)] + 0) % 2=1;rw [dP.2 (dL.2 rfl)]
  have ha:∀ r ∈ (stE R i).2,bw r:=fun r hr=>(hs.dep r hr).1.2;by_cases hiy:(i:Int) ∈ y
  ·have hone:bw [(i:Int)]:=List.pairwise_singleton ..;by_cases hd:(eP (stE R i).1 (R.getD i default,[(i:Int)])).1=[]
   ·have hst:(stE R (i + 1)).2=(stE R i).2 ++ [(eP (stE R i).1 (R.getD i default,[(i:Int)])).2]:=by
      show (if _ then _ else _:List Ln × List (List Int)).2=_;rw [if_pos hd]
    rw [hst];obtain ⟨hy1,hy2⟩:=hyo;rw [hd] at hy1;have hxa:=hya.2;generalize (eP (stE R i).1 (R.getD i default,[(i:Int)])).2=x at *
    have h1:Sp (stE R i).2 (co y x):=ih (eI hy hxa) (fun j hj=>by
     have hne:j ≠ (i:Int):=fun e=>by
      rw [e] at hj;have hb:=dP.2 hj;rw [dN hy hxa,hbi,dP.2 hiy] at hb;cases hb
     rcases (dV hy hxa).1 hj with q | q
     ·have:=hr j q.1; omega
     ·have:=hy2 j q.1; omega) (fun z=>by
     rw [gG _ _ _ (aP _)];have e1:=h0 z;have e2:bit z []=bL (vR R z) x % 2:=hy1 z;rw [kf] at e2;omega)
    have hm:x ∈ (stE R i).2 ++ [x]:=pq _ (dL.2 rfl);have h2:=Sp.add (kg (fun r hr=>nG [x] hr) h1) hm
    rwa [← eY hy hxa hxa,fH hxa,ga] at h2
   ·exfalso;refine hd (uG hs.red ?_ hyn)
    have hw:∀ j ∈ co y [(i:Int)],0 ≤ j∧j < (i:Int):=fun j hj=>by
     rcases (dV hy hone).1 hj with q | q
     ·have h1:=hr j q.1;have h2:j ≠ (i:Int):=fun e=>q.2 (dL.2 e);omega
     ·exact absurd (dL.1 q.1 ▸ hiy) q.2
    obtain ⟨v,v1,v2⟩:=wj hR (i:=i) (by omega) hw;have hT:∀ r ∈ R.take i,bw r:=fun r hr=>hR r (jZ hr)
    have hv:v=R.getD i default:=iW (lL hT v1) hx.1 fun z=>by
     rw [v2,gG _ _ _ (aP _)];have e1:=h0 z;have e2:=gq (z:=z) (a:=R.getD i default);show (bL (vR R z) y + (bit z (R.getD ((i:Nat):Int).toNat default) + 0)) % 2=_;rw [cQ];omega
    rw [hv] at v1;have h3:=lR (fu hs.red) hs.all v1;have h4:=j0 (fu hs.red) h3 hysp
    rwa [eY hx.1 hx.1 hya.1,fH hx.1,kd] at h4
  ·refine kg (fun r hr=>?_) (ih hy (fun j hj=>by
     have h1:=hr j hj;have h2:j ≠ (i:Int):=fun e=>hiy (e ▸ hj);omega) h0)
   show r ∈ (if _ then _ else _:List Ln × List (List Int)).2;split
   ·exact nG _ hr
   ·exact hr
def ll (b y:List Int):Bool:=decide (bL (fun j=>bit j b) y % 2=1)
def wdR (R:List (List Int)) (c:Nat) (b:List Int) (i:Nat):List Int:=if (i:Int) ∈ b then R.getD i default ++ [(c:Int)] else R.getD i default
def kC (R:List (List Int)) (c:Nat) (b:List Int):List (List Int):=(List.range R.length).map (wdR R c b)
def wdL (c:Nat) (b:List Int) (l:Ln):List Int:=if ll b l.2=true then l.1 ++ [(c:Int)] else l.1
theorem AF {a:List Int} {c:Nat} {t:Bool} (hc:∀ z ∈ a,z < (c:Int)) (z:Int):bit z (if t=true then a ++ [(c:Int)] else a)=if z=c then (if t=true then 1 else 0) else bit z a:=by
 unfold bit;by_cases hz:z=c
 ·have:z ∉ a:=fun h=>by have:=hc z h; omega
  cases t <;> simp [hz,this]
  ·exact fun h=>by have:=hc _ h; omega
 ·cases t <;> simp [hz]
theorem AD {a:List Int} {c:Nat} {t:Bool} (ha:bw a) (hc:∀ z ∈ a,z < (c:Int)):bw (if t=true then a ++ [(c:Int)] else a):=by
 cases t
 ·simpa using ha
 ·rw [if_pos rfl];exact List.pairwise_append.2 ⟨ha,List.pairwise_singleton ..,fun x hx y hy=>by rw [dL.1 hy]; exact hc x hx⟩
theorem jX {g h:Int→Nat}:∀ {l:List Int},(∀ x ∈ l,g x=h x)→bL g l=bL h l
 | [],_=>rfl
 | x :: l,e=>by
  unfold bL;rw [e x (di ..),jX fun y hy=>e y (d6 _ hy)]
theorem Bd {g:Int→Nat} {D:List (List Int)} {y:List Int} (h:Sp D y) (h0:∀ d ∈ D,bL g d % 2=0):bL g y % 2=0:=by
 induction h with
 | nil=>rfl
 | add h1 h2 ih=>rw [gG _ _ _ (aP _)]; have:=h0 _ h2; omega
theorem yC {g:Int→Nat} {p:Ln→Bool}:∀ {M:List Ln} {x:Ln},bL g (rdL M p x).2 % 2=(bL g x.2 + (M.map fun l=>if p l=true then bL g l.2 % 2 else 0).sum) % 2
 | [],x=>by show bL g x.2 % 2=(bL g x.2 + 0) % 2; rfl
 | l :: M,x=>by
  have ih:=yC (g:=g) (p:=p) (M:=M) (x:=if p l=true then dU x l else x);show bL g (rdL M p (if p l=true then dU x l else x)).2 % 2=(bL g x.2 + ((if p l=true then bL g l.2 % 2 else 0) + (M.map fun l=>if p l=true then bL g l.2 % 2 else 0).sum)) % 2;rw [ih];clear ih;by_cases h:p l=true
  ·rw [if_pos h,if_pos h];have:=gG (g:=g) _ x.2 l.2 (aP _);show (bL g (co x.2 l.2) + _) % 2=_;omega
  ·rw [if_neg h,if_neg h];omega
theorem AQ {f:Ln→List Int} {p:Ln→Bool} {S:List (List Int)} (hS:∀ r ∈ S,bw r):∀ {E:List Ln},(∀ l ∈ E,f l ∈ S)→∃ v,Sp S v∧∀ z,bit z v=(E.map fun l=>if p l=true then bit z (f l) else 0).sum % 2
 | [],_=>⟨[],Sp.nil,fun z=>kf⟩
 | l :: E,h=>by
  obtain ⟨v,v1,v2⟩:=AQ (f:=f) (p:=p) hS (E:=E) fun m hm=>h m (d6 _ hm);have hl:=h l (di ..);by_cases hp:p l=true
  ·refine ⟨_,Sp.add v1 hl,fun z=>?_⟩;rw [dN (lL hS v1) (hS _ hl),v2];show _=((if p l=true then bit z (f l) else 0) + (E.map fun l=>if p l=true then bit z (f l) else 0).sum) % 2;rw [if_pos hp];omega
  ·refine ⟨v,v1,fun z=>?_⟩;rw [v2];show _=((if p l=true then bit z (f l) else 0) + (E.map fun l=>if p l=true then bit z (f l) else 0).sum) % 2;rw [if_neg hp,cb]
theorem wY {f:Ln→List Int} {z:Int} {p:Ln→Bool}:∀ {E:List Ln},(E.map fun l=>if p l=true then bit z (f l) else 0).sum=jO f z p E
 | []=>rfl
 | l :: E=>by
  show (if p l=true then bit z (f l) else 0) + (E.map fun l=>if p l=true then bit z (f l) else 0).sum=_;rw [wY]; rfl
theorem yi {R:List (List Int)} {c:Nat} {b:List Int} {i:Nat} (h:i < R.length):(kC R c b).getD i default=wdR R c b i:=vC h
theorem ny {R:List (List Int)} {c:Nat} {b:List Int} (hR:∀ r ∈ R,bw r) (hv:∀ r ∈ R,∀ z ∈ r,0 ≤ z∧z < (c:Int)) :
    (∀ r ∈ kC R c b,bw r)∧(∀ r ∈ kC R c b,∀ z ∈ r,0 ≤ z∧z < ((c + 1:Nat):Int))∧∀ i,i < R.length→∀ z,bit z ((kC R c b).getD i default)=if z=c then bit (i:Int) b else bit z (R.getD i default):=by
 have hw:∀ i,wdR R c b i=if decide ((i:Int) ∈ b)=true then R.getD i default ++ [(c:Int)] else R.getD i default:=fun i=>by
  unfold wdR; by_cases h:(i:Int) ∈ b <;> simp [h]
 refine ⟨fun r hr=>?_,fun r hr z hz=>?_,fun i hi z=>?_⟩
 ·obtain ⟨i,hi,rfl⟩:=bP.1 hr;have hi:=ew.1 hi;rw [hw];exact AD (hR _ (aE hi)) fun z hz=>(hv _ (aE hi) z hz).2
 ·obtain ⟨i,hi,rfl⟩:=bP.1 hr;have hi:=ew.1 hi;have hvi:=hv _ (aE hi);unfold wdR at hz;split at hz
  ·rcases fp.1 hz with h | h
   ·have:=hvi z h; omega
   ·rw [dL.1 h]; omega
  ·have:=hvi z hz; omega
 ·rw [yi hi,hw,AF (fun z hz=>(hv _ (aE hi) z hz).2)];by_cases h:z=c
  ·rw [if_pos h,if_pos h];by_cases hb:(i:Int) ∈ b <;> simp [hb,bit]
  ·rw [if_neg h,if_neg h]
theorem Cu {R:List (List Int)} {c:Nat} {b:List Int} (hR:∀ r ∈ R,bw r) (hv:∀ r ∈ R,∀ z ∈ r,0 ≤ z∧z < (c:Int)) {y:List Int} (hy:∀ j ∈ y,0 ≤ j∧j < (R.length:Int)) (z:Int) :
    bL (vR (kC R c b) z) y=if z=c then bL (fun j=>bit j b) y else bL (vR R z) y:=by
 obtain ⟨_,_,h3⟩:=ny (b:=b) hR hv;by_cases h:z=c
 ·rw [if_pos h];refine jX fun j hj=>?_;have:=hy j hj;unfold vR;rw [h3 j.toNat (by omega),if_pos h,show ((j.toNat:Nat):Int)=j by omega]
 ·rw [if_neg h];refine jX fun j hj=>?_;have:=hy j hj;unfold vR;rw [h3 j.toNat (by omega),if_neg h]
theorem BQ {R:List (List Int)} {c:Nat} {b:List Int} (hR:∀ r ∈ R,bw r) (hv:∀ r ∈ R,∀ z ∈ r,0 ≤ z∧z < (c:Int)) (h0:∀ y ∈ (stE R R.length).2,ll b y=false):GF (kC R c b) (c + 1)=(gY R c).map (wdL c b):=by
 obtain ⟨h1,h2,h3⟩:=ny (b:=b) hR hv;have hs:=fZ hR (aP R.length);obtain ⟨e1,e2,_⟩:=pK h1 h2;obtain ⟨d1,d2,d3⟩:=pK hR hv;rw [xt h1 h2];have hl:(kC R c b).length=R.length:=by unfold kC; simp
 have hlv:∀ l ∈ (stE R R.length).1,∀ z ∈ l.1,0 ≤ z∧z < (c:Int):=fun l hl=>oH hR hv (kg (fun r hr=>jZ hr) (hs.inS l hl))
 have hbw:∀ l ∈ (stE R R.length).1,∀ z,bit z (wdL c b l)=if z=c then bL (fun j=>bit j b) l.2 % 2 else bit z l.1:=fun l hl z=>by
  unfold wdL;rw [AF fun z hz=>(hlv l hl z hz).2];by_cases h:z=c
  ·rw [if_pos h,if_pos h];unfold ll;by_cases ho:bL (fun j=>bit j b) l.2 % 2=1
   ·simp [ho]
   ·simp [ho]; omega
  ·rw [if_neg h,if_neg h]
 have hwa:∀ l ∈ (stE R R.length).1,bw (wdL c b l):=fun l hl=>AD (hs.red.asc l hl).1 fun z hz=>(hlv l hl z hz).2
 have hldw:∀ l ∈ (stE R R.length).1,ld (wdL c b l)=ld l.1:=fun l hl=>by
  have hne:=hs.red.ne l hl;unfold wdL;split
  ·cases hq:l.1 with
   | nil=>exact absurd hq hne
   | cons x t=>rfl
  ·rfl
 have hF:Red ((gY R c).map (wdL c b)):=by
  refine ⟨fun r hr=>?_,fun r hr=>?_,fun r hr q hq h=>?_,?_⟩
  ·obtain ⟨l,hl,rfl⟩:=bP.1 hr;exact hwa l ((d3 l).1 hl)
  ·obtain ⟨l,hl,rfl⟩:=bP.1 hr;have hne:=hs.red.ne l ((d3 l).1 hl);unfold wdL;split
   ·simp
   ·exact hne
  ·obtain ⟨l,hl,rfl⟩:=bP.1 hr;obtain ⟨m,hm,rfl⟩:=bP.1 hq;have hl:=(d3 l).1 hl;have hm:=(d3 m).1 hm;rw [hldw l hl] at h;have h4:=dP.2 h;have h5:=hlv l hl _ (de (hs.red.ne l hl));rw [hbw m hm,if_neg (by omega)] at h4;rw [hs.red.own l hl m hm (dP.1 h4)]
  ·rw [List.pairwise_map];refine List.Pairwise.imp_of_mem (fun {x y} hx hy h=>?_) (nT hs.red (c:=c));rw [hldw x ((d3 x).1 hx),hldw y ((d3 y).1 hy)];exact h
 refine xD e1 hF fun v=>?_;rw [e2];have hTk:∀ r ∈ (kC R c b).take R.length,bw r:=fun r hr=>h1 r (jZ hr);constructor
 ·refine lR hF.asc fun r hr=>?_;obtain ⟨i,hi,e⟩:=pk hr;have hiR:i < R.length:=by omega
  have hx:cq (R.getD i default,[(i:Int)]):=⟨hR _ (aE hiR),List.pairwise_singleton ..⟩
  have hxo:kM R R.length (R.getD i default,[(i:Int)]):=⟨fun z=>by
   have:=gq (z:=z) (a:=R.getD i default);show bit z (R.getD i default)=(bit z (R.getD ((i:Nat):Int).toNat default) + 0) % 2;rw [cQ]; omega,fun j hj=>by rw [dL.1 hj]; omega⟩
  have hya:=ig (p:=eD (R.getD i default,[(i:Int)])) hs.red.asc hx;have hyo:=q9 (p:=eD (R.getD i default,[(i:Int)])) (fun l hl=>⟨hs.red.asc l hl,hs.ok l hl⟩) hx hxo;have hysp:=ws (p:=eD (R.getD i default,[(i:Int)])) (fu hs.red) (fun l hl=>⟨hs.red.asc l hl,bP.2 ⟨l,hl,rfl⟩⟩) hx;have hyn:=fun l hl=>ml hs.red hx (l:=l) hl;have hb1:=fun z=>jA (p:=eD (R.getD i default,[(i:Int)])) (z:=z) hs.red.asc hx;have hg:=yC (g:=fun j=>bit j b) (p:=eD (R.getD i default,[(i:Int)])) (M:=(stE R R.length).1) (x:=(R.getD i default,[(i:Int)]));unfold eP at hyn;generalize hpp:eD (R.getD i default,[(i:Int)])=p at *;have hRi:Sp ((stE R R.length).1.map Prod.fst) (R.getD i default):=hs.all _ (by rw [List.take_length]; exact aE hiR)
  have hnil:(rdL (stE R R.length).1 p (R.getD i default,[(i:Int)])).1=[]:=by
   refine uG hs.red ?_ hyn;have h4:=j0 (fu hs.red) hRi hysp
   rwa [eY hx.1 hx.1 hya.1,fH hx.1,kd] at h4
  obtain ⟨q1,q2⟩:=hyo;rw [hnil] at q1
  have hdep:=xn hR (aP R.length) hya.2 q2 fun z=>by
   have:=q1 z;rw [kf] at this;exact this.symm
  have hev:=Bd (g:=fun j=>bit j b) hdep fun d hd=>by
   have:=h0 d hd;unfold ll at this;have:=of_decide_eq_false this;omega
  obtain ⟨u,u1,u2⟩:=AQ (f:=wdL c b) (p:=p) hF.asc (E:=(stE R R.length).1) fun l hl=>bP.2 ⟨l,(d3 l).2 hl,rfl⟩
  have hur:u=r:=by
   refine iW (lL hF.asc u1) (h1 r hr) fun z=>?_;rw [← e,h3 i hiR,u2];by_cases h:z=c
   ·rw [if_pos h,h]
    have hm:((stE R R.length).1.map fun l=>if p l=true then bit (c:Int) (wdL c b l) else 0)=(stE R R.length).1.map fun l=>if p l=true then bL (fun j=>bit j b) l.2 % 2 else 0 :=
     pW fun l hl=>by rw [hbw l hl,if_pos rfl]
    rw [hm];rw [hev] at hg;have hone:bL (fun j=>bit j b) [(i:Int)]=bit (i:Int) b + 0:=rfl;have hlt:=gq (z:=(i:Int)) (a:=b);change 0=(bL (fun j=>bit j b) [(i:Int)] + _) % 2 at hg;rw [hone] at hg;omega
   ·rw [if_neg h]
    have hm:((stE R R.length).1.map fun l=>if p l=true then bit z (wdL c b l) else 0)=(stE R R.length).1.map fun l=>if p l=true then bit z l.1 else 0 :=
     pW fun l hl=>by rw [hbw l hl,if_neg h]
    rw [hm,wY (f:=Prod.fst)];have h5:=hb1 z;rw [hnil,kf] at h5;have hlt:=gq (z:=z) (a:=R.getD i default);change 0=(bit z (R.getD i default) + _) % 2 at h5;omega
  rw [← hur]; exact u1
 ·refine lR h1 fun r hr=>?_;obtain ⟨l,hl,rfl⟩:=bP.1 hr;have hl:=(d3 l).1 hl;obtain ⟨k1,k2⟩:=hs.ok l hl;obtain ⟨v,v1,v2⟩:=wj h1 (i:=R.length) (by omega) k2
  have:v=wdL c b l:=iW (lL hTk v1) (hwa l hl) fun z=>by
   rw [v2,Cu hR hv k2,hbw l hl];by_cases h:z=c
   ·rw [if_pos h,if_pos h]
   ·rw [if_neg h,if_neg h];exact (k1 z).symm
  rw [← this];exact kg (fun r hr=>jZ hr) v1
section
variable {α:Type} {K:α→α→Int}
def u5 (K:α→α→Int):Nat→List α→List α→List α
 | 0,_,_=>[]
 | _ + 1,[],b=>b
 | _ + 1,x :: a,[]=>x :: a
 | n + 1,x :: a,y :: b=>if K x y < 0 then x :: u5 K n a (y :: b) else if K y x < 0 then y :: u5 K n (x :: a) b else u5 K n a b
def iB (K:α→α→Int) (a b:List α):List α:=u5 K (a.length + b.length + 1) a b
theorem mr:∀ (n m:Nat) (a b:List α),a.length + b.length < n→a.length + b.length < m→u5 K n a b=u5 K m a b
 | 0,_,_,_,h,_=>absurd h (by omega)
 | _ + 1,0,_,_,_,h=>absurd h (by omega)
 | _ + 1,_ + 1,[],b,_,_=>rfl
 | _ + 1,_ + 1,x :: a,[],_,_=>rfl
 | n + 1,m + 1,x :: a,y :: b,h1,h2=>by
  simp only [bN] at h1 h2;simp only [u5];rw [mr n m a (y :: b) (by simp only [bN]; omega) (by simp only [bN]; omega),mr n m (x :: a) b (by simp only [bN]; omega) (by simp only [bN]; omega),mr n m a b (by omega) (by omega)]
theorem y5 {b:List α}:iB K [] b=b:=rfl
theorem zu {a:List α}:iB K a []=a:=by cases a <;> rfl
theorem Ah {x y:α} {a b:List α}:iB K (x :: a) (y :: b)=if K x y < 0 then x :: iB K a (y :: b) else if K y x < 0 then y :: iB K (x :: a) b else iB K a b:=by
 show u5 K (a.length + 1 + (b.length + 1) + 1) (x :: a) (y :: b)=_;simp only [u5];unfold iB;rw [mr (a.length + 1 + (b.length + 1)) (a.length + (y :: b).length + 1) a (y :: b) (by simp only [bN]; omega) (by simp only [bN]; omega),mr (a.length + 1 + (b.length + 1)) ((x :: a).length + b.length + 1) (x :: a) b (by simp only [bN]; omega) (by simp only [bN]; omega),mr (a.length + 1 + (b.length + 1)) (a.length + b.length + 1) a b (by omega) (by omega)]
theorem nU:∀ (n:Nat) (a b:List α),a.length + b.length ≤ n→(iB K a b).length ≤ a.length + b.length
 | _,[],b,_=>by rw [y5]; simp
 | _,x :: a,[],_=>by rw [zu]; simp
 | 0,x :: a,y :: b,h=>by simp only [bN] at h; omega
 | n + 1,x :: a,y :: b,h=>by
  simp only [bN] at h ⊢;rw [Ah];have h1:=nU n a (y :: b) (by simp only [bN]; omega);have h2:=nU n (x :: a) b (by simp only [bN]; omega);have h3:=nU n a b (by omega);simp only [bN] at h1 h2;split
  ·simp only [bN]; omega
  split
  ·simp only [bN]; omega
  ·omega
theorem lH (hK:LinK K):∀ (n:Nat) (a b:List α),a.length + b.length ≤ n→bQ K a→bQ K b→bQ K (iB K a b)∧∀ z,z ∈ iB K a b ↔ (z ∈ a∧z ∉ b) ∨ (z ∈ b∧z ∉ a)
 | _,[],b,_,_,hb=>by rw [y5]; exact ⟨hb,fun z=>by simp⟩
 | _,x :: a,[],_,ha,_=>by rw [zu]; exact ⟨ha,fun z=>by simp⟩
 | 0,x :: a,y :: b,h,_,_=>by simp only [bN] at h; omega
 | n + 1,x :: a,y :: b,h,ha,hb=>by
  simp only [bN] at h;obtain ⟨a1,a2⟩:=gS.1 ha;obtain ⟨b1,b2⟩:=gS.1 hb;have irr:=fun v=>hK.ord.irr v;rw [Ah];by_cases g1:K x y < 0
  ·rw [if_pos g1];obtain ⟨h1,h2⟩:=lH hK n a (y :: b) (by simp only [bN]; omega) a2 hb
   have hxb:∀ z ∈ y :: b,K x z < 0:=fun z hz=>by
    rcases dw.1 hz with rfl | hz
    ·exact g1
    ·exact hK.trans g1 (b1 z hz)
   refine ⟨gS.2 ⟨fun z hz=>?_,h1⟩,fun z=>?_⟩
   ·rcases (h2 z).1 hz with ⟨q,_⟩ | ⟨q,_⟩
    ·exact a1 z q
    ·exact hxb z q
   ·rw [dw,h2,dw (a:=z) (b:=x)];by_cases hz:z=x
    ·subst hz;have:z ∉ y :: b:=fun q=>irr _ (hxb z q);simp [this]
    ·simp [hz]
  rw [if_neg g1];by_cases g2:K y x < 0
  ·rw [if_pos g2];obtain ⟨h1,h2⟩:=lH hK n (x :: a) b (by simp only [bN]; omega) ha b2
   have hya:∀ z ∈ x :: a,K y z < 0:=fun z hz=>by
    rcases dw.1 hz with rfl | hz
    ·exact g2
    ·exact hK.trans g2 (a1 z hz)
   refine ⟨gS.2 ⟨fun z hz=>?_,h1⟩,fun z=>?_⟩
   ·rcases (h2 z).1 hz with ⟨q,_⟩ | ⟨q,_⟩
    ·exact hya z q
    ·exact b1 z q
   ·rw [dw,h2,dw (a:=z) (b:=y)];by_cases hz:z=y
    ·subst hz;have:z ∉ x :: a:=fun q=>irr _ (hya z q);simp [this]
    ·simp [hz]
  rw [if_neg g2]
  obtain rfl:x=y:=by
   rcases hK.tri x y with q | q | q
   ·exact absurd q g1
   ·exact q
   ·exact absurd q g2
  obtain ⟨h1,h2⟩:=lH hK n a b (by omega) a2 b2;refine ⟨h1,fun z=>?_⟩;rw [h2];by_cases hz:z=x
  ·subst hz;have q1:z ∉ a:=fun q=>irr _ (a1 z q);have q2:z ∉ b:=fun q=>irr _ (b1 z q);simp [q1,q2]
  ·simp [hz]
theorem oI (hK:LinK K) (h:α→Nat):∀ (n:Nat) (a b:List α),a.length + b.length ≤ n→((iB K a b).map h).sum % 2=((a.map h).sum + (b.map h).sum) % 2
 | _,[],b,_=>by rw [y5]; simp
 | _,x :: a,[],_=>by rw [zu]; simp
 | 0,x :: a,y :: b,hl=>by simp only [bN] at hl; omega
 | n + 1,x :: a,y :: b,hl=>by
  simp only [bN] at hl;rw [Ah];by_cases g1:K x y < 0
  ·rw [if_pos g1,dR,List.sum_cons];have:=oI hK h n a (y :: b) (by simp only [bN]; omega);simp only [dR,List.sum_cons] at this ⊢;omega
  rw [if_neg g1];by_cases g2:K y x < 0
  ·rw [if_pos g2,dR,List.sum_cons];have:=oI hK h n (x :: a) b (by simp only [bN]; omega);simp only [dR,List.sum_cons] at this ⊢;omega
  rw [if_neg g2]
  obtain rfl:x=y:=by
   rcases hK.tri x y with q | q | q
   ·exact absurd q g1
   ·exact q
   ·exact absurd q g2
  have:=oI hK h n a b (by omega);simp only [dR,List.sum_cons] at this ⊢;omega
theorem FA (hK:LinK K) {a b:List α} (ha:bQ K a) (hb:bQ K b):bQ K (iB K a b):=(lH hK _ a b (aP _) ha hb).1
theorem Fe (hK:LinK K) {a b:List α} (ha:bQ K a) (hb:bQ K b) {z:α}:z ∈ iB K a b ↔ (z ∈ a∧z ∉ b) ∨ (z ∈ b∧z ∉ a):=(lH hK _ a b (aP _) ha hb).2 z
theorem Ay {a b:List α}:(iB K a b).length ≤ a.length + b.length:=nU _ a b (aP _)
end
def bo (s:Spx):List Spx:=if s.length < 2 then [] else cC s (s.length - 1)
def ju (a:List Spx) (o:List Spx):List Spx:=a.foldl (fun o s=>iB bG o (bo s)) o
def cp (a:List Spx):List Spx:=ju a []
theorem sN {s:Spx} (h:bQ ce s):bQ bG (bo s):=by
 unfold bo; split
 ·exact bQ.nil
 ·exact lA h
theorem gc {s f:Spx}:f ∈ bo s ↔ 2 ≤ s.length∧f.Sublist s∧f.length=s.length - 1:=by
 unfold bo; split
 ·exact ⟨fun h=>(by cases h),fun h=>absurd h.1 (by omega)⟩
 ·rw [eb]; exact ⟨fun h=>⟨by omega,h⟩,fun h=>h.2⟩
def kJ (a:List Spx) (f:Spx):Nat:=(a.map fun s=>(bo s).count f).sum
theorem px {s:Spx} {a:List Spx} {f:Spx}:kJ (s :: a) f=(bo s).count f + kJ a f:=by unfold kJ; rw [dR,List.sum_cons]
theorem BD {L:List Spx} (h:bQ bG L) (f:Spx):L.count f % 2=1 ↔ f ∈ L:=by
 by_cases hf:f ∈ L
 ·have h1:=List.count_pos_iff.2 hf;have h2:=List.nodup_iff_count.1 (h.nodup iM) f;exact ⟨fun _=>hf,fun _=>by omega⟩
 ·rw [Gc hf]; exact ⟨fun h=>absurd h (by decide),fun h=>absurd h hf⟩
theorem rL:∀ (a o:List Spx) (c:Spx→Nat),(∀ s ∈ a,bQ ce s)→bQ bG o→(∀ f,f ∈ o ↔ c f % 2=1)→bQ bG (ju a o)∧∀ f,f ∈ ju a o ↔ (c f + kJ a f) % 2=1
 | [],o,c,_,ho,hc=>⟨ho,fun f=>by show f ∈ o ↔ _; rw [hc]; rfl⟩
 | s :: a,o,c,hs,ho,hc=>by
  have hf:=sN (hs s di)
  obtain ⟨h1,h2⟩:=rL a (iB bG o (bo s)) (fun f=>c f + (bo s).count f) (fun t ht=>hs t (d6 _ ht)) (FA iM ho hf) fun f=>by
   rw [Fe iM ho hf,hc,← BD hf f];omega
  refine ⟨h1,fun f=>?_⟩;show f ∈ ju a (iB bG o (bo s)) ↔ _;rw [h2,px,n6]
theorem f0 {a:List Spx} (hs:∀ s ∈ a,bQ ce s):bQ bG (cp a)∧∀ f,f ∈ cp a ↔ kJ a f % 2=1:=by
 obtain ⟨h1,h2⟩:=rL a [] (fun _=>0) hs bQ.nil fun f=>⟨fun h=>(by cases h),fun h=>absurd h (by decide)⟩
 exact ⟨h1,fun f=>by rw [show cp a=ju a [] from rfl,h2,cb]⟩
theorem mA {a:List Spx} (hs:∀ s ∈ a,bQ ce s):bQ bG (cp a):=(f0 hs).1
theorem CD {a L:List Spx} (hs:∀ s ∈ a,bQ ce s) (hL:bQ bG L) (h:∀ f,f ∈ L ↔ kJ a f % 2=1):L=cp a:=mD iM hL (mA hs) fun f=>by rw [h,(f0 hs).2]
theorem iE {a:List Spx} (hs:∀ s ∈ a,bQ ce s) {f:Spx} (hf:f ∈ cp a):∃ s ∈ a,f ∈ bo s:=by
 have h:=((f0 hs).2 f).1 hf;have hp:0 < kJ a f:=by omega
 clear h hf hs
 induction a with
 | nil=>exact absurd hp (Nat.lt_irrefl 0)
 | cons s a ih =>
  rw [px] at hp;by_cases h:0 < (bo s).count f
  ·exact ⟨s,di,List.count_pos_iff.1 h⟩
  ·obtain ⟨t,h1,h2⟩:=ih (by omega);exact ⟨t,d6 _ h1,h2⟩
theorem y3 {a:List Spx} (hs:∀ s ∈ a,bQ ce s):∀ f ∈ cp a,bQ ce f:=fun f hf=>by
 obtain ⟨s,h1,h2⟩:=iE hs hf;exact (hs s h1).sublist (gc.1 h2).2.1
theorem tZ:∀ (a o:List Spx),(∀ s ∈ a,s.length ≤ 8)→(ju a o).length ≤ o.length + a.length * 70
 | [],o,_=>Nat.le_add_right _ _
 | s :: a,o,h=>by
  have h1:=tZ a (iB bG o (bo s)) fun t ht=>h t (d6 _ ht);have h2:=Ay (K:=bG) (a:=o) (b:=bo s)
  have h3:(bo s).length ≤ 70:=by
   unfold bo; split
   ·exact cf _
   ·exact vu (h s di)
  show (ju a (iB bG o (bo s))).length ≤ _;rw [bN]; omega
theorem uT {a:List Spx} (h:∀ s ∈ a,s.length ≤ 8):(cp a).length ≤ a.length * 70:=by
 have:=tZ a [] h;rw [fL,cb] at this;exact this
def fc0:Spx→List Spx
 | []=>[]
 | x :: s=>s :: (fc0 s).map (x :: ·)
theorem uP:∀ {s:Spx},cC s s.length=[s]
 | []=>rfl
 | x :: s=>by rw [bN,go,uP,sB (by omega)]; rfl
theorem oC:∀ {s:Spx},s ≠ []→(cC s (s.length - 1)).Perm (fc0 s)
 | [],h=>absurd rfl h
 | [x],_=>by show (cC [x] 0).Perm _; rw [nA]; exact List.Perm.refl _
 | x :: y :: s,_=>by
  show (cC (x :: y :: s) (s.length + 1)).Perm _;rw [go,show s.length + 1=(y :: s).length from rfl,uP];have ih:=oC (s:=y :: s) (by simp);show ((cC (y :: s) s.length).map (x :: ·) ++ [y :: s]).Perm ((y :: s) :: (fc0 (y :: s)).map (x :: ·));exact List.perm_append_comm.trans ((ih.map (x :: ·)).cons _)
theorem Ch {s g:Spx} (h:s ≠ []):(cC s (s.length - 1)).count g=(fc0 s).count g:=(oC h).count_eq g
theorem AR {α:Type} {f g:α→Nat}:∀ {l:List α},(l.map fun x=>f x + g x).sum=(l.map f).sum + (l.map g).sum
 | []=>rfl
 | x :: l=>by simp only [dR,List.sum_cons]; rw [AR]; omega
theorem lM {x:Vtx} {g:Spx}:∀ {L:List Spx},(L.map (x :: ·)).count (x :: g)=L.count g
 | []=>rfl
 | f :: L=>by
  rw [dR,List.count_cons,List.count_cons,lM]
  congr 1
  by_cases h:f=g
  ·subst h; simp
  ·simp [h]
theorem Bi {g:Spx}:∀ {L:List Spx},(L.map fun f=>if f=g then 1 else 0).sum=L.count g
 | []=>rfl
 | f :: L=>by
  rw [dR,List.sum_cons,Bi,List.count_cons,Nat.add_comm]
  congr 1
  by_cases h:f=g
  ·subst h; simp
  ·simp [h]
theorem dd0:∀ (s g:Spx),((fc0 s).map fun f=>(fc0 f).count g).sum % 2=0
 | [],_=>rfl
 | x :: s,g=>by
  show (((s :: (fc0 s).map (x :: ·)).map fun f=>(fc0 f).count g).sum) % 2=0;rw [dR,List.sum_cons,List.map_map]
  have e:((fun f=>(fc0 f).count g) ∘ (x :: ·):Spx→Nat)=fun f=>(if f=g then 1 else 0) + ((fc0 f).map (x :: ·)).count g:=by
   funext f
   show (f :: (fc0 f).map (x :: ·)).count g=_;rw [List.count_cons,Nat.add_comm]
   congr 1
   by_cases h:f=g
   ·subst h; simp
   ·simp [h]
  rw [e,AR,Bi]
  match g with
  | [] =>
   have:∀ L:List Spx,(L.map fun f=>((fc0 f).map (x :: ·)).count ([]:Spx)).sum=0:=fun L=>by
    induction L with
    | nil=>rfl
    | cons f L ih =>
     rw [dR,List.sum_cons,ih,Gc (by simp)]
   rw [this]; omega
  | y :: g' =>
   by_cases h:x=y
   ·subst h;have h1:(fun f:Spx=>((fc0 f).map (x :: ·)).count (x :: g'))=fun f=>(fc0 f).count g':=by funext f; exact lM
    rw [h1];have:=dd0 s g';omega
   ·have:∀ L:List Spx,(L.map fun f=>((fc0 f).map (x :: ·)).count (y :: g')).sum=0:=fun L=>by
      induction L with
      | nil=>rfl
      | cons f L ih =>
       rw [dR,List.sum_cons,ih,Gc (by simp [h])]
    rw [this]; omega
theorem dd1 (s g:Spx):((bo s).map fun f=>(bo f).count g).sum % 2=0:=by
 by_cases h:s.length ≤ 2
 ·have:∀ f ∈ bo s,(bo f).count g=0:=fun f hf=>by
    obtain ⟨_,_,h3⟩:=gc.1 hf;unfold bo;rw [if_pos (by omega)]; rfl
  have h2:∀ L:List Spx,(∀ f ∈ L,(bo f).count g=0)→(L.map fun f=>(bo f).count g).sum=0:=fun L hL=>by
   induction L with
   | nil=>rfl
   | cons f L ih =>
    rw [dR,List.sum_cons,ih fun t ht=>hL t (d6 _ ht),hL f di]
  rw [h2 _ this]
 ·have h1:(bo s).map (fun f=>(bo f).count g)=(cC s (s.length - 1)).map fun f=>(fc0 f).count g:=by
    rw [show bo s=cC s (s.length - 1) by unfold bo; rw [if_neg (by omega)]];refine pW fun f hf=>?_;have hl:=(eb.1 hf).2;have hne:f ≠ []:=fun e=>by rw [e] at hl; simp at hl; omega
    rw [← Ch hne];unfold bo;rw [if_neg (by omega)]
  rw [h1,((oC (s:=s) (fun e=>by rw [e] at h; simp at h)).map _).sum_nat];exact dd0 s g
theorem ud (h:Spx→Nat):∀ (a o:List Spx),((ju a o).map h).sum % 2=((o.map h).sum + (a.map fun s=>((bo s).map h).sum).sum) % 2
 | [],o=>by simp [ju]
 | s :: a,o=>by
  have h1:=ud h a (iB bG o (bo s));have h2:=oI iM h _ o (bo s) (aP _);show ((ju a (iB bG o (bo s))).map h).sum % 2=_;rw [dR,List.sum_cons];omega
theorem Co {a:List Spx} (hs:∀ s ∈ a,bQ ce s):cp (cp a)=[]:=by
 refine (CD (y3 hs) bQ.nil fun f=>⟨fun h=>(by cases h),fun h=>?_⟩).symm;exfalso;have h1:=ud (fun s=>(bo s).count f) a []
 have h2:∀ L:List Spx,(L.map fun s=>((bo s).map fun t=>(bo t).count f).sum).sum % 2=0:=fun L=>by
  induction L with
  | nil=>rfl
  | cons s L ih =>
   have:=dd1 s f;rw [dR,List.sum_cons]; omega
 have h3:=h2 a;unfold kJ at h;rw [show cp a=ju a [] from rfl] at h;simp only [List.map_nil,List.sum_nil] at h1;omega
def Df (a:List Spx) (k:Nat):Int:=if bR (a.getD k default) ≠ 0 then bR (a.getD k default) else if (a.getD k default).length ≠ (a.getD 0 default).length then 15 else if 0 < k∧0 ≤ bG (a.getD (k - 1) default) (a.getD k default) then 14 else 0
def gf (a:List Spx):Int:=if 4096 < a.length then 5 else db (Df a) a.length
theorem nK {a:List Spx} (h:gf a=0):a.length ≤ 4096∧(∀ s ∈ a,bR s=0)∧bQ bG a∧∀ s ∈ a,s.length=(a.getD 0 default).length:=by
 unfold gf at h;split at h
 ·exact absurd h (by decide)
 rename_i hl;have h0:=fY h
 have hk:∀ k,k < a.length→bR (a.getD k default)=0∧(a.getD k default).length=(a.getD 0 default).length∧(0 < k→bG (a.getD (k - 1) default) (a.getD k default) < 0):=fun k hk=>by
  have q:=h0 k hk;unfold Df at q;split at q
  ·exact absurd q ‹_›
  split at q
  ·exact absurd q (by decide)
  split at q
  ·exact absurd q (by decide)
  ·rename_i q1 q2 q3;exact ⟨tV q1,tV q2,fun h0=>by omega⟩
 have hm:∀ s ∈ a,∃ k,k < a.length∧a.getD k default=s:=fun s hs=>by
  obtain ⟨k,h1,h2⟩:=jW hs;exact ⟨k,h1,by simp [List.getD,h1,h2]⟩
 refine ⟨by omega,fun s hs=>?_,?_,fun s hs=>?_⟩
 ·obtain ⟨k,h1,rfl⟩:=hm s hs; exact (hk k h1).1
 ·have hchain:∀ j i,i < j→j < a.length→bG (a.getD i default) (a.getD j default) < 0:=fun j=>by
    induction j with
    | zero=>intro i hi; omega
    | succ j ih =>
     intro i hi hj;have q:=(hk (j + 1) hj).2.2 (by omega);rw [qF] at q;rcases (by omega:i < j ∨ i=j) with h | rfl
     ·exact iM.trans (ih i h (by omega)) q
     ·exact q
  unfold bQ;rw [mQ];intro i j hi hj hij;have:=hchain j i hij hj
  rwa [show a.getD i default=a[i] by simp [List.getD,hi],show a.getD j default=a[j] by simp [List.getD,hj]] at this
 ·obtain ⟨k,h1,rfl⟩:=hm s hs; exact (hk k h1).2.1
theorem Ap {a:List Spx} {n:Nat} (h1:a.length ≤ 4096) (h2:∀ s ∈ a,bR s=0) (h3:bQ bG a) (h4:∀ s ∈ a,s.length=n):gf a=0:=by
 unfold gf;rw [if_neg (by omega)];refine cT fun k hk=>?_;unfold Df;rw [if_neg (fun h=>h (h2 _ (ba hk))),if_neg (fun h=>h (by rw [h4 _ (ba hk),h4 _ (ba (by omega))])),if_neg];rintro ⟨q1,q2⟩;have:=dJ h3 (i:=k - 1) (j:=k) (by omega) hk;omega
theorem fO {a:List Spx} (h:∀ s ∈ a,bR s=0):∀ s ∈ a,bQ ce s:=fun s hs=>(cV (h s hs)).2.2.1
theorem yY {a:List Spx} {k:Nat}:Df a k=if bR (a.getD k default) ≠ 0 then bR (a.getD k default) else if (a.getD k default).length ≠ (a.getD 0 default).length then 15 else if 0 < k∧0 ≤ bG (a.getD (k - 1) default) (a.getD k default) then 14 else 0:=rfl
def A4 (l:List (List Spx)):AV:=il 1 aC l
theorem wS (l:List (List Spx)):Dat (A4 l):=CQ (fun _=>rfl) aW
instance datI_encXsss {l:List (List Spx)}:DatI (A4 l):=⟨wS l⟩
theorem Js {l:List Spx} (h:0 < l.length):eG 1 (aC l) (.int .i64 0)=some (.iptr [aF (l.getD 0 default)] 0):=fq h
abbrev ShC (a:List Spx):Prop:=Shn a∧∀ s ∈ a,Shn s
attribute [local irreducible] aM am bm be aX a6 aG aZ bf bI Go.Abs.Fn bc Go.Abs.Pure aB aQ Yl
theorem sU (a:List Spx) (ha:ShC a):Pure Tryz.prog 29 [aC a] (.int .i64 (gf a)):=by
 refine Pure.of_c2 follows JM (br rfl) ?_;simp only [b29,aU];have ha':a.length ≤ 17592186044416:=ha.1;unfold gf;by_cases h0:4096 < a.length
 ·rw [if_pos h0];have zz:=aI @aj (aI @au @ao); repeat' (first|refine zW ?_|apply a_n|apply a_r|refine zO ?_|refine vZ ?_|(refine zGZ ?_ ?_ <;> (intro _hg; try (exfalso; omega)))|refine ak rfl ?_|refine r1Z ?_|fail)
  all_goals exact d8 rfl
 rw [if_neg h0];have zz:=aI @aj (aI @au @ao); repeat' (first|refine zW ?_|apply a_n|refine zO ?_|refine vZ ?_|(refine zGZ ?_ ?_ <;> (intro _hg; try (exfalso; omega)))|fail)
 refine oN (X:=Nat) (fun k=>[(0,aC a),(9,aC a),(10,.int .i64 a.length),(11,.int .i64 k)]) (fun k=>k ≤ a.length∧∀ i,i < k→Df a i=0) (fun k=>a.length - k) 0 ⟨cf _,fun i h=>absurd h (by omega)⟩ ag0 ?_;rintro k ⟨h1,h2⟩;by_cases hk:k < a.length
 rotate_left
 ·rw [cT fun i hi=>h2 i (by omega)]
  repeat' (first|refine zW ?_|apply a_n|apply a_x|refine zO ?_|refine vY ?_|(refine zGY ?_ ?_ <;> (intro _hg; try (exfalso; omega)))|refine ak rfl ?_|refine r1Y ?_|fail)
  exact .int _ _
 have ix:=fq hk;have i0:=Js (l:=a) (by omega);have hs1:=ha.2 _ (aE hk);have hp:=oU (a.getD k default) hs1;have hsp:=yY (a:=a) (k:=k);by_cases he:bR (a.getD k default) ≠ 0
 ·rw [if_pos he] at hsp;rw [cL hk h2 (by rw [hsp]; exact he),hsp];have z:decide (bR (a.getD k default) ≠ 0)=true:=bt he;clear zz;have zz:=aI @aj (aI @az (aI @ix @z)); repeat' (first|refine zW ?_|apply a_n|apply a_r|refine zO ?_|refine vY ?_|refine cY ?_ (hp:=hp) (hs:=by (first | refine af ?_ rfl | apply ag); (repeat' (first | exact ac | apply an | apply ah | exact aH _)); first | done | fail)|refine cTY ?_|(refine zGY ?_ ?_ <;> (intro _hg; try (exfalso; omega)))|refine ak rfl ?_|refine r1Y ?_|fail)
  exact .int _ _
 rw [if_neg he] at hsp;have he:=tV he;rw [he] at hp;have z:decide ((0:Int) ≠ 0)=false:=rfl;by_cases hl:(a.getD k default).length ≠ (a.getD 0 default).length
 ·rw [if_pos hl] at hsp;rw [cL hk h2 (by rw [hsp]; decide),hsp];have z1:decide (((a.getD k default).length:Int) ≠ (a.getD 0 default).length)=true:=bt (by omega);clear zz;have zz:=aI @aj (aI @az (aI @ix (aI @i0 (aI @z @z1)))); repeat' (first|refine zW ?_|apply a_n|apply a_r|refine zO ?_|refine vY ?_|refine cY ?_ (hp:=hp) (hs:=by (first | refine af ?_ rfl | apply ag); (repeat' (first | exact ac | apply an | apply ah | exact aH _)); first | done | fail)|refine cTY ?_|refine cFY ?_|(refine zGY ?_ ?_ <;> (intro _hg; try (exfalso; omega)))|refine ak rfl ?_|refine r1Y ?_|fail)
  exact .int _ _
 rw [if_neg hl] at hsp;have z1:decide (((a.getD k default).length:Int) ≠ (a.getD 0 default).length)=false:=bj (by omega);by_cases hk0:0 < k
 rotate_left
 ·rw [if_neg (fun h=>hk0 h.1)] at hsp;have zk:decide (0 < (k:Int))=false:=bj (by omega);clear zz;have zz:=aI @aj (aI @az (aI @ix (aI @i0 (aI @z (aI @z1 @zk))))); repeat' (first|refine zW ?_|apply a_n|refine zO ?_|refine vY ?_|refine cY ?_ (hp:=hp) (hs:=by (first | refine af ?_ rfl | apply ag); (repeat' (first | exact ac | apply an | apply ah | exact aH _)); first | done | fail)|refine gFY ?_|refine cFY ?_|(refine zGY ?_ ?_ <;> (intro _hg; try (exfalso; omega)))|fail)
  exact ⟨k + 1,⟨by omega,fun i hi=>by
   rcases jl.1 hi with h' | rfl
   ·exact h2 i h'
   ·exact hsp⟩,by omega,ag0,rfl,rfl⟩
 have zk:decide (0 < (k:Int))=true:=bt (by omega)
 have iy:eG 1 (aC a) (.int .i64 ((k:Int) - 1))=some (.iptr [aF (a.getD (k - 1) default)] 0):=by
  have:=fq (l:=a) (k:=k - 1) (by omega)
  rwa [show ((k - 1:Nat):Int)=(k:Int) - 1 by omega] at this
 have hcm:=gd (a.getD (k - 1) default) (a.getD k default) (ha.2 _ (aE (by omega))) hs1;by_cases hv:0 ≤ bG (a.getD (k - 1) default) (a.getD k default)
 ·have z2:decide (0 ≤ bG (a.getD (k - 1) default) (a.getD k default))=true:=bt hv;rw [if_pos ⟨hk0,hv⟩] at hsp;rw [cL hk h2 (by rw [hsp]; decide),hsp];clear zz;have zz:=aI @aj (aI @az (aI @ix (aI @i0 (aI @iy (aI @z (aI @z1 (aI @zk @z2))))))); repeat' (first|refine zW ?_|apply a_n|apply a_r|refine zO ?_|refine vY ?_|refine cY ?_ (hp:=by first | exact hp | exact hcm) (hs:=by (first | refine af ?_ rfl | apply ag); (repeat' (first | exact ac | apply an | apply ah | exact aH _)); first | done | fail)|refine gTY ?_|refine cTY ?_|refine cFY ?_|(refine zGY ?_ ?_ <;> (intro _hg; try (exfalso; omega)))|refine ak rfl ?_|refine r1Y ?_|fail)
  exact .int _ _
 ·have z2:decide (0 ≤ bG (a.getD (k - 1) default) (a.getD k default))=false:=bj hv;rw [if_neg (fun h=>hv h.2)] at hsp;clear zz;have zz:=aI @aj (aI @az (aI @ix (aI @i0 (aI @iy (aI @z (aI @z1 (aI @zk @z2))))))); repeat' (first|refine zW ?_|apply a_n|refine zO ?_|refine vY ?_|refine cY ?_ (hp:=by first | exact hp | exact hcm) (hs:=by (first | refine af ?_ rfl | apply ag); (repeat' (first | exact ac | apply an | apply ah | exact aH _)); first | done | fail)|refine gTY ?_|refine cFY ?_|(refine zGY ?_ ?_ <;> (intro _hg; try (exfalso; omega)))|fail)
  exact ⟨k + 1,⟨by omega,fun i hi=>by
   rcases jl.1 hi with h' | rfl
   ·exact h2 i h'
   ·exact hsp⟩,by omega,ag0,rfl,rfl⟩
theorem uE (l:List Spx) (hl:l.length ≤ 100000) (hs:∀ x ∈ l,x.length ≤ 1000000):Pure Tryz.prog 28 [aC l] (aC l):=by
 refine Pure.of_c2 follows Jy (br rfl) ?_;simp only [b28,aU];have zz:=@aj; repeat' (first|refine zW ?_|apply a_n|refine zO ?_|refine vZ ?_|fail)
 refine bC (X:=AV × Nat) (fun x=>[(3,x.1),(6,aC l),(7,.int .i64 l.length),(8,.int .i64 x.2)]) (fun x H nx=>x.2 ≤ l.length∧Row H 1 x.1 ((l.take x.2).map aF)∧∀ b,dF x.1=some b→b < nx) (fun x=>l.length - x.2) (.esl,0) ⟨cf _,Row.nil,fun b hb=>(by cases hb)⟩ ag0 ?_;rintro ⟨s,j⟩ H nx ⟨h1,h2,h3⟩;dsimp only at h1 h2 h3 ⊢;by_cases hj:j < l.length
 ·have hw:=aE hj;have hcl:=Cr _ (hs _ hw);have ix:=fq hj;clear zz;have zz:=@ix; repeat' (first|refine zW ?_|apply a_n|refine zO ?_|refine vY ?_|(refine zGY ?_ ?_ <;> (intro _hg; try (exfalso; omega)))|fail)
  refine wx ev0 ev0 hcl (ar (aH _ _) ac) ?_;clear zz;have zz:=aI @b0 @bD; repeat' (first|apply a_n|refine zO ?_|refine blY ?_|fail)
  refine iq rfl ev0 (h2.same fun b hb=>?_) ev0 dp rfl rfl jt (by simp; omega) (by simp; omega) ?_
  ·have:=h3 b hb;rw [ae (by omega)]
  rintro s2 E e hrow hle1 hle2 hsame hb2
  repeat' (first|apply a_n|refine zO ?_|refine vY ?_|fail)
  refine ⟨(s2,j + 1),by dsimp only; omega,⟨by dsimp only; omega,?_,fun b hb=>?_⟩,ag0⟩
  ·dsimp only;rw [Ad hj,ed];exact hrow
  ·rcases hb2 b hb with h | h
   ·have:=h3 b h; omega
   ·omega
 ·repeat' (first|refine zW ?_|apply a_n|apply a_x|refine zO ?_|refine vY ?_|(refine zGY ?_ ?_ <;> (intro _hg; try (exfalso; omega)))|refine ak rfl ?_|refine r1Y ?_|fail)
  rw [iv (by omega)] at h2;exact l6 h2
theorem Cn (l:List Spx) (hl:Shn l) (hs:∀ x ∈ l,x.length ≤ 1000000):Pure Tryz.prog 30 [aC l] (.tup [aC (if 4096 < l.length then [] else l),.int .i64 (if 4096 < l.length then 5 else 0)]):=by
 refine Pure.of_c2 follows Kc (br rfl) ?_;simp only [b30,aU];have hl':l.length ≤ 17592186044416:=hl;by_cases h:4096 < l.length
 ·have z:decide ((4096:Int) < l.length)=true:=bt (by omega);rw [if_pos h,if_pos h];have zz:=aI @aj @z; repeat' (first|refine zW ?_|apply a_n|apply a_r|refine zO ?_|refine vY ?_|refine cTY ?_|refine ak rfl ?_|refine r2Y ?_|fail)
  exact ee (.eslsl _) rfl
 ·have z:decide ((4096:Int) < l.length)=false:=bj (by omega);rw [if_neg h,if_neg h];have hc:=uE l (by omega) hs;have zz:=aI @aj @z; repeat' (first|refine zW ?_|apply a_n|refine zO ?_|refine vY ?_|refine cY ?_ (hp:=hc) (hs:=by (first | refine af ?_ rfl | apply ag); (repeat' (first | exact ac | apply an | apply ah | exact aW _)); first | done | fail)|refine cFY ?_|refine ak rfl ?_|refine r2Y ?_|fail)
  exact ee (aW _).snap rfl
theorem rJ {a:List Spx} (h:∀ s ∈ a,bR s=0):∀ s ∈ a,Shn s:=fun s hs=>by have:=(cV (h s hs)).2.1; show _ ≤ _; omega
theorem ym {a:List Spx} (h:∀ s ∈ a,bR s=0):∀ s ∈ a,s.length ≤ 1000000:=fun s hs=>by have:=(cV (h s hs)).2.1; omega
end Go.Proofs.YtlodfaaceehfmaaGreat
namespace Go.Proofs.YtlodfaaceehfmaaGreat
open Go Go.Abs
section
variable {α:Type} [DecidableEq α] {K:α→α→Int}
end
section
variable {g:Vtx→Vtx}
end
def fcs (s:Spx):List Spx:=if s.length < 2 then [] else fc0 s
theorem nZ {s:Spx}:(fcs s).Perm (bo s):=by
 unfold fcs bo;split
 ·exact List.Perm.refl _
 ·rename_i h;exact (oC fun e=>by rw [e] at h; simp at h).symm
theorem A7 {s f:Spx}:f ∈ fcs s ↔ f ∈ bo s:=nZ.mem_iff
theorem qT:∀ {s:Spx},(fc0 s).length=s.length
 | []=>rfl
 | x :: s=>by show ((fc0 s).map (x :: ·)).length + 1=_; rw [bO,qT]; rfl
theorem AH:∀ {s:Spx} {i:Nat},i < s.length→(fc0 s).getD i default=s.take i ++ s.drop (i + 1)
 | [],_,h=>absurd h (by simp)
 | x :: s,0,_=>by simp [fc0]
 | x :: s,i + 1,h=>by
  have hi:i < s.length:=by simpa using h
  have:=AH hi;show ((s :: (fc0 s).map (x :: ·)).getD (i + 1) default)=_;have hl:i < (fc0 s).length:=by rw [qT]; exact hi
  simp only [List.getD,yp,mI,sf hl,kI,vn,List.take_succ_cons,List.drop_succ_cons,List.cons_append] at this ⊢;rw [this]
theorem oP {s:Spx} (h:bQ ce s):(bo s).Nodup:=(sN h).nodup iM
theorem CF {s:Spx} (h:bQ ce s):(fcs s).Nodup:=nZ.nodup_iff.2 (oP h)
def iK (X Y:List Spx) (n i:Nat):List Nat:=(List.range n).filter fun k=>decide (Y.getD i default ∈ bo (X.getD k default))
theorem B1 {X Y:List Spx} {n i:Nat}:iK X Y (n + 1) i=iK X Y n i ++ if Y.getD i default ∈ bo (X.getD n default) then [n] else []:=by
 unfold iK;rw [List.range_succ,Cc]
 congr 1
 by_cases h:Y.getD i default ∈ bo (X.getD n default)
 ·rw [if_pos h,D8 (by simpa using h)]; rfl
 ·rw [if_neg h,DF (by simpa using h)]; rfl
theorem wN {X Y:List Spx} {n i:Nat}:(iK X Y n i).length ≤ n:=by
 unfold iK;exact fM (List.length_filter_le _ _) (by simp)
def dQ (X Y:List Spx):List (List Int):=(List.range Y.length).map fun i=>bF (iK X Y X.length i)
end Go.Proofs.YtlodfaaceehfmaaGreat
namespace Go.Proofs.YtlodfaaceehfmaaGreat
open Go Go.Abs
open Nat (reduceEqDiff reduceAdd reduceLeDiff)
section
variable {P:Program} {T:Tm} {H:Hp} {nx:Nat}
theorem HB {dm:DM} {K:SP} {l:List Op2} {d:Option Nat} {sz bytes:Nat} {z:List AV} {s x:Opd} {k:IntKind} {n:Int} (hd:dm2 dm T (.apz sz bytes z s x)=true) (hs:ov T s=.esl) (hx:ov T x=.int k n) (h0:0 < n) (h1:n ≤ 9223372036854775807) (h2:n.toNat * bytes ≤ 140737488355328)
    (kk:am P dm l (aJ T d (.msl nx (n.toNat * sz) sz 0 n.toNat)) (aq H nx (bl (.agg z) n.toNat)) (nx + 1) K):am P dm (⟨d,none,.apz sz bytes z s x⟩ :: l) T H nx K:=by
 refine m9 rfl hd ?_ kk;simp only [gg,hs,hx];rw [if_pos ⟨h0,h1,h2⟩]
end
theorem FG (T:Tm) (H:Hp) (x:Opd):bu T H (.capE x)=match ov T x with | .esl=>some (.int .i64 0) | _=>none:=rfl
theorem Fi (n:Nat):(bl (.agg [.int .i64 0,.int .i64 0]) n).length=n * 2:=by simp [bl,AV.cells]
attribute [local irreducible] aM am bm be aX a6 aG aZ bf bI Go.Abs.Fn bc Go.Abs.Pure aB aQ Yl
theorem E6 (n:Nat) (h0:0 < n) (h1:n ≤ 1000000) (H:Hp) (nx:Nat):Abs.Fn Tryz.prog 80 [.esl,.int .i64 n] H nx fun r H' nx'=>r=.msl nx (n * 2) 2 0 0∧H'=aq H nx (bl (.agg [.int .i64 0,.int .i64 0]) n)∧nx'=nx + 1:=by
 refine Abs.Fn.of_c2 follows Ka (br rfl) ?_;simp only [b80,aU];have z1:decide ((n:Int) < 0)=false:=bj (by omega);have z2:decide ((0:Int) < n)=true:=bt (by omega);have s2:kN 2 .esl none (some (.int .i64 0)) none=some .esl:=rfl;have s3:=zd (B:=nx) (n:=n * 2) (len:=n) (k:=0) (by omega) (by omega);rw [show ((0:Nat):Int)=0 from rfl] at s3;have zz:=aI @z1 (aI @z2 (aI @s2 (aI @Int.sub_zero (aI @Int.sub_self @FG)))); repeat' (first|refine zW ?_|apply a_n|refine zO ?_|refine vY ?_|refine cTY ?_|refine cFY ?_|fail)
 refine HB rfl (have zz:=@s2; evY) ev0 (by omega) (by omega) (by omega) ?_;clear zz;have zz:=@s3; repeat' (first|refine zW ?_|apply a_n|refine zO ?_|refine vY ?_|refine ak rfl ?_|refine r1Y ?_|fail)
 exact ⟨rfl,rfl,rfl⟩
theorem vQ {c:List Spx} {k:Nat} (hk:k < c.length):(c.take (k + 1)).flatten=(c.take k).flatten ++ c.getD k default:=by
 rw [dE hk,List.flatten_append]; simp
end Go.Proofs.YtlodfaaceehfmaaGreat
namespace Go.Proofs.YtlodfaaceehfmaaGreat
open Go Go.Abs
open Nat (reduceEqDiff reduceAdd reduceLeDiff)
theorem Ha {P:Program} {T:Tm} {H:Hp} {nx:Nat} {dm:DM} {K:SP} {l:List Op2} {d:Option Nat} {sz bytes b N len n:Nat} {s x:Opd} {v:AV} {new C:List AV} (hd:dm2 dm T (.app sz bytes s x)=true) (hs:ov T s=.msl b N sz 0 len) (hb:H b=some C) (hN:C.length=N) (hx:ov T x=v) (hsrc:ef sz H v=some (n,new)) (ho:AV.ones new=true) (hnl:new.length=n * sz) (hz:0 < sz) (h0:0 < N) (hle:(len + n) * sz ≤ N) (h1:(len + n) * bytes ≤ 140737488355328) (h2:len + n ≤ 9223372036854775807)
    (next:∀ C':List AV,C'.length=N→C'.take ((len + n) * sz)=C.take (len * sz) ++ new→am P dm l (aJ T d (.msl b N sz 0 (len + n))) (aq H b C') nx K) :
    am P dm (⟨d,none,.app sz bytes s x⟩ :: l) T H nx K:=by
 by_cases e:N=len * sz
 ·have hn:n=0:=by
    rcases yV n with h | h
    ·exact h
    ·have:len * sz + 1 * 1 ≤ len * sz + n * sz:=Nat.add_le_add_left (Nat.mul_le_mul h hz) _;rw [eZ] at hle; omega
  subst hn;obtain rfl:new=[]:=List.eq_nil_of_length_eq_zero (by rw [hnl,vV]);refine EH hd hs hb hx hsrc ho hN e h1 h2 ?_;rw [nP] at next ⊢;rw [← e];exact next _ (by rw [jH]; exact hN) (by rw [jH,jH])
 ·refine zG hd hs hb hx hsrc ho hN (fun _=>e) h0 (by rw [cb]; exact hle) ?_;have hlen:len * sz + new.length ≤ N:=by rw [hnl,← eZ]; exact hle
  refine next _ ?_ ?_
  ·rw [gF (by rw [hN]; omega)]; exact hN
  ·simp only [bK,cb];rw [Fj (by rw [dr,iO,hN,hnl,eZ]; omega),iv (by rw [dr,iO,hN,hnl,eZ]; omega)]
attribute [local irreducible] aM am bm be aX a6 aG aZ bf bI Go.Abs.Fn bc Go.Abs.Pure aB aQ Yl
theorem Cz (c:List Spx) (hpos:0 < c.flatten.length) (hl:c.flatten.length ≤ 1000000) (hc:c.length ≤ 1000000) (H:Hp) (nx:Nat) :
    Abs.Fn Tryz.prog 53 [aC c] H nx fun r H' nx'=>r=.msl nx (c.flatten.length * 2) 2 0 c.flatten.length∧H'=aq H nx (cX c.flatten)∧nx'=nx + 1:=by
 refine Abs.Fn.of_c2 follows Kr (br rfl) ?_;simp only [b53,aU]
 have hle:∀ k,(c.take k).flatten.length ≤ c.flatten.length:=fun k=>by
  have:c.flatten=(c.take k).flatten ++ (c.drop k).flatten:=by rw [← List.flatten_append,De]
  rw [this,dr]; omega
 refine dt ?_
 repeat' (first|apply a_n|refine zO ?_|refine vY ?_|fail)
 refine dt ?_
 repeat' (first|apply a_n|refine zO ?_|refine vY ?_|fail)
 refine cr (fun T H' nx'=>T 0=aC c∧T 3=.int .i64 (c.flatten.length:Nat)∧H=H'∧nx=nx') ?_ ?_
 ·have zz:=@aj; repeat' (first|refine zW ?_|apply a_n|refine zO ?_|refine vY ?_|fail)
  refine oN (X:=Nat) (fun k=>[(0,aC c),(3,.int .i64 ((c.take k).flatten.length:Nat)),(9,aC c),(10,.int .i64 c.length),(11,.int .i64 (k:Nat))]) (fun k=>k ≤ c.length) (fun k=>c.length - k) 0 (by omega) (by simp (disch:=omega) only [agr,ZG,reduceEqDiff,↓reduceIte,List.take_zero,List.flatten_nil,fL] <;> simp) ?_;intro k hk;by_cases hk2:k < c.length
  rotate_left
  ·rw [iv (by omega)]
   repeat' (first|refine zW ?_|apply a_n|apply a_x|refine zO ?_|refine vY ?_|(refine zGY ?_ ?_ <;> (intro _hg; try (exfalso; omega)))|fail)
   exact ⟨rfl,rfl,rfl,rfl⟩
  have ix:=fq hk2;have hle2:=hle (k + 1);have e:(((c.take (k + 1)).flatten.length:Nat):Int)=((c.take k).flatten.length:Nat) + ((c.getD k default).length:Nat):=by rw [vQ hk2,dr]; omega
  rw [vQ hk2,dr] at hle2;have z:decide ((((c.take k).flatten.length:Nat):Int) + ((c.getD k default).length:Nat) < 0)=false:=bj (by omega);generalize c.getD k default=s at *;clear zz;have zz:=aI @ix (aI @az @z); repeat' (first|refine zW ?_|apply a_n|refine zO ?_|refine vY ?_|refine cFY ?_|(refine zGY ?_ ?_ <;> (intro _hg; try (exfalso; omega)))|fail)
  exact ⟨k + 1,by omega,by omega,(have zz:=@e; agZ),rfl,rfl⟩
 rintro T _ _ ⟨t0,t3,rfl,rfl⟩;have zz:=@t3; repeat' (first|refine zW ?_|apply a_n|refine zO ?_|refine vY ?_|fail)
 refine bn ev0 (have zz:=@t3; evY) (E6 c.flatten.length (by omega) (by omega) H nx) ?_;rintro _ _ _ ⟨rfl,rfl,rfl⟩;clear zz;have zz:=aI @t0 @aj; repeat' (first|refine zW ?_|apply a_n|refine zO ?_|refine vY ?_|fail)
 refine bC (X:=Nat) (fun k=>[(6,.msl nx (c.flatten.length * 2) 2 0 (c.take k).flatten.length),(25,aC c),(26,.int .i64 c.length),(27,.int .i64 (k:Nat))]) (fun k H' nx'=>k ≤ c.length∧(∃ C,H'=aq H nx C∧C.length=c.flatten.length * 2∧C.take ((c.take k).flatten.length * 2)=cX (c.take k).flatten)∧nx'=nx + 1) (fun k=>c.length - k) 0 ⟨by omega,⟨_,rfl,Fi _,rfl⟩,rfl⟩ (by simp (disch:=omega) only [agr,ZG,reduceEqDiff,↓reduceIte,List.take_zero,List.flatten_nil,fL]) ?_;rintro k _ _ ⟨hk,⟨C,rfl,h1,h2⟩,rfl⟩;by_cases hk2:k < c.length
 rotate_left
 ·have ek:c.take k=c:=iv (by omega);rw [ek] at h2 ⊢;rw [iv (by omega)] at h2;subst h2
  repeat' (first|refine zW ?_|apply a_n|apply a_x|refine zO ?_|refine vY ?_|(refine zGY ?_ ?_ <;> (intro _hg; try (exfalso; omega)))|refine ak rfl ?_|refine r1Y ?_|fail)
  exact ⟨rfl,rfl,rfl⟩
 have ix:=fq hk2;have hle2:=hle (k + 1);have e:=vQ hk2;rw [e,dr] at hle2;have hcl:=jY (c.getD k default);have hcp:=jY (c.take k).flatten;generalize c.getD k default=s at *;clear zz;have zz:=@ix; repeat' (first|refine zW ?_|apply a_n|refine zO ?_|refine vY ?_|(refine zGY ?_ ?_ <;> (intro _hg; try (exfalso; omega)))|fail)
 refine Ha (b:=nx) (N:=c.flatten.length * 2) (len:=(c.take k).flatten.length) (n:=s.length) (C:=C) rfl ev0 ai h1 ev0 xq (ma _) (by rw [hcl]) (by omega) (by omega) (by omega) (by omega) (by omega) fun C2 c1 c2=>?_
 repeat' (first|apply a_n|refine zO ?_|refine vY ?_|fail)
 refine ⟨k + 1,by omega,⟨by omega,⟨_,a7 _ _ _ _,c1,?_⟩,rfl⟩,by simp (disch:=omega) only [agr,ZG,reduceEqDiff,↓reduceIte,e,dr]⟩;rw [e,o7,dr,← h2];exact c2
theorem Kh {P:Program} {T:Tm} {H S:Hp} {nx n:Nat} {K:SP} {l:List (Op2 × Nat)} {d:Option Nat} {i:Ins} {t:Nat} {w:Bool} (h:T t=.bool w) (k:a9 P S ((⟨d,none,i⟩,n) :: l) T H nx K):a9 P S ((⟨d,some (t,w),i⟩,n) :: l) T H nx K:=by
 have e:g2 T (some (t,w))=some true:=by simp [g2,h]
 cases n with
 | zero=>show aZ (g2 T (some (t,w))) _ _; rw [e]; exact k
 | succ n=>show aZ (g2 T (some (t,w))) _ _; rw [e]; exact k
theorem BO (x y:Spx) (h:0 < (x ++ y).length) (hl:(x ++ y).length ≤ 1000000):fX Tryz.prog 53 [aC [x,y]] (aF (x ++ y)):=by
 refine fX.of_fn ?_;have e:[x,y].flatten=x ++ y:=by simp
 have hc:=Cz [x,y] (by rw [e]; exact h) (by rw [e]; exact hl) (by simp) bT 0;rw [e] at hc;refine Abs.Fn.mono hc ?_;rintro _ _ _ ⟨rfl,rfl,rfl⟩;exact ve (Row.box _ (x ++ y).length (cX (x ++ y)) ai (jY _))
theorem uo (s:Spx) (H:Hp) (nx:Nat):Abs.Fn Tryz.prog 25 [aF s] H nx fun r H' nx'=>r=.func 52 [.ptr nx 1 0]∧H'=aq H nx [aF s]∧nx'=nx + 1:=by
 refine Abs.Fn.of_c2 follows J7 (br rfl) ?_;simp only [b25,aU];have zz:=aI @b0 @bD; repeat' (first|refine zW ?_|apply a_n|refine zO ?_|refine vY ?_|refine bxY ?_|refine ak rfl ?_|refine r1Y ?_|fail)
 exact ⟨rfl,rfl,rfl⟩
theorem CY {H:Hp} {b:Nat} {x y:Spx} (h:H b=some [aF x,aF y]):aQ H [.msl b 2 1 0 2] [aC [x,y]] :=
 ar (BB (l:=[aF x,aF y]) h rfl rfl (by
  intro z hz;simp only [dw,List.not_mem_nil,or_false] at hz;rcases hz with rfl | rfl
  ·exact ⟨rfl,aH _⟩
  ·exact ⟨rfl,aH _⟩)) ac
theorem u4 {s:Spx} (h:2 ≤ s.length):(fcs s).length=s.length:=by
 unfold fcs; rw [if_neg (by omega),qT]
theorem AA {s:Spx} {i:Nat} (h:2 ≤ s.length) (hi:i < s.length):(fcs s).getD i default=s.take i ++ s.drop (i + 1):=by
 unfold fcs; rw [if_neg (by omega),AH hi]
theorem ue {y sb:Nat} {s:Spx} {H:Hp} {nx:Nat} (hs:s.length ≤ 1000) (I:List Spx→Hp→Nat→Prop)
    (hp:∀ D H nx,I D H nx→H sb=some [aF s])
    (stab:∀ D H H' nx1 nx',I D H nx1→nx1 ≤ nx'→(∀ i,i < nx1→H' i=H i)→I D H' nx')
    (rnd:∀ D f H nx1,I D H nx1→D.length < (fcs s).length→f=(fcs s).getD D.length default→D=(fcs s).take D.length→Yl Tryz.prog y [aF f] H nx1 fun r H' nx'=>r=.bool true∧I (D ++ [f]) H' nx')
    (h0:I [] H nx) :
    Abs.Fn Tryz.prog 52 [.yld y,.ptr sb 1 0] H nx fun _ H' nx'=>I (fcs s) H' nx':=by
 refine Abs.Fn.of_c2 follows KC (br rfl) ?_;simp only [b52,aU];have g1:=hp _ _ _ h0;have zz:=aI @g1 (aI @b0 (aI @bD @az)); repeat' (first|refine zW ?_|apply a_n|refine zO ?_|refine vY ?_|fail)
 by_cases h2:2 ≤ s.length
 rotate_left
 ·have e:fcs s=[]:=by unfold fcs; rw [if_pos (by omega)]
  rw [e];refine bC (X:=Nat) (fun k=>[(0,.yld y),(1,.ptr sb 1 0),(5,.int .i64 s.length),(6,.int .i64 k)]) (fun k H' nx'=>k ≤ s.length∧I [] H' nx') (fun k=>s.length - k) 0 ⟨cf _,h0⟩ ag0 ?_;rintro k H1 nx1 ⟨h1,hI⟩;have q1:=hp _ _ _ hI;by_cases hk:k < s.length
  rotate_left
  ·repeat' (first|refine zW ?_|apply a_n|apply a_x|refine zO ?_|refine vY ?_|(refine zGY ?_ ?_ <;> (intro _hg; try (exfalso; omega)))|refine ak rfl ?_|fail)
   exact hI
  have z:decide ((1:Int) < s.length)=false:=bj (by omega);clear zz;have zz:=aI @q1 (aI @b0 (aI @bD (aI @az @z))); repeat' (first|refine zW ?_|refine zM ?_|apply a_n|refine zO ?_|refine vY ?_|refine gFY ?_|refine cFY ?_|(refine zGY ?_ ?_ <;> (intro _hg; try (exfalso; omega)))|fail)
  exact ⟨k + 1,by omega,⟨by omega,hI⟩,ag0⟩
 have z:decide ((1:Int) < s.length)=true:=bt (by omega);have hfl:=u4 h2;have hfg:=fun {i:Nat} (hi:i < s.length)=>AA (i:=i) h2 hi;refine bC (X:=Nat) (fun k=>[(0,.yld y),(1,.ptr sb 1 0),(5,.int .i64 s.length),(6,.int .i64 k)]) (fun k H' nx'=>k ≤ s.length∧I ((fcs s).take k) H' nx') (fun k=>s.length - k) 0 ⟨cf _,h0⟩ ag0 ?_;rintro k H1 nx1 ⟨h1,hI⟩;have q1:=hp _ _ _ hI;by_cases hk:k < s.length
 rotate_left
 ·rw [iv (by omega)] at hI
  repeat' (first|refine zW ?_|apply a_n|apply a_x|refine zO ?_|refine vY ?_|(refine zGY ?_ ?_ <;> (intro _hg; try (exfalso; omega)))|refine ak rfl ?_|fail)
  exact hI
 have a1:kN 2 (aF s) none (some (.int .i64 (k:Int))) none=some (aF (s.take k)):=vX (by omega);have a2:kN 2 (aF s) (some (.int .i64 ((k:Int) + 1))) none none=some (aF (s.drop (k + 1))):=zq (k:=k + 1) (by omega);have hc:=BO (s.take k) (s.drop (k + 1)) (by rw [dr,iO,xU]; omega) (by rw [dr,iO,xU]; omega);have hr:=rnd ((fcs s).take k) ((fcs s).getD k default) (aq H1 nx1 [aF (s.take k),aF (s.drop (k + 1))]) (nx1 + 1) (stab _ _ _ _ _ hI (by omega) fun i hi=>ae (by omega)) (by rw [iO]; omega) (by rw [iO,Nat.min_eq_left (by omega)]) (by rw [iO,Nat.min_eq_left (by omega)]);rw [← dE (by omega),hfg hk] at hr;clear zz;have zz:=aI @q1 (aI @b0 (aI @bD (aI @az (aI @z (aI @a1 @a2))))); repeat' (first|refine zW ?_|apply a_n|refine zO ?_|refine vY ?_|(refine zGY ?_ ?_ <;> (intro _hg; try (exfalso; omega)))|fail)
 refine rS sb q1 fun S0 hS1 hsub=>?_;simp only [dR,List.map_nil,List.getD_cons_succ,List.getD_cons_zero];clear zz;have zz:=aI @hS1 (aI @b0 (aI @bD (aI @az (aI @z (aI @a1 @a2))))); repeat' (first|apply a_n|refine zO ?_|refine nvY ?_|apply kq|refine blY ?_|fail)
 repeat (refine Kh ev0 ?_; skip)
 refine wx ev0 ev0 hc (CY (by rw [ai])) ?_
 repeat' (first|apply a_n|refine zO ?_|apply kq|fail)
 refine AZ ev0 ev0 (Yl.mono hr ?_);rintro v H3 nx3 ⟨rfl,e1⟩
 repeat' (first|apply a_n|refine zO ?_|refine vY ?_|refine nvY ?_|refine cFY ?_|fail)
 exact ⟨k + 1,by omega,⟨by omega,e1⟩,ag0⟩
end Go.Proofs.YtlodfaaceehfmaaGreat
namespace Go.Proofs.YtlodfaaceehfmaaGreat
open Go Go.Abs
open Nat (reduceEqDiff reduceAdd reduceLeDiff)
def gx:Nat→Spx→List Int
 | 0,_=>[]
 | n + 1,[]=>0 :: 0 :: gx n []
 | n + 1,v :: l=>v.color :: v.label :: gx n l
theorem oX:∀ {n:Nat} {s:Spx},(gx n s).length=2 * n
 | 0,_=>rfl
 | n + 1,[]=>by show (gx n []).length + 1 + 1=_; rw [oX]; omega
 | n + 1,v :: l=>by show (gx n l).length + 1 + 1=_; rw [oX]; omega
theorem yO:∀ {n:Nat} {s t:Spx},s.length=t.length→t.length ≤ n→gx n s=gx n t→s=t
 | _,[],[],_,_,_=>rfl
 | _,[],w :: m,h,_,_=>absurd h (by simp)
 | _,v :: l,[],h,_,_=>absurd h (by simp)
 | 0,v :: l,w :: m,_,h,_=>absurd h (by simp)
 | n + 1,v :: l,w :: m,hl,hm,e=>by
  obtain ⟨e1,e2⟩:=List.cons.inj e;obtain ⟨e2,e3⟩:=List.cons.inj e2;have:=yO (n:=n) (by simpa using hl) (by simpa using hm) e3;rw [this,nO.2 ⟨e1,e2⟩]
abbrev z16:List AV:=[.int .i64 0,.int .i64 0,.int .i64 0,.int .i64 0,.int .i64 0,.int .i64 0,.int .i64 0,.int .i64 0,.int .i64 0,.int .i64 0,.int .i64 0,.int .i64 0,.int .i64 0,.int .i64 0,.int .i64 0,.int .i64 0]
theorem GZ:z16=(gx 8 []).map (AV.int .i64):=rfl
theorem wW:∀ {n:Nat} {s:Spx},s.length ≤ n→cX s ++ ((gx n []).map (AV.int .i64)).drop (s.length * 2)=(gx n s).map (AV.int .i64)
 | n,[],_=>by simp [cX]
 | 0,_ :: _,h=>absurd h (by simp)
 | n + 1,v :: l,h=>by
  have:=wW (n:=n) (s:=l) (by simp at h; omega);show [AV.int .i64 v.color,AV.int .i64 v.label] ++ cX l ++ _=AV.int .i64 v.color :: AV.int .i64 v.label :: (gx n l).map (AV.int .i64);rw [← this,bN,show (l.length + 1) * 2=l.length * 2 + 1 + 1 by omega];rfl
def kZ (s:Spx):K16:=⟨gx 8 s,by rw [oX]⟩
theorem Db {s t:Spx} (h:s.length=t.length) (h8:t.length ≤ 8) (e:kZ s=kZ t):s=t:=yO h h8 (congrArg Subtype.val e)
theorem EB {O:List Spx} {f:Spx} {n:Nat} (hn:n ≤ 8) (hO:∀ s ∈ O,s.length=n) (hf:f.length=n):kZ f ∈ O.map kZ ↔ f ∈ O:=by
 rw [bP];exact ⟨fun ⟨s,h1,h2⟩=>by rw [← Db (by rw [hO s h1,hf]) (by omega) h2]; exact h1,fun h=>⟨f,h,rfl⟩⟩
theorem DA {f:Spx} {n:Nat} (hn:n ≤ 8) (hf:f.length=n):∀ {O:List Spx},(∀ s ∈ O,s.length=n)→(O.map kZ).idxOf (kZ f)=O.idxOf f
 | [],_=>rfl
 | g :: O,hO=>by
  have ih:=DA hn hf (O:=O) fun s hs=>hO s (d6 _ hs);have hg:=hO g di;rw [dR,List.idxOf_cons,List.idxOf_cons,ih]
  have e:(kZ g == kZ f)=(g == f):=by
   rw [Bool.eq_iff_iff,beq_iff_eq,beq_iff_eq];exact ⟨fun h=>Db (by rw [hg,hf]) (by omega) h,fun h=>by rw [h]⟩
  rw [e]
structure BOk (H:Hp) (n:Nat) (c:Spx→Nat) (O:List Spx) (bs:List Nat) (ck:Nat):Prop where
 box:H 0=some [.bmap ((O.map kZ).map eK) (O.map aF) bs ck]
 len:bs.length=O.length
 asc:bs.Pairwise (· < ·)
 below:∀ s ∈ bs,s < ck
 nd:O.Nodup
 all:∀ f ∈ O,f.length=n
 odd:∀ f,f ∈ O ↔ c f % 2=1
theorem BOk.same {H H':Hp} {n:Nat} {c c':Spx→Nat} {O:List Spx} {bs:List Nat} {ck:Nat} (h:BOk H n c O bs ck) (hs:H' 0=H 0) (hc:∀ f,c' f % 2=c f % 2):BOk H' n c' O bs ck :=
 ⟨hs.trans h.box,h.len,h.asc,h.below,h.nd,h.all,fun f=>by rw [hc]; exact h.odd f⟩
theorem BOk.put {H H':Hp} {n:Nat} {c c':Spx→Nat} {O:List Spx} {bs:List Nat} {ck:Nat} {f:Spx} (h:BOk H n c O bs ck) (hf:f ∉ O) (hl:f.length=n) (hH:H' 0=some [.bmap ((O.map kZ).map eK ++ [eK (kZ f)]) (O.map aF ++ [aF f]) (bs ++ [ck]) (ck + 1)]) (hc:∀ g,c' g=c g + if g=f then 1 else 0):BOk H' n c' (O ++ [f]) (bs ++ [ck]) (ck + 1):=by
 refine ⟨by rw [hH]; simp,by rw [dr,dr,h.len]; rfl,?_,fun s hs=>?_,?_,fun g hg=>?_,fun g=>?_⟩
 ·exact List.pairwise_append.2 ⟨h.asc,List.pairwise_singleton _ _,fun a ha b hb=>by rw [dL.1 hb]; exact h.below a ha⟩
 ·rcases fp.1 hs with q | q
  ·have:=h.below s q; omega
  ·rw [dL.1 q]; omega
 ·exact xa.2 ⟨h.nd,by simp,fun a ha b hb e=>by rw [e,dL.1 hb] at ha; exact hf ha⟩
 ·rcases fp.1 hg with q | q
  ·exact h.all g q
  ·rw [dL.1 q]; exact hl
 ·rw [fp,dL,h.odd,hc];by_cases e:g=f
  ·subst e;have:¬ c g % 2=1:=fun q=>hf ((h.odd g).2 q);rw [if_pos rfl];exact ⟨fun _=>by omega,fun _=>.inr rfl⟩
  ·rw [if_neg e]; simp [e]
theorem gB {α β:Type} {f:α→β}:∀ {l:List α} {i:Nat},(l.map f).eraseIdx i=(l.eraseIdx i).map f
 | [],_=>rfl
 | a :: l,0=>rfl
 | a :: l,i + 1=>by show f a :: (l.map f).eraseIdx i=f a :: (l.eraseIdx i).map f; rw [gB]
theorem BOk.del {H H':Hp} {n:Nat} {c c':Spx→Nat} {O:List Spx} {bs:List Nat} {ck i:Nat} {f:Spx} (h:BOk H n c O bs ck) (hf:f ∈ O) (hi:O.idxOf f=i) (hH:H' 0=some [.bmap (((O.map kZ).map eK).eraseIdx i) ((O.map aF).eraseIdx i) (bs.eraseIdx i) ck]) (hc:∀ g,c' g=c g + if g=f then 1 else 0):BOk H' n c' (O.erase f) (bs.eraseIdx i) ck:=by
 have hil:i < O.length:=by rw [← hi]; exact pN.2 hf
 have he:O.erase f=O.eraseIdx i:=List.erase_eq_eraseIdx_of_idxOf hi;refine ⟨?_,?_,h.asc.sublist (List.eraseIdx_sublist _ _),fun s hs=>h.below s ((List.eraseIdx_sublist _ _).subset hs),h.nd.erase _,fun g hg=>h.all g (List.mem_of_mem_erase hg),fun g=>?_⟩
 ·rw [hH,he];rw [gB,gB,gB]
 ·rw [he,List.length_eraseIdx_of_lt hil,List.length_eraseIdx_of_lt (by rw [h.len]; exact hil),h.len]
 ·rw [h.nd.mem_erase_iff,h.odd,hc];by_cases e:g=f
  ·subst e;have:=(h.odd g).1 hf;rw [if_pos rfl];constructor
   ·exact fun q=>absurd rfl q.1
   ·intro q; omega
  ·rw [if_neg e]; simp [e]
theorem lz {α:Type} [DecidableEq α] {a b:List α} (h:a.Nodup) (hs:∀ x ∈ a,x ∈ b):a.length ≤ b.length:=xy h hs
theorem Ct {l:List Spx} {s f:Spx}:kJ (l ++ [s]) f=kJ l f + (bo s).count f:=by unfold kJ; simp
theorem zI {D:List Spx} {f g:Spx} {m:Nat}:m + (D ++ [f]).count g=m + D.count g + if g=f then 1 else 0:=by
 rw [List.count_append,List.count_singleton,n6]
 congr 2
 by_cases e:g=f
 ·subst e; simp
 ·rw [if_neg e,if_neg]; simp only [beq_iff_eq]; exact fun h=>e h.symm
theorem uq {O:List Spx} {i:Nat} (h:i < O.length):(O.map aF).getD i .undef=aF (O.getD i default):=by simp [List.getD,h]
attribute [local irreducible] aM am bm be aX a6 aG aZ bf bI Go.Abs.Fn bc Go.Abs.Pure aB aQ Yl
theorem EF {n:Nat} {c:Spx→Nat} {O:List Spx} {bs:List Nat} {ck:Nat} {f:Spx} {H:Hp} (hn:n ≤ 8) (h:BOk H n c O bs ck) (hf:f.length=n) :
    cJ (.st [.int,.int,.int,.int,.int,.int,.int,.int,.int,.int,.int,.int,.int,.int,.int,.int]) (eK (kZ f)) ((O.map kZ).map eK)=some (if f ∈ O then some (O.idxOf f) else none):=by
 rw [E5,DA hn hf h.all];by_cases e:f ∈ O
 ·rw [if_pos e,if_pos ((EB hn h.all hf).2 e)]
 ·rw [if_neg e,if_neg fun q=>e ((EB hn h.all hf).1 q)]
set_option maxHeartbeats 1000000 in
theorem rl (a:List Spx) (n:Nat) (hn:n ≤ 8) (ha:a.length ≤ 4096) (hv:∀ s ∈ a,bQ ce s) (hl:∀ s ∈ a,s.length=n + 1 ∨ s.length < 2) (h8:∀ s ∈ a,s.length ≤ 8):Pure Tryz.prog 31 [aC a] (aC (cp a)):=by
 refine Pure.of_c2 follows Kv (br rfl) ?_;simp only [b31,aU];refine dt ?_
 repeat' (first|apply a_n|refine zO ?_|refine vY ?_|fail)
 refine dt ?_
 repeat' (first|apply a_n|refine zO ?_|fail)
 refine GL ?_;refine qQ (cs:=[.nilm]) rfl rfl rfl ?_
 repeat' (first|apply a_n|refine zO ?_|refine stY ?_|fail)
 refine cr (fun T H nx=>T 3=.ptr 1 1 0∧2 ≤ nx∧H 1=some [.mp 0]∧∃ O bs ck,BOk H n (kJ a) O bs ck) ?_ ?_
 ·have zz:=@aj; repeat' (first|refine zW ?_|apply a_n|refine zO ?_|refine vY ?_|fail)
  refine bC (X:=Nat) (fun k=>[(3,.ptr 1 1 0),(14,aC a),(15,.int .i64 a.length),(16,.int .i64 k)]) (fun k H nx=>k ≤ a.length∧2 ≤ nx∧H 1=some [.mp 0]∧∃ O bs ck,BOk H n (kJ (a.take k)) O bs ck) (fun k=>a.length - k) 0 ⟨cf _,aP _,by rw [ai]; rfl,[],[],0,⟨by rw [ae (by omega),ae (by omega),ai]; rfl,rfl,qJ,fun s h=>(by cases h),List.nodup_nil,fun s h=>(by cases h),fun f=>⟨fun h=>(by cases h),fun h=>absurd h (by rw [List.take_zero]; exact (by decide:¬ (0:Nat) % 2=1))⟩⟩⟩ (by (iterate 4 refine And.intro rfl ?_); trivial) ?_;rintro k H nx ⟨h1,h2,h3,O,bs,ck,h4⟩;by_cases hk:k < a.length
  rotate_left
  ·rw [iv (by omega)] at h4
   repeat' (first|refine zW ?_|apply a_n|apply a_x|refine zO ?_|refine vY ?_|(refine zGY ?_ ?_ <;> (intro _hg; try (exfalso; omega)))|fail)
   exact ⟨rfl,h2,h3,O,bs,ck,h4⟩
  have ix:=fq hk;have hts:=dE hk;have hvs:=hv _ (aE hk);have hls:=hl _ (aE hk);have h8s:=h8 _ (aE hk);generalize a.getD k default=s at *;clear zz;have zz:=@ix; repeat' (first|refine zW ?_|apply a_n|refine zO ?_|refine vY ?_|(refine zGY ?_ ?_ <;> (intro _hg; try (exfalso; omega)))|fail)
  refine bn ev0 ev0 (uo s H nx) ?_;rintro _ H1 nx1 ⟨rfl,rfl,rfl⟩
  repeat' (first|refine zW ?_|apply a_n|refine zO ?_|fail)
  refine pB (nx + 1) (nx + 2) rfl rfl ev0 (fun c0 cj hy=>?_);refine Abs.Fn.mono (ue (nx:=nx + 2) (y:=nx + 1) (sb:=nx) (s:=s) (by omega) (fun D H' nx'=>nx + 2 ≤ nx'∧H' nx=some [aF s]∧H' (nx + 1)=some [c0]∧H' 1=some [.mp 0]∧∃ O bs ck,BOk H' n (fun f=>kJ (a.take k) f + D.count f) O bs ck) ?_ ?_ ?_ ?_) ?_
  ·rintro D H' nx' ⟨g1,g2,g3,g4⟩;exact g2
  ·rintro D H' H'' n1 n2 ⟨g1,g2,g3,g4,O,bs,ck,g5⟩ hle hsm;exact ⟨by omega,(hsm _ (by omega)).trans g2,(hsm _ (by omega)).trans g3,(hsm _ (by omega)).trans g4,O,bs,ck,g5.same (hsm _ (by omega)) fun _=>rfl⟩
  ·rintro D f H' nx' ⟨g1,g2,g3,g4,O,bs,ck,g5⟩ hlt hfe hDe;refine hy _ _ _ _ g3 rfl ?_;clear zz;clear hy
   have h2s:2 ≤ s.length:=Nat.le_of_not_lt fun h=>by
    have:fcs s=[]:=by unfold fcs; rw [if_pos h]
    rw [this] at hlt; simp at hlt
   have hfl:f.length=n:=by
    rw [hfe,AA h2s (by rw [u4 h2s] at hlt; exact hlt),dr,iO,xU];rw [u4 h2s] at hlt;omega
   clear hfe hDe
   repeat' (first|apply a_n|refine zO ?_|refine vY ?_|fail)
   refine ⟨g3,?_⟩;have hmf:=EF hn g5 hfl;have q0:=(dj (H:=H') (b:=nx + 1) (x:=0) (by omega)).trans g5.box;have q1:=(dj (H:=H') (b:=nx + 1) (x:=1) (by omega)).trans g4;have q2:=(dj (H:=H') (b:=nx + 1) (x:=nx) (by omega)).trans g2;generalize cK H' (nx + 1)=H2 at *
   repeat' (first|refine zW ?_|apply a_n|refine zO ?_|refine alY ?_|fail)
   generalize hH3:aq H2 nx' z16=H3;have p0:H3 0=H2 0:=by rw [← hH3]; exact ae (by omega)
   have p1:H3 1=H2 1:=by rw [← hH3]; exact ae (by omega)
   have p2:H3 nx=H2 nx:=by rw [← hH3]; exact ae (by omega)
   have p3:H3 nx'=some z16:=by rw [← hH3]; exact ai
   clear hH3;refine Gw rfl p3 rfl rfl ?_
   repeat' (first|apply a_n|refine zO ?_|refine vY ?_|fail)
   refine Gp (n:=f.length) (H':=aq H3 nx' ((gx 8 f).map (AV.int .i64))) ?_ ?_
   ·((try simp only [da,ZA,reduceEqDiff,↓reduceIte,reduceAdd,reduceLeDiff]); (try with_reducible rfl))
    have hnn:fD (aF f)=some f.length:=by unfold aF il; simp [fD]
    have htr:ui f.length (aF f)=aF f:=by unfold aF il; simp [ui]; exact iv (by simp)
    have hmin:min f.length 8=f.length:=Nat.min_eq_left (by omega);have hal:fD (.msl nx' 16 2 0 8)=some 8:=rfl
    have hlp:bK z16 0 (cX f)=(gx 8 f).map (AV.int .i64):=by
     rw [← wW (n:=8) (s:=f) (by omega),GZ];simp only [bK,List.take_zero,List.nil_append,cb,jY]
    by_cases hf0:f.length=0
    ·obtain rfl:=fo.1 hf0;have e0:(gx 8 []).map (AV.int .i64)=z16:=rfl;rw [e0,← Bq p3];simp only [ku,hal,hnn,hmin];rfl
    ·simp only [ku,hal,hnn,hmin,if_neg hf0,p3,htr,xq];rw [if_pos (by refine ⟨?_,?_,?_,?_⟩ <;> first | rfl | trivial | omega | exact ma f),hlp]
   have hl16:((gx 8 f).map (AV.int .i64)).length=16:=by rw [bO,oX]
   have ht:((gx 8 f).map (AV.int .i64)).take 16=(gx 8 f).map (AV.int .i64):=iv (by omega);have r0:=(ae (H:=H3) (b:=nx') (x:=0) (cs:=(gx 8 f).map (AV.int .i64)) (by omega)).trans (p0.trans q0);have r1:=(ae (H:=H3) (b:=nx') (x:=1) (cs:=(gx 8 f).map (AV.int .i64)) (by omega)).trans (p1.trans q1);have r2:=(ae (H:=H3) (b:=nx') (x:=nx) (cs:=(gx 8 f).map (AV.int .i64)) (by omega)).trans (p2.trans q2);have r3:aq H3 nx' ((gx 8 f).map (AV.int .i64)) nx'=some ((gx 8 f).map (AV.int .i64)):=ai;generalize aq H3 nx' ((gx 8 f).map (AV.int .i64))=H4 at *;have hek:eK (kZ f)=.agg ((gx 8 f).map (AV.int .i64)):=rfl;have hkf:=A0 (kZ f);rw [hek] at hmf hkf;have hcnt:∀ g,kJ (a.take k) g + (D ++ [f]).count g=kJ (a.take k) g + D.count g + if g=f then 1 else 0:=fun g=>zI
   by_cases hf:f ∈ O
   ·rw [if_pos hf] at hmf;have hil:O.idxOf f < O.length:=pN.2 hf
    have hgv:mget .esl true (some (O.idxOf f)) (O.map aF)=.tup [aF (O.getD (O.idxOf f) default),.bool true]:=by
     rw [← uq hil]; rfl
    generalize hKK:(gx 8 f).map (AV.int .i64)=KK at *;have zz:=aI @r1 (aI @r3 (aI @hl16 @ht)); repeat' (first|refine zW ?_|apply a_n|refine zO ?_|refine vY ?_|fail)
    refine AG ev0 r0 ev0 hkf hmf ?_;rw [hgv];clear zz;have zz:=aI @r1 (aI @r3 (aI @hl16 @ht)); repeat' (first|refine zW ?_|apply a_n|refine zO ?_|refine vY ?_|refine cTY ?_|fail)
    refine G8 ev0 r0 ev0 hkf hmf ?_
    repeat' (first|apply a_n|refine zO ?_|fail)
    exact ⟨rfl,by omega,by rw [ae (by omega),ae (by omega)]; exact r2,ai,by rw [ae (by omega),ae (by omega)]; exact r1,O.erase f,bs.eraseIdx (O.idxOf f),ck,g5.del hf rfl (by rw [ae (by omega),ai]; rfl) hcnt⟩
   ·rw [if_neg hf] at hmf;have hgv:mget .esl true none (O.map aF)=.tup [.esl,.bool false]:=rfl;generalize hKK:(gx 8 f).map (AV.int .i64)=KK at *;have zz:=aI @r1 (aI @r3 (aI @hl16 @ht)); repeat' (first|refine zW ?_|apply a_n|refine zO ?_|refine vY ?_|fail)
    refine AG ev0 r0 ev0 hkf hmf ?_;rw [hgv];clear zz;have zz:=aI @r1 (aI @r3 (aI @hl16 @ht)); repeat' (first|refine zW ?_|apply a_n|refine zO ?_|refine vY ?_|refine cFY ?_|fail)
    refine F9 ev0 r0 ev0 ev0 hkf hmf ?_
    repeat' (first|apply a_n|refine zO ?_|fail)
    exact ⟨rfl,by omega,by rw [ae (by omega),ae (by omega)]; exact r2,ai,by rw [ae (by omega),ae (by omega)]; exact r1,O ++ [f],bs ++ [ck],ck + 1,g5.put hf hfl (by rw [ae (by omega),ai,hek]; rfl) hcnt⟩
  ·exact ⟨aP _,by rw [ae (by omega),ai],ai,by rw [ae (by omega),ae (by omega)]; exact h3,O,bs,ck,h4.same (by rw [ae (by omega),ae (by omega)]) fun f=>by simp⟩
  ·rintro r H' nx' ⟨g1,g2,g3,g4,O,bs,ck,g5⟩;refine .inl ⟨g3,?_⟩
   repeat' (first|apply a_n|refine zO ?_|refine vY ?_|fail)
   exact ⟨k + 1,by omega,⟨by omega,by omega,by rw [dj (by omega)]; exact g4,O,bs,ck,g5.same (dj (by omega)) fun f=>by rw [hts,Ct,nZ.count_eq]⟩,ag0⟩
 rintro T H nx ⟨t3,h2,h3,O,bs,ck,h4⟩
 have hO70:O.length ≤ 300000:=by
  have he:=f0 hv;have h5:O.length ≤ (cp a).length:=lz h4.nd fun f hf=>(he.2 f).2 ((h4.odd f).1 hf);have:=uT h8;omega
 have zz:=aI @t3 @h3; repeat' (first|refine zW ?_|apply a_n|refine zO ?_|refine vY ?_|fail)
 refine FM ev0 h4.box ?_
 repeat' (first|refine zW ?_|apply a_n|refine zO ?_|fail)
 have hbn:bs.Nodup:=tH (fun {x y} (h:x < y) e=>by omega) h4.asc;refine bC (X:=List Nat × List Spx × AV) (fun x=>[(10,x.2.2),(40,.itr nx)]) (fun x H' nx'=>H' nx=some [.biter 0 ck x.1]∧nx < nx'∧BOk H' n (kJ a) O bs ck∧x.1.Nodup∧(∀ s ∈ x.1,s ∈ bs)∧x.2.1=x.1.map (fun s=>O.getD (bs.idxOf s) default)∧Row H' 1 x.2.2 (x.2.1.map aF)∧∀ b,dF x.2.2=some b→nx < b∧b < nx') (fun x=>bs.length - x.1.length) ([],[],.esl) ⟨ai,tC _,h4.same (ae (by omega)) fun _=>rfl,List.nodup_nil,fun s h=>(by cases h),rfl,Row.nil,fun b h=>(by cases h)⟩ (by (iterate 2 refine And.intro rfl ?_); trivial) ?_;rintro ⟨seen,D,sv⟩ H1 nx1 ⟨hit,hnx,k4,hsn,hsb,hD,hrow,hbd⟩;dsimp only at hit hsn hsb hD hrow hbd ⊢;have hsl:seen.length ≤ bs.length:=lz hsn hsb;have hDl:D.length=seen.length:=by rw [hD,bO]
 have hbl:=k4.len
 repeat' (first|refine zW ?_|apply a_n|refine zO ?_|fail)
 refine FF ev0 hit k4.box (fun i s hi hns=>?_) (fun hall=>?_)
 ·repeat' (first|refine zW ?_|apply a_n|refine zO ?_|refine vY ?_|refine cTY ?_|fail)
  refine Fa (i:=i) (s:=s) ev0 ai (by rw [ae (by omega)]; exact k4.box) (by simp) hi ?_;obtain ⟨hil,his⟩:=bA.1 hi;have hgx:=uq (O:=O) (i:=i) (by omega)
  have hidx:bs.idxOf s=i:=by
   have h5:=pN.2 (show s ∈ bs by rw [← his]; exact mM hil);have h6:bs[bs.idxOf s]=bs[i]:=by rw [List.getElem_idxOf h5,his]
   exact (List.getElem_inj hbn).1 h6
  have hsnd:(seen ++ [s]).Nodup:=xa.2 ⟨hsn,by simp,fun x hx y hy e=>by rw [e,dL.1 hy] at hx; exact hns hx⟩
  have hssb:∀ x ∈ seen ++ [s],x ∈ bs:=fun x hx=>by
   rcases fp.1 hx with q | q
   ·exact hsb x q
   ·rw [dL.1 q,← his]; exact mM hil
  have hsl2:=lz hsnd hssb;rw [dr,List.length_singleton] at hsl2;clear zz;have zz:=aI @hgx (aI @b0 @bD); repeat' (first|apply a_n|refine zO ?_|refine vY ?_|refine blY ?_|fail)
  refine iq rfl ev0 (hrow.same fun b hb=>?_) ev0 dp rfl rfl jt (by rw [bO]; omega) (by rw [bO]; omega) ?_
  ·have:=hbd b hb;rw [ae (by omega),ae (by omega)]
  rintro s2 H2 nx2 hr2 i1 i2 i3 i4;have lo:∀ x,x ≤ nx→H2 x=aq H1 nx [.biter 0 ck (seen ++ [s])] x:=fun x hx=>(i3 x (by omega) (fun h=>by have:=hbd x h; omega)).trans (ae (by omega))
  repeat' (first|apply a_n|refine zO ?_|refine vY ?_|fail)
  refine ⟨(seen ++ [s],D ++ [O.getD i default],s2),by dsimp only; rw [dr,List.length_singleton]; omega,⟨(lo nx (aP _)).trans ai,by omega,k4.same ((lo 0 (by omega)).trans (ae (by omega))) fun _=>rfl,hsnd,hssb,?_,?_,fun b hb=>?_⟩,ag0⟩
  ·dsimp only;rw [hD,ed,List.map_singleton,hidx]
  ·dsimp only;rw [ed]; exact hr2
  ·rcases i4 b hb with h | h
   ·have:=hbd b h; omega
   ·omega
 ·have hperm:seen.Perm bs:=(List.perm_ext_iff_of_nodup hsn hbn).2 fun x=>⟨hsb x,hall x⟩
  have hDO:D.Perm O:=by
   rw [hD];refine (hperm.map _).trans (List.Perm.of_eq ?_);refine List.ext_getElem (by rw [bO]; exact hbl) fun j g1 g2=>?_;rw [bO] at g1
   have h5:bs.idxOf bs[j]=j:=by
    have h5:=pN.2 (mM g1);have h6:bs[bs.idxOf bs[j]]=bs[j]:=List.getElem_idxOf h5;exact (List.getElem_inj hbn).1 h6
   rw [List.getElem_map,h5];simp [List.getD,g2]
  have hDn:D.Nodup:=hDO.nodup_iff.2 k4.nd;have hDm:∀ s,s ∈ D ↔ s ∈ cp a:=fun s=>by rw [hDO.mem_iff,k4.odd,(f0 hv).2]
  have hfin:=Fh iM (mA hv)
  have hsort:Abs.Fn Tryz.prog 50 [sv,.func 38 []] H1 nx1 fun _ H' nx'=>Row H' 1 sv ((cp a).map aF):=by
   generalize hcs:D.map aF=cs at hrow;cases hrow with
   | nil =>
    have hD0:D=[]:=List.map_eq_nil_iff.1 hcs;refine Abs.Fn.mono (oE rfl) ?_;rintro _ _ _ ⟨rfl,rfl⟩
    have:cp a=[]:=by
     rw [tI];intro s h;have:=(hDm s).2 h;rw [hD0] at this; cases this
    rw [this]; exact Row.nil
   | box b len cs k1 k2 =>
    obtain rfl:len=D.length:=by rw [← hcs,bO] at k2; omega
    have hb:=hbd b rfl;subst hcs;by_cases h0:D.length=0
    ·have hD0:D=[]:=fo.1 h0
     have he:cp a=[]:=by
      rw [tI];intro s h;have:=(hDm s).2 h;rw [hD0] at this; cases this
     have hrw:Row H1 1 (.msl b (D.length * 1) 1 0 D.length) ((cp a).map aF):=by
      have:=Row.box (H:=H1) (sz:=1) b D.length _ k1 (by rw [bO,Nat.mul_one]);rw [he]; rwa [hD0] at this ⊢
     refine Abs.Fn.mono (oE (by rw [h0]; rfl)) ?_;rintro _ _ _ ⟨_,e⟩;rw [e]; exact hrw
    ·have hg:∀ s ∈ D,Shn s:=fun s h=>show s.length ≤ _ by have:=k4.all s (hDO.mem_iff.1 h); omega
     have hsf:=AC HP (L:=D) (b:=b) (nx:=nx1) (n:=D.length) k1 hb.2 rfl (by omega) hg (by omega);rw [Nat.mul_one];refine Abs.Fn.mono hsf ?_;rintro _ H' nx' ⟨L',ps,p1,p2⟩;have hlen:=p1.length_eq;have:=qp p1 (by rw [hlen]; exact p2) hDn hDm;rw [hfin] at this;rw [← this,← hlen];have:=Row.box (H:=H') (sz:=1) b L'.length (L'.map aF) ps.at_ (by simp)
     rwa [Nat.mul_one] at this
  repeat' (first|refine zW ?_|apply a_n|apply a_x|refine zO ?_|refine vY ?_|refine cFY ?_|fail)
  refine bn ev0 ev0 hsort ?_;rintro r H' nx' hr
  repeat' (first|refine zW ?_|apply a_n|refine zO ?_|refine vY ?_|refine ak rfl ?_|refine r1Y ?_|fail)
  exact l6 hr
end Go.Proofs.YtlodfaaceehfmaaGreat
namespace Go.Proofs.YtlodfaaceehfmaaGreat
open Go Go.Abs
theorem BN {s f:Spx} (hs:bR s=0) (hf:f ∈ bo s):bR f=0:=by
 obtain ⟨h1,h2,h3⟩:=gc.1 hf;obtain ⟨p1,p2,p3,p4⟩:=cV hs;exact xx ⟨by omega,by omega⟩ (p3.sublist h2) fun v hv=>p4 v (h2.subset hv)
theorem pn {a:List Spx} (ha:∀ s ∈ a,bR s=0):∀ f ∈ cp a,bR f=0:=fun f hf=>by
 obtain ⟨s,h1,h2⟩:=iE (fO ha) hf;exact BN (ha s h1) h2
theorem uN {a:List Spx} {n:Nat} (ha:∀ s ∈ a,bQ ce s) (hn:∀ s ∈ a,s.length=n):∀ f ∈ cp a,f.length=n - 1:=fun f hf=>by
 obtain ⟨s,h1,h2⟩:=iE ha hf;rw [(gc.1 h2).2.2,hn s h1]
theorem xO {a:List Spx} (h:∀ s ∈ a,bR s=0):∀ s ∈ a,s.length ≤ 8:=fun s hs=>(cV (h s hs)).2.1
def iH (a:List Spx):List Spx × Int:=if gf a ≠ 0 then ([],gf a) else if 4096 < (cp a).length then ([],5) else (cp a,0)
def z9 (a:List Spx):Bool × Int:=if gf a ≠ 0 then (false,gf a) else (decide (cp a=[]),0)
attribute [local irreducible] aM am bm be aX a6 aG aZ bf bI Go.Abs.Fn bc Go.Abs.Pure aB aQ Yl
theorem t5 {a:List Spx} (h:gf a=0):Pure Tryz.prog 31 [aC a] (aC (cp a)):=by
 obtain ⟨h1,h2,h3,h4⟩:=nK h;by_cases h0:a=[]
 ·subst h0;exact rl [] 0 (by omega) (by simp) (by simp) (by simp) (by simp)
 ·have hm:a.getD 0 default ∈ a:=aE (nB.2 h0);have h5:=cV (h2 _ hm);exact rl a ((a.getD 0 default).length - 1) (by omega) h1 (fO h2) (fun s hs=>.inl (by rw [h4 s hs]; omega)) (xO h2)
theorem ye {a:List Spx} (h:gf a=0):Shn (cp a)∧∀ s ∈ cp a,s.length ≤ 1000000:=by
 obtain ⟨h1,h2,h3,h4⟩:=nK h;have:=uT (xO h2);exact ⟨show _ ≤ _ by omega,ym (pn h2)⟩
theorem v6 (a:List Spx) (ha:ShC a):Pure Tryz.prog 12 [aC a] (.tup [aC (iH a).1,.int .i64 (iH a).2]):=by
 refine Pure.of_c2 follows Ko (br rfl) ?_;simp only [b12,aU];have f1:=sU a ha;unfold iH;by_cases h:gf a=0
 rotate_left
 ·have z:decide (gf a ≠ 0)=true:=bt h;rw [if_pos h];have zz:=@z; repeat' (first|refine zW ?_|apply a_n|apply a_r|refine zO ?_|refine vY ?_|refine cY ?_ (hp:=f1) (hs:=by (first | refine af ?_ rfl | apply ag); (repeat' (first | exact ac | apply an | apply ah | exact aW _)); first | done | fail)|refine cTY ?_|refine ak rfl ?_|refine r2Y ?_|fail)
  exact ee (.eslsl _) rfl
 rw [if_neg (fun q=>q h)];have f2:=t5 h;have f3:=Cn (cp a) (ye h).1 (ye h).2;have z:decide ((0:Int) ≠ 0)=false:=rfl;rw [h] at f1
 have hfin:(if 4096 < (cp a).length then (([]:List Spx),(5:Int)) else (cp a,0))=(if 4096 < (cp a).length then [] else cp a,if 4096 < (cp a).length then 5 else 0):=by
  split <;> rfl
 rw [hfin];have zz:=@z; repeat' (first|refine zW ?_|apply a_n|refine zO ?_|refine vY ?_|refine cY ?_ (hp:=by first | exact f1 | exact f2 | exact f3) (hs:=by (first | refine af ?_ rfl | apply ag); (repeat' (first | exact ac | apply an | apply ah | exact aW _)); first | done | fail)|refine cFY ?_|refine ak rfl ?_|refine r2Y ?_|fail)
 exact ee (aW _).snap rfl
theorem H6 (a:List Spx) (ha:ShC a):Pure Tryz.prog 59 [aC a] (.tup [.bool (z9 a).1,.int .i64 (z9 a).2]):=by
 refine Pure.of_c2 follows Kx (br rfl) ?_;simp only [b59,aU];have f1:=sU a ha;unfold z9;by_cases h:gf a=0
 rotate_left
 ·have z:decide (gf a ≠ 0)=true:=bt h;rw [if_pos h];have zz:=@z; repeat' (first|refine zW ?_|apply a_n|apply a_r|refine zO ?_|refine vY ?_|refine cY ?_ (hp:=f1) (hs:=by (first | refine af ?_ rfl | apply ag); (repeat' (first | exact ac | apply an | apply ah | exact aW _)); first | done | fail)|refine cTY ?_|refine ak rfl ?_|refine r2Y ?_|fail)
  exact DZ rfl rfl
 rw [if_neg (fun q=>q h)];have f2:=t5 h;have z:decide ((0:Int) ≠ 0)=false:=rfl;have z2:decide ((((cp a).length:Nat):Int)=0)=decide (cp a=[]):=decide_eq_decide.2 (by rw [← fo]; omega);rw [h] at f1;have zz:=aI @z (aI @z2 @aj); repeat' (first|refine zW ?_|apply a_n|refine zO ?_|refine vY ?_|refine cY ?_ (hp:=by first | exact f1 | exact f2) (hs:=by (first | refine af ?_ rfl | apply ag); (repeat' (first | exact ac | apply an | apply ah | exact aW _)); first | done | fail)|refine cFY ?_|refine ak rfl ?_|refine r2Y ?_|fail)
 exact DZ rfl rfl
end Go.Proofs.YtlodfaaceehfmaaGreat
namespace Go.Proofs.YtlodfaaceehfmaaGreat
open Go Go.Abs
def on3 (b1:Nat) (c1:List AV) (b2:Nat) (c2:List AV) (b3:Nat) (c3:List AV):Hp:=fun x=>if x=b1 then some c1 else if x=b2 then some c2 else if x=b3 then some c3 else none
theorem zZ {P:Program} {T:Tm} {H:Hp} {nx:Nat} (b1 b2 b3:Nat) {c1 c2 c3:List AV} {K:CP} {m:Nat} {l:List Op2} {C:List (Nat × Nat)} (h1:H b1=some c1) (h2:H b2=some c2) (h3:H b3=some c3) (n1:b2 ≠ b1) (n2:b3 ≠ b1) (n3:b3 ≠ b2) (k:∀ S:Hp,S b1=some c1→S b2=some c2→S b3=some c3→(∀ H':Hp,H' b1=some c1→H' b2=some c2→H' b3=some c3→Sub S H')→a9 P S (C.map fun k=>(l.getD k.1 ⟨none,none,.dead⟩,k.2)) T H nx fun T H nx=>K .normal T H nx):aM P (.mixS m l C) T H nx K:=by
 have hsub:∀ H':Hp,H' b1=some c1→H' b2=some c2→H' b3=some c3→Sub (on3 b1 c1 b2 c2 b3 c3) H':=fun H' a b c x cs h=>by
  unfold on3 at h;split at h
  ·rename_i e; rw [e,a]; exact h
  split at h
  ·rename_i e; rw [e,b]; exact h
  split at h
  ·rename_i e; rw [e,c]; exact h
  ·cases h
 refine zt (on3 b1 c1 b2 c2 b3 c3) rfl (hsub H h1 h2 h3) (k _ ?_ ?_ ?_ hsub)
 ·unfold on3; rw [if_pos rfl]
 ·unfold on3; rw [if_neg n1,if_pos rfl]
 ·unfold on3; rw [if_neg n2,if_neg n3,if_pos rfl]
theorem zV {α:Type} {p q:Prop} [Decidable p] [Decidable q] (h:p ↔ q) {a b:α}:(if p then a else b)=if q then a else b:=by
 by_cases hq:q
 ·rw [if_pos hq,if_pos (h.2 hq)]
 ·rw [if_neg hq,if_neg fun x=>hq (h.1 x)]
def C0 (c:List Spx) (d:Int):List Spx × Int:=if d < 0 then ([],0) else eX c (d + 1)
def aD (c:List Spx) (d:Int):List Spx:=if d ≤ 0 then [] else fV c d.toNat
def lg (c:List Spx) (d:Int):(Int × List (List Int)) × Int:=if aO c ≠ 0 then ((0,[]),aO c) else if d < 0 ∨ 8 ≤ d then ((0,[]),2) else ((((aD c (d + 1)).length:Nat),dQ (aD c (d + 1)) (aD c d)),0)
theorem Bb {c:List Spx} {d:Int} (hc:aO c=0) (h1:-1 ≤ d) (h2:d < 8):C0 c d=(aD c (d + 1),0):=by
 unfold C0 aD eX;by_cases h:d < 0
 ·rw [if_pos h,if_pos (by omega)]
 ·rw [if_neg h,if_neg (fun q=>q hc),if_neg (by omega),if_neg (by omega)]
theorem mB {c:List Spx} {d:Int}:bQ bG (aD c d):=by
 unfold aD; split
 ·exact bQ.nil
 ·exact DQ
theorem my {c:List Spx} {d:Int} (hc:c.length ≤ 50) (h:aO c=0):(aD c d).length ≤ 3500:=by
 unfold aD; split
 ·exact cf _
 ·exact kO hc (xO (dq h).2.1)
theorem jn {c:List Spx} {d:Int} {s:Spx}:s ∈ aD c d ↔ 0 < d∧s.length=d.toNat∧∃ t ∈ c,s.Sublist t:=by
 unfold aD; split
 ·exact ⟨fun h=>(by cases h),fun h=>absurd h.1 (by omega)⟩
 ·rw [rh];constructor
  ·rintro ⟨t,t1,t2⟩;exact ⟨by omega,(eb.1 t2).2,t,t1,(eb.1 t2).1⟩
  ·rintro ⟨_,h1,t,t1,t2⟩;exact ⟨t,t1,eb.2 ⟨t2,h1⟩⟩
theorem iI {c:List Spx} {d:Int} (h:aO c=0):∀ s ∈ aD c d,bR s=0:=fun s hs=>by
 obtain ⟨h1,h2,t,t1,t2⟩:=jn.1 hs;obtain ⟨p1,p2,p3,p4⟩:=cV ((dq h).2.1 t t1);have:=t2.length_le;exact xx ⟨by omega,by omega⟩ (p3.sublist t2) fun v hv=>p4 v (t2.subset hv)
theorem zp {c:List Spx} {d:Int} {s f:Spx} (hs:s ∈ aD c (d + 1)) (hf:f ∈ bo s):f ∈ aD c d:=by
 obtain ⟨h1,h2,t,t1,t2⟩:=jn.1 hs;obtain ⟨g1,g2,g3⟩:=gc.1 hf;exact jn.2 ⟨by omega,by omega,t,t1,g2.trans t2⟩
attribute [local irreducible] aM am bm be aX a6 aG aZ bf bI Go.Abs.Fn bc Go.Abs.Pure aB aQ Yl
theorem xR (l:List Spx) (v:Spx) (hl:Shn l) (hs:∀ c ∈ l,Shn c) (hv:Shn v) (ha:bQ bG l):∃ b:Nat,Pure Tryz.prog 26 [aC l,aF v] (.tup [.int .i64 b,.bool (decide (v ∈ l))])∧(v ∈ l→b < l.length∧l.getD b default=v):=by
 obtain ⟨b,hb,h1,h2⟩:=sn (fun i=>bG (l.getD i default) v) l.length (fun i j hij hj h=>iM.trans (dJ ha hij hj) h);have hc:=y9 l v hl hs hv hb h1 h2
 have he:(decide (b < l.length) && decide (bG (l.getD b default) v=0))=decide (v ∈ l)∧(v ∈ l→b < l.length∧l.getD b default=v):=by
  by_cases hm:v ∈ l
  ·obtain ⟨i,hi,e⟩:=jW hm;have e':l.getD i default=v:=by simp [List.getD,hi,e]
   have hbi:b=i:=by
    rcases sg b i with h | h | h
    ·have h3:=h2 b (aP _) (by omega);have h4:=dJ ha h hi;rw [e'] at h4; omega
    ·exact h
    ·have h3:=h1 i h;rw [e',f9] at h3; omega
   subst hbi;rw [bt hi,bt hm,e',bt (f9 v)];exact ⟨rfl,fun _=>⟨hi,rfl⟩⟩
  ·rw [bj hm];refine ⟨?_,fun h=>absurd h hm⟩;by_cases hlt:b < l.length
   ·rw [bt hlt,Bool.true_and,bj];intro h;exact hm (by rw [← qW h]; exact aE hlt)
   ·rw [bj hlt,Bool.false_and]
 rw [he.1] at hc;refine ⟨b,?_,he.2⟩;refine Pure.of_c2 follows JE (br rfl) ?_;simp only [b26,aU];have zz:=aI @b0 (aI @bD (aI @au @ao)); repeat' (first|refine zW ?_|apply a_n|refine zO ?_|refine vZ ?_|refine cZ ?_ (hp:=hc) (hs:=by (first | refine af ?_ rfl | apply ag); (repeat' (first | exact ac | apply an | apply ah | exact aW _ | exact aH _ | exact Dat.func DatL.nil)); first | done | fail)|refine ak rfl ?_|refine r2Z ?_|fail)
 exact cm (ar (.int _ _) (ar (.bool _) ac))
theorem C7 (c:List Spx) (d:Int) (hd:d ≤ 1000) (hc:c.length ≤ 50) (hs:∀ s ∈ c,Shn s):Pure Tryz.prog 24 [dl c,.int .i64 d] (.tup [aC (C0 c d).1,.int .i64 (C0 c d).2]):=by
 refine Pure.of_c2 follows KB (br rfl) ?_;simp only [b24,aU];unfold C0;by_cases h:d < 0
 ·have z:decide (d < 0)=true:=bt h;rw [if_pos h];have zz:=aI @z (aI @au @ao); repeat' (first|refine zW ?_|apply a_n|apply a_r|refine zO ?_|refine vY ?_|refine bxY ?_|refine cTY ?_|refine ak rfl ?_|refine r2Y ?_|fail)
  exact ee (.eslsl _) rfl
 ·have z:decide (d < 0)=false:=bj h;rw [if_neg h];have hS:=jU c (d + 1) hc hs;have zz:=aI @z (aI @au @ao); repeat' (first|refine zW ?_|apply a_n|refine zO ?_|refine vY ?_|refine cY ?_ (hp:=hS) (hs:=by (first | refine af ?_ rfl | apply ag); (repeat' (first | exact ac | apply an | apply ah | exact aV _)); first | done | fail)|refine bxY ?_|refine cFY ?_|refine ak rfl ?_|refine r2Y ?_|fail)
  exact ee (aW _).snap rfl
set_option maxHeartbeats 2000000 in
theorem EX (c:List Spx) (d:Int) (hc:c.length ≤ 50) (hs:∀ s ∈ c,Shn s):Pure Tryz.prog 9 [dl c,.int .i64 d] (.tup [eJ (lg c d).1.1 (lg c d).1.2,.int .i64 (lg c d).2]):=by
 refine Pure.of_c2 follows is9 (br rfl) ?_;simp only [b9,aU];have hcc:=jD c (show _ ≤ _ by omega) hs;unfold lg;by_cases he:aO c=0
 rotate_left
 ·rw [if_pos he];have z:decide (aO c ≠ 0)=true:=bt he;have zz:=aI @au (aI @ao @z); repeat' (first|refine zW ?_|apply a_n|apply a_r|refine zO ?_|refine vY ?_|refine cY ?_ (hp:=hcc) (hs:=by (first | refine af ?_ rfl | apply ag); (repeat' (first | exact ac | apply an | apply ah | exact aV _)); first | done | fail)|refine alY ?_|refine bxY ?_|refine stY ?_|refine cTY ?_|refine ak rfl ?_|refine r2Y ?_|fail)
  exact mE (.eslsl _) rfl
 rw [if_neg (fun h=>h he)];rw [he] at hcc;have z0:decide ((0:Int) ≠ 0)=false:=rfl;by_cases hd:d < 0 ∨ 8 ≤ d
 ·rw [if_pos hd];have zz:=aI @au (aI @ao @z0); repeat' (first|refine zW ?_|apply a_n|apply a_r|refine zO ?_|refine vY ?_|refine cY ?_ (hp:=hcc) (hs:=by (first | refine af ?_ rfl | apply ag); (repeat' (first | exact ac | apply an | apply ah | exact aV _)); first | done | fail)|refine alY ?_|refine bxY ?_|refine stY ?_|refine gTY ?_|refine gFY ?_|refine cTY ?_|refine cFY ?_|(refine zGY ?_ ?_ <;> (intro _hg; try (exfalso; omega)))|refine ak rfl ?_|refine r2Y ?_|fail)
  all_goals first | exact mE (.eslsl _) rfl | (exfalso; omega)
 rw [if_neg hd];have hX:=C7 c d (by omega) hc hs;have hY:=C7 c (d - 1) (by omega) hc hs;rw [Bb he (by omega) (by omega)] at hX hY;rw [show d - 1 + 1=d by omega] at hY;have hXl:=my (d:=d + 1) hc he;have hYl:=my (d:=d) hc he;have hXm:=iI (d:=d + 1) he;have hYm:=rJ (iI (d:=d) he);have hYa:=mB (c:=c) (d:=d);generalize aD c (d + 1)=X at *;generalize aD c d=Y at *;have z1:decide (d < 0)=false:=bj (by omega);have z2:decide (8 ≤ d)=false:=bj (by omega);have hzc:bl (AV.agg [AV.esl]) Y.length=List.replicate Y.length .esl:=by simp [bl,AV.cells]
 have zz:=aI @au (aI @ao (aI @aj (aI @z0 (aI @z1 @z2)))); repeat' (first|refine zW ?_|apply a_n|refine zO ?_|refine vY ?_|refine cY ?_ (hp:=by first | exact hcc | exact hX | exact hY) (hs:=by (first | refine af ?_ rfl | apply ag); (repeat' (first | exact ac | apply an | apply ah | exact aV _)); first | done | fail)|refine alY ?_|refine bxY ?_|refine stY ?_|refine gTY ?_|refine cFY ?_|fail)
 refine Aj (k1:=.i64) (k2:=.i64) (n:=Y.length) (m:=Y.length) rfl ev0 ev0 (by omega) (Int.le_refl _) (by omega) (by omega) ?_;rw [cQ,hzc,Nat.mul_one];clear zz;have zz:=@aj; repeat' (first|refine zW ?_|apply a_n|refine zO ?_|refine vY ?_|refine alY ?_|refine stY ?_|fail)
 refine bC (X:=Nat × List AV) (fun x=>[(4,.ptr 1 2 0),(9,.ptr 2 1 0),(10,.ptr 4 2 0),(56,aC X),(57,.int .i64 X.length),(58,.int .i64 x.1)]) (fun x H' nx'=>x.1 ≤ X.length∧5 ≤ nx'∧H' 1=some [.int .i64 0,.esl]∧H' 2=some [aC Y]∧H' 4=some [.int .i64 X.length,.msl 3 Y.length 1 0 Y.length]∧MatOk H' 3 5 nx' Y.length (iK X Y x.1) x.2) (fun x=>X.length - x.1) (0,List.replicate Y.length .esl) ⟨cf _,aP _,by (repeat rw [ae (by omega)]); rw [ai],by (repeat rw [ae (by omega)]); rw [ai]; rfl,by rw [ai]; rfl,MatOk.new (by (repeat rw [ae (by omega)]); rw [ai]) (fun j _=>rfl)⟩ (by (iterate 6 refine And.intro rfl ?_); trivial) ?_;rintro ⟨k,vs⟩ H nx ⟨h1,h2,g1,g2,g4,hmat⟩;dsimp only at h1 h2 g1 g2 g4 hmat ⊢;by_cases hk:k < X.length
 rotate_left
 ·obtain rfl:k=X.length:=by omega
  have hst:Snap (aq H 1 [.int .i64 X.length,.msl 3 Y.length 1 0 Y.length]) (.msl 3 Y.length 1 0 Y.length) (cI (dQ X Y)):=(hmat.same (hi':=nx) (G:=iK X Y X.length) (ae (by omega)) (fun x x1 x2 x3=>ae (by omega)) (aP _) (fun j _=>rfl)).snap;clear zz;have zz:=aI @g4 @g1; repeat' (first|refine zW ?_|apply a_n|apply a_x|refine zO ?_|refine vY ?_|refine stY ?_|(refine zGY ?_ ?_ <;> (intro _hg; try (exfalso; omega)))|refine ak rfl ?_|refine r2Y ?_|fail)
  exact mE hst rfl
 have ix:=fq hk;have hsim:=hXm _ (aE hk);have hF:∀ i,iK X Y (k + 1) i=iK X Y k i ++ if Y.getD i default ∈ bo (X.getD k default) then [k] else []:=fun i=>B1
 generalize X.getD k default=s at *;obtain ⟨p1,p2,p3,p4⟩:=cV hsim;clear zz;have zz:=@ix; repeat' (first|refine zW ?_|apply a_n|refine zO ?_|refine vY ?_|refine alY ?_|refine stY ?_|(refine zGY ?_ ?_ <;> (intro _hg; try (exfalso; omega)))|fail)
 refine bn ev0 ev0 (uo s _ _) ?_;rintro _ H1 nx1 ⟨rfl,rfl,rfl⟩
 repeat' (first|refine zW ?_|apply a_n|refine zO ?_|fail)
 refine pB (nx + 2) (nx + 3) rfl rfl ev0 (fun c0 cj hy=>?_);refine Abs.Fn.mono (ue (nx:=nx + 3) (y:=nx + 2) (sb:=nx + 1) (s:=s) (by omega) (fun D H' nx'=>nx + 3 ≤ nx'∧H' (nx + 1)=some [aF s]∧H' (nx + 2)=some [c0]∧H' nx=some [.int .i64 (k:Int)]∧H' 1=some [.int .i64 0,.esl]∧H' 2=some [aC Y]∧H' 4=some [.int .i64 X.length,.msl 3 Y.length 1 0 Y.length]∧∃ vs,MatOk H' 3 5 nx' Y.length (fun i=>iK X Y k i ++ if Y.getD i default ∈ D then [k] else []) vs∧∀ j B,j < Y.length→dF (vs.getD j .undef)=some B→B < nx ∨ nx + 3 ≤ B) ?_ ?_ ?_ ?_) ?_
 ·rintro D H' nx' ⟨j1,j2,_⟩;exact j2
 ·rintro D H' H'' n1 n2 ⟨j1,j2,j3,j4,j5,j6,j7,vs,j8,j9⟩ hle hsm;exact ⟨by omega,(hsm _ (by omega)).trans j2,(hsm _ (by omega)).trans j3,(hsm _ (by omega)).trans j4,(hsm _ (by omega)).trans j5,(hsm _ (by omega)).trans j6,(hsm _ (by omega)).trans j7,vs,j8.same (hsm _ (by omega)) (fun x x1 x2 x3=>hsm x x2) hle (fun _ _=>rfl),j9⟩
 ·rintro D f H' nx' ⟨j1,j2,j3,j4,j5,j6,j7,vs,j8,j9⟩ hlt hfe hDe;refine hy _ _ _ _ j3 rfl ?_;clear zz;clear hy;have hfm:f ∈ fcs s:=by rw [hfe]; exact aE hlt
  have hfD:f ∉ D:=fun h=>by
   rw [hDe] at h;have hnd:=CF p3;have e:=dE hlt;have h5:=(xa.1 (by rw [← e]; exact hnd.sublist (List.take_sublist _ _):((fcs s).take D.length ++ [(fcs s).getD D.length default]).Nodup)).2.2 _ h _ (dL.2 rfl);exact h5 hfe
  have hfs:=gc.1 (A7.1 hfm);have hfn:Shn f:=by show _ ≤ _; omega
  clear hfe hDe hlt hfm
  repeat' (first|apply a_n|refine zO ?_|refine vY ?_|fail)
  refine ⟨j3,?_⟩;have hd:∀ x,x ≠ nx + 2→cK H' (nx + 2) x=H' x:=fun x hx=>dj hx;generalize cK H' (nx + 2)=H2 at *;have q2:=(hd 2 (by omega)).trans j6;have q3:=(hd 3 (by omega)).trans j8.box;have q4:=(hd 4 (by omega)).trans j7;have qk:=(hd nx (by omega)).trans j4;obtain ⟨p,hpl,hpm⟩:=xR Y f (show _ ≤ _ by omega) hYm hfn hYa;by_cases hin:f ∈ Y
  rotate_left
  ·rw [bj hin] at hpl;have zz:=aI @q2 (aI @au @ao); repeat' (first|refine zW ?_|apply a_n|refine zO ?_|refine vY ?_|refine cY ?_ (hp:=hpl) (hs:=by (first | refine af ?_ rfl | apply ag); (repeat' (first | exact ac | apply an | apply ah | exact aW _ | exact aH _)); first | done | fail)|refine cFY ?_|fail)
   refine ⟨rfl,j1,(ae (by omega)).trans ((hd _ (by omega)).trans j2),ai,(ae (by omega)).trans qk,(ae (by omega)).trans ((hd _ (by omega)).trans j5),(ae (by omega)).trans q2,(ae (by omega)).trans q4,vs,j8.same ((ae (by omega)).trans (hd _ (by omega))) (fun x x1 x2 x3=>?_) (aP _) (fun j hj=>?_),j9⟩
   ·by_cases e:x=nx + 2
    ·rw [e,ai,j3]
    ·rw [ae e,hd x e]
   ·have hne:Y.getD j default ≠ f:=fun e=>hin (by rw [← e]; exact aE hj)
    congr 1
    exact zV (by rw [fp,dL]; exact ⟨fun h=>h.resolve_right hne,.inl⟩)
  rw [bt hin] at hpl;obtain ⟨pl1,pl2⟩:=hpm hin;have hFD:iK X Y k p ++ (if Y.getD p default ∈ D then [k] else [])=iK X Y k p:=by rw [pl2,if_neg hfD,jH]
  have hrow:Row H2 1 (vs.getD p .undef) ((iK X Y k p).map y7):=by
   have:=j8.row p pl1;rw [hFD] at this;exact this.same fun b hb=>hd b (by have:=j9 p b pl1 hb; omega)
  have hvs:vs[p]?=some (vs.getD p .undef):=by
   have:=j8.len;simp [List.getD,show p < vs.length by omega]
  have hlen:=j8.len
  have hb3:∀ b,dF (vs.getD p .undef)=some b→5 ≤ b∧b < nx'∧b ≠ 3∧(b < nx ∨ nx + 3 ≤ b):=fun b hb=>by
   have h5:=j8.bnd p b pl1 hb;have h6:=j9 p b pl1 hb;exact ⟨h5.1,h5.2.1,h5.2.2,h6⟩
  generalize hrv:vs.getD p .undef=rv at *;have zz:=aI @q2 (aI @au @ao); repeat' (first|refine zW ?_|apply a_n|refine zO ?_|refine vY ?_|refine cY ?_ (hp:=hpl) (hs:=by (first | refine af ?_ rfl | apply ag); (repeat' (first | exact ac | apply an | apply ah | exact aW _ | exact aH _)); first | done | fail)|refine cTY ?_|fail)
  refine zZ 4 3 nx q4 q3 qk (by omega) (by omega) (by omega) fun S0 hS1 hS2 hS3 hsub=>?_;have hFl:=wN (X:=X) (Y:=Y) (n:=k) (i:=p);clear zz;have zz:=aI @hS1 (aI @hS2 (aI @hS3 (aI @hvs @hlen))); repeat' (first|apply a_n|refine zO ?_|refine nvY ?_|fail)
  refine iu ?_
  repeat' (first|apply a_n|refine zO ?_|refine blY ?_|fail)
  refine ⟨hsub _ (by rw [ae (by omega)]; exact q4) (by rw [ae (by omega)]; exact q3) (by rw [ae (by omega)]; exact qk),?_⟩;refine iu ?_;refine iq rfl ev0 (hrow.same fun b hb=>?_) ev0 dp rfl rfl jt (by rw [bO]; omega) (by rw [bO]; omega) ?_
  ·have:=hb3 b hb; rw [ae (by omega)]
  rintro s2 H4 nx4 hr2 i1 i2 i3 i4;have lo:∀ x,x < nx'→dF rv ≠ some x→H4 x=H2 x:=fun x x1 x2=>(i3 x (by omega) x2).trans (ae (by omega));have l3:H4 3=H2 3:=lo 3 (by omega) (fun h=>by have:=hb3 _ h; omega);have l4:H4 4=H2 4:=lo 4 (by omega) (fun h=>by have:=hb3 _ h; omega);have lk:H4 nx=H2 nx:=lo nx (by omega) (fun h=>by have:=hb3 _ h; omega);have lo2:∀ x,x < nx + 3→5 ≤ x→nx ≤ x→H4 x=H2 x:=fun x x1 x2 x3=>lo x (by omega) (fun h=>by have:=hb3 _ h; omega);have lo5:∀ x,x < 5→H4 x=H2 x:=fun x x1=>lo x (by omega) (fun h=>by have:=hb3 _ h; omega);obtain ⟨o1,o2⟩:=hr2.one;have m3:=l3.trans q3;refine uv ⟨hsub _ (l4.trans q4) m3 (lk.trans qk),?_⟩
  have hlp:bK vs p [s2]=vs.set p s2:=by
   simp only [bK,bN,fL,cb];rw [List.set_eq_take_append_cons_drop,if_pos (by omega)]; simp
  clear zz;have zz:=aI @m3 (aI @o1 (aI @o2 (aI @hlen @hlp))); repeat' (first|apply a_n|refine zO ?_|refine nvY ?_|apply kq|refine stY ?_|fail)
  have hB2:∀ b,dF s2=some b→(dF rv=some b ∨ nx' ≤ b)∧b < nx4:=fun b hb=>by
   rcases i4 b hb with h | h
   ·exact ⟨.inl h,by have:=hb3 b h; omega⟩
   ·exact ⟨.inr (by omega),by omega⟩
  have hwd:∀ x,x ≠ 3→x ≠ nx + 2→aq (aq H4 3 (vs.set p s2)) (nx + 2) [c0] x=H4 x:=fun x x1 x2=>by rw [ae x2,ae x1]
  rw [hlp];refine ⟨rfl,by omega,?_,ai,?_,?_,?_,?_,vs.set p s2,?_,?_⟩
  ·rw [hwd _ (by omega) (by omega),lo2 _ (by omega) (by omega) (by omega),hd _ (by omega)]; exact j2
  ·rw [hwd _ (by omega) (by omega),lk]; exact qk
  ·rw [hwd _ (by omega) (by omega),lo5 _ (by omega),hd _ (by omega)]; exact j5
  ·rw [hwd _ (by omega) (by omega),lo5 _ (by omega)]; exact q2
  ·rw [hwd _ (by omega) (by omega),l4]; exact q4
  ·refine j8.put (sv:=s2) (x:=k) (i:=p) pl1 (fun j hj=>?_) ?_ (fun b hb=>?_) (by rw [ae (by omega),ai]) (fun x x1 x2 x3 x4=>?_) (by omega) (by omega)
   ·by_cases e:j=p
    ·subst e;rw [if_pos rfl,pl2,if_neg hfD,if_pos (pq _ (dL.2 rfl)),jH]
    ·rw [if_neg e]
     have hne:Y.getD j default ≠ f:=fun h=>e (by
      rcases sg j p with h' | h' | h'
      ·have:=dJ hYa h' pl1;rw [h,pl2,f9] at this; omega
      ·exact h'
      ·have:=dJ hYa h' hj;rw [h,pl2,f9] at this; omega)
     congr 1
     exact zV (by rw [fp,dL]; exact ⟨fun h=>h.resolve_right hne,.inl⟩)
   ·rw [hFD,ed];refine hr2.same fun b hb=>hwd b ?_ ?_
    ·have:=hB2 b hb;rcases this.1 with h | h
     ·have:=hb3 b h; omega
     ·omega
    ·have:=hB2 b hb;rcases this.1 with h | h
     ·have:=hb3 b h; omega
     ·omega
   ·rw [hrv];have:=hB2 b hb;rcases this.1 with h | h
    ·exact .inl h
    ·exact .inr ⟨h,this.2,by omega⟩
   ·rw [hrv] at x4;by_cases e:x=nx + 2
    ·rw [e,ai,j3]
    ·rw [hwd x x3 e,lo x x2 x4,hd x e]
  ·intro j B hj hB;rw [pT (by omega)] at hB;by_cases e:p=j
   ·rw [if_pos e] at hB;have:=hB2 B hB;rcases this.1 with h | h
    ·have:=hb3 B h; omega
    ·omega
   ·rw [if_neg e] at hB;exact j9 j B hj hB
 ·have hlk:bK [AV.int .i64 0] 0 [.int .i64 (k:Int)]=[.int .i64 (k:Int)]:=rfl;have hw:∀ x,x ≠ nx→x ≠ nx + 1→x ≠ nx + 2→aq (aq (aq (aq H nx [.int .i64 0]) nx (bK [.int .i64 0] 0 [.int .i64 (k:Int)])) (nx + 1) [aF s]) (nx + 2) [c0] x=H x:=fun x x1 x2 x3=>by rw [ae x3,ae x2,ae x1,ae x1]
  refine ⟨aP _,by rw [ae (by omega),ai],ai,by rw [ae (by omega),ae (by omega),ai]; rfl,(hw _ (by omega) (by omega) (by omega)).trans g1,(hw _ (by omega) (by omega) (by omega)).trans g2,(hw _ (by omega) (by omega) (by omega)).trans g4,vs,hmat.same (hw _ (by omega) (by omega) (by omega)) (fun x x1 x2 x3=>hw x (by omega) (by omega) (by omega)) (by omega) (fun j _=>by simp),fun j B hj hB=>by have:=hmat.bnd j B hj hB; omega⟩
 ·rintro r H' nx' ⟨j1,j2,j3,j4,j5,j6,j7,vs2,j8,j9⟩;refine .inl ⟨j3,?_⟩
  repeat' (first|apply a_n|refine zO ?_|refine vY ?_|fail)
  refine ⟨(k + 1,vs2),by dsimp only; omega,⟨by dsimp only; omega,by omega,(dj (by omega)).trans j5,(dj (by omega)).trans j6,(dj (by omega)).trans j7,?_⟩,ag0⟩;dsimp only
  have hrows:∀ j,j < Y.length→iK X Y (k + 1) j=iK X Y k j ++ if Y.getD j default ∈ fcs s then [k] else []:=fun j _=>by
   rw [hF]; congr 1; exact zV A7.symm
  exact ⟨(dj (by omega)).trans j8.box,j8.len,fun j hj=>by rw [hrows j hj]; exact (j8.row j hj).same fun b hb=>dj (by have:=j9 j b hj hb; omega),fun j B hj hB=>by have:=j8.bnd j B hj hB; exact this,j8.apart⟩
end Go.Proofs.YtlodfaaceehfmaaGreat
namespace Go.Proofs.YtlodfaaceehfmaaGreat
open Go Go.Abs
def pO (L a:List Spx):List Nat:=a.map fun s=>L.idxOf s
abbrev kH (a:List Spx):Nat:=(a.getD 0 default).length
def lG (c a:List Spx):List Int × Int:=if aO c ≠ 0 then ([],aO c) else if gf a ≠ 0 then ([],gf a) else if a=[] then ([],0) else if (a.all fun s=>decide (s ∈ aD c (kH a)))=true then (bF (pO (aD c (kH a)) a),0) else ([],6)
theorem xB {l:List Nat} {n:Nat}:bF (l ++ [n])=bF l ++ [(n:Int)]:=by unfold bF; rw [ed]; rfl
theorem CM {L a:List Spx} {k:Nat} (h:k < a.length):pO L (a.take (k + 1))=pO L (a.take k) ++ [L.idxOf (a.getD k default)]:=by
 unfold pO; rw [dE h,ed]; rfl
theorem FC {l:List Spx} (hn:l.Nodup) {v:Spx} {k:Nat} (hk:k < l.length) (hv:l.getD k default=v):l.idxOf v=k:=by
 have hm:v ∈ l:=by rw [← hv]; exact aE hk
 have h1:=pN.2 hm;have h2:l[l.idxOf v]=v:=List.getElem_idxOf h1;have h3:l[k]=v:=by simpa [List.getD,hk] using hv
 exact (List.getElem_inj hn).1 (h2.trans h3.symm)
theorem lh {H:Hp} {s:AV} {l:List Int} {e f:Int} (h:Snap H s (aL l)) (he:e=f):Snap H (.tup [s,.int .i64 e]) (.tup [aL l,.int .i64 f]):=by
 subst he; exact cm (ar h (ar (.int _ _) ac))
def nQ (n:Nat) (v:List Int) (k:Nat):Int:=if v.getD k default < 0 ∨ (n:Int) ≤ v.getD k default then 2 else if 0 < k∧v.getD k default ≤ v.getD (k - 1) default then 14 else 0
def jv (n:Nat) (v:List Int):Int:=db (nQ n v) v.length
theorem ns {n:Nat} {v:List Int} {k:Nat}:nQ n v k=if v.getD k default < 0 ∨ (n:Int) ≤ v.getD k default then 2 else if 0 < k∧v.getD k default ≤ v.getD (k - 1) default then 14 else 0:=rfl
def gH (X:List Spx) (v:List Int):List Spx:=v.map fun i=>X.getD i.toNat default
theorem yT {X:List Spx} {v:List Int} {k:Nat} (h:k < v.length):gH X (v.take (k + 1))=gH X (v.take k) ++ [X.getD (v.getD k default).toNat default]:=by
 unfold gH; rw [dE h,ed]; rfl
def tv (c:List Spx) (d:Int) (v:List Int):List Spx × Int:=if aO c ≠ 0 then ([],aO c) else if d < 0 ∨ 8 ≤ d then ([],2) else if jv (aD c (d + 1)).length v ≠ 0 then ([],jv (aD c (d + 1)).length v) else (gH (aD c (d + 1)) v,0)
attribute [local irreducible] aM am bm be aX a6 aG aZ bf bI Go.Abs.Fn bc Go.Abs.Pure aB aQ Yl
theorem y8 (c a:List Spx) (hc:c.length ≤ 50) (hs:∀ s ∈ c,Shn s) (ha:ShC a):Pure Tryz.prog 58 [dl c,aC a] (.tup [aL (lG c a).1,.int .i64 (lG c a).2]):=by
 refine Pure.of_c2 follows JV (br rfl) ?_;simp only [b58,aU];have hcc:=jD c (show _ ≤ _ by omega) hs;have hca:=sU a ha;have z0:decide ((0:Int) ≠ 0)=false:=rfl;unfold lG;by_cases he:aO c=0
 rotate_left
 ·rw [if_pos he];have z:decide (aO c ≠ 0)=true:=bt he;have zz:=aI @au (aI @ao @z); repeat' (first|refine zW ?_|apply a_n|apply a_r|refine zO ?_|refine vY ?_|refine cY ?_ (hp:=hcc) (hs:=by (first | refine af ?_ rfl | apply ag); (repeat' (first | exact ac | apply an | apply ah | exact aV _)); first | done | fail)|refine bxY ?_|refine cTY ?_|refine ak rfl ?_|refine r2Y ?_|fail)
  exact lh (.eslsl _) rfl
 rw [if_neg (fun h=>h he)];rw [he] at hcc;by_cases h2:gf a=0
 rotate_left
 ·rw [if_pos h2];have z:decide (gf a ≠ 0)=true:=bt h2;have zz:=aI @au (aI @ao (aI @z @z0)); repeat' (first|refine zW ?_|apply a_n|apply a_r|refine zO ?_|refine vY ?_|refine cY ?_ (hp:=by first | exact hcc | exact hca) (hs:=by (first | refine af ?_ rfl | apply ag); (repeat' (first | exact ac | apply an | apply ah | exact aV _ | exact aW _)); first | done | fail)|refine bxY ?_|refine cTY ?_|refine cFY ?_|refine ak rfl ?_|refine r2Y ?_|fail)
  exact lh (.eslsl _) rfl
 rw [if_neg (fun h=>h h2)];rw [h2] at hca;by_cases h3:a=[]
 ·rw [if_pos h3];subst h3;have al:d4 (aC [])=some (.int .i64 0):=rfl;have zz:=aI @au (aI @ao (aI @al @z0)); repeat' (first|refine zW ?_|apply a_n|apply a_r|refine zO ?_|refine vY ?_|refine cY ?_ (hp:=by first | exact hcc | exact hca) (hs:=by (first | refine af ?_ rfl | apply ag); (repeat' (first | exact ac | apply an | apply ah | exact aV _ | exact aW _)); first | done | fail)|refine bxY ?_|refine cFY ?_|(refine zGY ?_ ?_ <;> (intro _hg; try (exfalso; omega)))|refine ak rfl ?_|refine r2Y ?_|fail)
  exact lh (.eslsl _) rfl
 rw [if_neg h3];have hpos:=nB.2 h3;have z3:decide ((a.length:Int)=0)=false:=bj (by omega);obtain ⟨p1,p2,p3,p4⟩:=nK h2;have p5:=cV (p2 _ (aE hpos));have i0:=Js hpos;have hS:=jU c (kH a) hc hs;unfold eX at hS;rw [if_neg (fun h=>h he),if_neg (by unfold kH; omega),cQ] at hS;have eL:fV c (kH a)=aD c (kH a):=by unfold aD; rw [if_neg (by unfold kH; omega),cQ]
 rw [eL] at hS;have hLs:=rJ (iI (d:=(kH a:Nat)) he);have hLl:=my (d:=(kH a:Nat)) hc he;have hLa:=mB (c:=c) (d:=(kH a:Nat));generalize aD c (kH a)=L at *;unfold kH at hS;have zz:=aI @au (aI @ao (aI @aj (aI @az (aI @i0 (aI @z0 @z3))))); repeat' (first|refine zW ?_|refine zM ?_|apply a_n|refine zO ?_|refine vY ?_|refine cY ?_ (hp:=by first | exact hcc | exact hca | exact hS) (hs:=by (first | refine af ?_ rfl | apply ag); (repeat' (first | exact ac | apply an | apply ah | exact aV _ | exact aW _)); first | done | fail)|refine bxY ?_|refine cFY ?_|fail)
 refine bC (X:=AV × Nat) (fun x=>[(8,aC L),(10,x.1),(40,aC a),(41,.int .i64 a.length),(42,.int .i64 x.2)]) (fun x H nx=>x.2 ≤ a.length∧(∀ i,i < x.2→decide (a.getD i default ∈ L)=true)∧Row H 1 x.1 ((bF (pO L (a.take x.2))).map (AV.int .i64))∧∀ b,dF x.1=some b→b < nx) (fun x=>a.length - x.2) (.esl,0) ⟨cf _,fun i h=>absurd h (by omega),Row.nil,fun b hb=>(by cases hb)⟩ ag0 ?_;rintro ⟨sv,k⟩ H nx ⟨k1,k2,k3,k4⟩;dsimp only at k1 k2 k3 k4 ⊢;by_cases hk:k < a.length
 rotate_left
 ·rw [iv (by omega)] at k3;rw [if_pos (og fun i hi=>k2 i (by omega))]
  repeat' (first|refine zW ?_|apply a_n|apply a_x|refine zO ?_|refine vY ?_|(refine zGY ?_ ?_ <;> (intro _hg; try (exfalso; omega)))|refine ak rfl ?_|refine r2Y ?_|fail)
  exact lh k3.snapI rfl
 have ix:=fq hk;have hsx:=ha.2 _ (aE hk);obtain ⟨p,hpl,hpm⟩:=xR L (a.getD k default) (show _ ≤ _ by omega) hLs hsx hLa;by_cases hin:a.getD k default ∈ L
 rotate_left
 ·rw [bj hin] at hpl
  have hall:¬ (a.all fun s=>decide (s ∈ L))=true:=by
   rw [me hk (bj hin)]; decide
  rw [if_neg hall];clear zz;have zz:=@ix; repeat' (first|refine zW ?_|apply a_n|apply a_r|refine zO ?_|refine vY ?_|refine cY ?_ (hp:=hpl) (hs:=by (first | refine af ?_ rfl | apply ag); (repeat' (first | exact ac | apply an | apply ah | exact aW _ | exact aH _)); first | done | fail)|refine cTY ?_|(refine zGY ?_ ?_ <;> (intro _hg; try (exfalso; omega)))|refine ak rfl ?_|refine r2Y ?_|fail)
  exact lh (.eslsl _) rfl
 rw [bt hin] at hpl;obtain ⟨p1',p2'⟩:=hpm hin;have hidx:=FC (hLa.nodup iM) p1' p2';have hpt:=CM (L:=L) hk;rw [hidx] at hpt;have hnl:(bF (pO L (a.take k))).length=k:=by unfold bF pO; rw [bO,bO,iO]; omega
 clear zz;have zz:=@ix; repeat' (first|refine zW ?_|apply a_n|refine zO ?_|refine vY ?_|refine cY ?_ (hp:=hpl) (hs:=by (first | refine af ?_ rfl | apply ag); (repeat' (first | exact ac | apply an | apply ah | exact aW _ | exact aH _)); first | done | fail)|refine blY ?_|refine cFY ?_|(refine zGY ?_ ?_ <;> (intro _hg; try (exfalso; omega)))|fail)
 refine iq rfl ev0 (k3.same fun b hb=>?_) ev0 dp rfl rfl jt (by rw [bO]; omega) (by rw [bO]; omega) ?_
 ·have:=k4 b hb; rw [ae (by omega)]
 rintro s2 E e hrow hle1 hle2 hsame hb2
 repeat' (first|apply a_n|refine zO ?_|refine vY ?_|fail)
 refine ⟨(s2,k + 1),by dsimp only; omega,⟨by dsimp only; omega,fun i hi=>?_,?_,fun b hb=>?_⟩,ag0⟩
 ·rcases jl.1 hi with h' | rfl
  ·exact k2 i h'
  ·exact bt hin
 ·dsimp only;rw [hpt,xB,ed]; exact hrow
 ·rcases hb2 b hb with h | h
  ·have:=k4 b h; omega
  ·omega
end Go.Proofs.YtlodfaaceehfmaaGreat
namespace Go.Proofs.YtlodfaaceehfmaaGreat
open Go Go.Abs
theorem ixV {l:List Int} {k:Nat} (h:k < l.length):eG 1 (aL l) (.int .i64 (k:Int))=some (.iptr [.int .i64 (l.getD k default)] 0):=by
 rw [l9,if_pos ⟨by omega,by omega⟩,cQ]
theorem dX {l:List Int}:d4 (aL l)=some (.int .i64 l.length):=s5
attribute [local irreducible] aM am bm be aX a6 aG aZ bf bI Go.Abs.Fn bc Go.Abs.Pure aB aQ Yl
theorem GK {n:Nat} {v:List Int} {k:Nat} (h:nQ n v k=0):0 ≤ v.getD k default∧v.getD k default < n∧(0 < k→v.getD (k - 1) default < v.getD k default):=by
 unfold nQ at h;split at h
 ·exact absurd h (by decide)
 split at h
 ·exact absurd h (by decide)
 ·rename_i h1 h2;exact ⟨by omega,by omega,fun h0=>by omega⟩
set_option maxHeartbeats 1000000 in
theorem AL (c:List Spx) (d:Int) (v:List Int) (hc:c.length ≤ 50) (hs:∀ s ∈ c,Shn s) (hv:v.length ≤ 100000):Pure Tryz.prog 11 [dl c,.int .i64 d,aL v] (.tup [aC (tv c d v).1,.int .i64 (tv c d v).2]):=by
 refine Pure.of_c2 follows J2 (br rfl) ?_;simp only [b11,aU];have hcc:=jD c (show _ ≤ _ by omega) hs;have z0:decide ((0:Int) ≠ 0)=false:=rfl;unfold tv;by_cases he:aO c=0
 rotate_left
 ·rw [if_pos he];have z:decide (aO c ≠ 0)=true:=bt he;have zz:=aI @au (aI @ao @z); repeat' (first|refine zW ?_|apply a_n|apply a_r|refine zO ?_|refine vY ?_|refine cY ?_ (hp:=hcc) (hs:=by (first | refine af ?_ rfl | apply ag); (repeat' (first | exact ac | apply an | apply ah | exact aV _)); first | done | fail)|refine bxY ?_|refine cTY ?_|refine ak rfl ?_|refine r2Y ?_|fail)
  exact ee (.eslsl _) rfl
 rw [if_neg (fun h=>h he)];rw [he] at hcc;by_cases hd:d < 0 ∨ 8 ≤ d
 ·rw [if_pos hd];have zz:=aI @au (aI @ao @z0); repeat' (first|refine zW ?_|apply a_n|apply a_r|refine zO ?_|refine vY ?_|refine cY ?_ (hp:=hcc) (hs:=by (first | refine af ?_ rfl | apply ag); (repeat' (first | exact ac | apply an | apply ah | exact aV _)); first | done | fail)|refine bxY ?_|refine gTY ?_|refine gFY ?_|refine cTY ?_|refine cFY ?_|(refine zGY ?_ ?_ <;> (intro _hg; try (exfalso; omega)))|refine ak rfl ?_|refine r2Y ?_|fail)
  all_goals first | exact ee (.eslsl _) rfl | (exfalso; omega)
 rw [if_neg hd];have hX:=C7 c d (by omega) hc hs;rw [Bb he (by omega) (by omega)] at hX;have hXl:=my (d:=d + 1) hc he;have hXm:=iI (d:=d + 1) he;generalize aD c (d + 1)=X at *;have z1:decide (d < 0)=false:=bj (by omega);have z2:decide (8 ≤ d)=false:=bj (by omega);have zz:=aI @au (aI @ao (aI @z0 (aI @z1 @z2))); repeat' (first|refine zW ?_|apply a_n|refine zO ?_|refine vY ?_|refine cY ?_ (hp:=by first | exact hcc | exact hX) (hs:=by (first | refine af ?_ rfl | apply ag); (repeat' (first | exact ac | apply an | apply ah | exact aV _)); first | done | fail)|refine bxY ?_|refine gTY ?_|refine cFY ?_|fail)
 refine bC (X:=AV × Nat) (fun x=>[(2,aL v),(9,aC X),(11,x.1),(34,aL v),(35,.int .i64 v.length),(36,.int .i64 x.2)]) (fun x H nx=>x.2 ≤ v.length∧(∀ i,i < x.2→nQ X.length v i=0)∧Row H 1 x.1 ((gH X (v.take x.2)).map aF)∧∀ b,dF x.1=some b→b < nx) (fun x=>v.length - x.2) (.esl,0) ⟨cf _,fun i h=>absurd h (by omega),Row.nil,fun b hb=>(by cases hb)⟩ ag0 ?_;rintro ⟨sv,k⟩ H nx ⟨k1,k2,k3,k4⟩;dsimp only at k1 k2 k3 k4 ⊢;by_cases hk:k < v.length
 rotate_left
 ·have hz:jv X.length v=0:=cT fun i hi=>k2 i (by omega);rw [if_neg (fun h=>h hz)];rw [iv (by omega)] at k3;have hpl:(gH X v).length=v.length:=by unfold gH; rw [bO]
  have hcp:=uE (gH X v) (by omega) fun s hs=>by
   unfold gH at hs;obtain ⟨i,hi,rfl⟩:=bP.1 hs;by_cases hl:i.toNat < X.length
   ·exact ym hXm _ (aE hl)
   ·rw [show X.getD i.toNat default=[] by unfold List.getD; rw [List.getElem?_eq_none (by omega)]; rfl]; exact cf _
  obtain ⟨Hf,H4,hfz,hsn,hoth⟩:=Hm k3;have z6:decide ((k:Int) < v.length)=false:=bj (by omega);refine dt ?_;clear zz;have zz:=@z6; repeat' (first|apply a_n|refine zO ?_|refine vY ?_|fail)
  refine dt ?_;clear zz;have zz:=@z6; repeat' (first|apply a_n|apply a_x|refine zO ?_|refine cFY ?_|fail)
  refine dt ?_;refine qY Hf H4 [(11,aC (gH X v))] hfz ⟨.inr hsn,trivial⟩ ?_
  repeat' (first|apply a_n|refine zO ?_|refine vY ?_|refine cY ?_ (hp:=hcp) (hs:=by (first | refine af ?_ rfl | apply ag); (repeat' (first | exact ac | apply an | apply ah | exact aW _)); first | done | fail)|refine ak rfl ?_|refine r2Y ?_|fail)
  exact ee (aW _).snap rfl
 have ix:=ixV hk;have hsp:=ns (n:=X.length) (v:=v) (k:=k)
 have hfin:∀ e:Int,e ≠ 0→nQ X.length v k=e→(if jv X.length v ≠ 0 then (([]:List Spx),jv X.length v) else (gH X v,0))=([],e):=fun e h0 he=>by
  have h5:jv X.length v=e:=by
   unfold jv;rw [cL hk k2 (by rw [he]; exact h0),he]
  rw [if_pos (by rw [h5]; exact h0),h5]
 by_cases g1:v.getD k default < 0
 ·rw [if_pos (.inl g1)] at hsp;rw [hfin 2 (by decide) hsp];have z1:decide (v.getD k default < 0)=true:=bt g1;clear zz;have zz:=aI @ix @z1; repeat' (first|refine zW ?_|apply a_n|apply a_r|refine zO ?_|refine vY ?_|refine gFY ?_|refine cTY ?_|(refine zGY ?_ ?_ <;> (intro _hg; try (exfalso; omega)))|refine ak rfl ?_|refine r2Y ?_|fail)
  exact ee (.eslsl _) rfl
 have z3:decide (v.getD k default < 0)=false:=bj g1;by_cases g2:(X.length:Int) ≤ v.getD k default
 ·rw [if_pos (.inr g2)] at hsp;rw [hfin 2 (by decide) hsp];have z4:decide ((X.length:Int) ≤ v.getD k default)=true:=bt g2;clear zz;have zz:=aI @ix (aI @z3 (aI @z4 @aj)); repeat' (first|refine zW ?_|apply a_n|apply a_r|refine zO ?_|refine vY ?_|refine gTY ?_|refine cTY ?_|(refine zGY ?_ ?_ <;> (intro _hg; try (exfalso; omega)))|refine ak rfl ?_|refine r2Y ?_|fail)
  exact ee (.eslsl _) rfl
 have z4:decide ((X.length:Int) ≤ v.getD k default)=false:=bj g2;rw [if_neg (by omega)] at hsp
 have iw:eG 1 (aC X) (.int .i64 (v.getD k default))=some (.iptr [aF (X.getD (v.getD k default).toNat default)] 0):=by
  rw [qw,if_pos ⟨by omega,by omega⟩]
 have hpt:=yT (X:=X) hk;have hnl:(gH X (v.take k)).length=k:=by unfold gH; rw [bO,iO]; omega
 have hstep:∀ (s2:AV) (E:Hp) (e:Nat),nQ X.length v k=0→Row E 1 s2 ((gH X (v.take k)).map aF ++ [aF (X.getD (v.getD k default).toNat default)])→(∀ i,i < k + 1→nQ X.length v i=0)∧Row E 1 s2 ((gH X (v.take (k + 1))).map aF):=fun s2 E e hz hr=>⟨fun i hi=>by
  rcases jl.1 hi with h' | rfl
  ·exact k2 i h'
  ·exact hz,by rw [hpt,ed]; exact hr⟩
 generalize X.getD (v.getD k default).toNat default=x at *;by_cases hk0:0 < k
 rotate_left
 ·rw [if_neg (fun h=>hk0 h.1)] at hsp;have zk:decide (0 < (k:Int))=false:=bj (by omega);clear zz;have zz:=aI @ix (aI @iw (aI @z3 (aI @z4 (aI @zk (aI @aj (aI @b0 @bD)))))); repeat' (first|refine zW ?_|apply a_n|refine zO ?_|refine vY ?_|refine blY ?_|refine gTY ?_|refine gFY ?_|refine cFY ?_|(refine zGY ?_ ?_ <;> (intro _hg; try (exfalso; omega)))|fail)
  refine iq rfl ev0 (k3.same fun b hb=>?_) ev0 dp rfl rfl jt (by rw [bO]; omega) (by rw [bO]; omega) ?_
  ·have:=k4 b hb; rw [ae (by omega)]
  rintro s2 E e hrow hle1 hle2 hsame hb2
  repeat' (first|apply a_n|refine zO ?_|refine vY ?_|fail)
  exact ⟨(s2,k + 1),by dsimp only; omega,⟨by dsimp only; omega,(hstep s2 E e hsp hrow).1,(hstep s2 E e hsp hrow).2,fun b hb=>by
   rcases hb2 b hb with h | h
   ·have:=k4 b h; omega
   ·omega⟩,ag0⟩
 have zk:decide (0 < (k:Int))=true:=bt (by omega)
 have iy:eG 1 (aL v) (.int .i64 ((k:Int) - 1))=some (.iptr [.int .i64 (v.getD (k - 1) default)] 0):=by
  have:=ixV (l:=v) (k:=k - 1) (by omega)
  rwa [show ((k - 1:Nat):Int)=(k:Int) - 1 by omega] at this
 by_cases g3:v.getD k default ≤ v.getD (k - 1) default
 ·rw [if_pos ⟨hk0,g3⟩] at hsp;rw [hfin 14 (by decide) hsp];have z5:decide (v.getD k default ≤ v.getD (k - 1) default)=true:=bt g3;clear zz;have zz:=aI @ix (aI @iy (aI @z3 (aI @z4 (aI @zk (aI @z5 @aj))))); repeat' (first|refine zW ?_|apply a_n|apply a_r|refine zO ?_|refine vY ?_|refine gTY ?_|refine cTY ?_|refine cFY ?_|(refine zGY ?_ ?_ <;> (intro _hg; try (exfalso; omega)))|refine ak rfl ?_|refine r2Y ?_|fail)
  exact ee (.eslsl _) rfl
 ·rw [if_neg (fun h=>g3 h.2)] at hsp;have z5:decide (v.getD k default ≤ v.getD (k - 1) default)=false:=bj g3;clear zz;have zz:=aI @ix (aI @iy (aI @iw (aI @z3 (aI @z4 (aI @zk (aI @z5 (aI @aj (aI @b0 @bD)))))))); repeat' (first|refine zW ?_|apply a_n|refine zO ?_|refine vY ?_|refine blY ?_|refine gTY ?_|refine cFY ?_|(refine zGY ?_ ?_ <;> (intro _hg; try (exfalso; omega)))|fail)
  refine iq rfl ev0 (k3.same fun b hb=>?_) ev0 dp rfl rfl jt (by rw [bO]; omega) (by rw [bO]; omega) ?_
  ·have:=k4 b hb; rw [ae (by omega)]
  rintro s2 E e hrow hle1 hle2 hsame hb2
  repeat' (first|apply a_n|refine zO ?_|refine vY ?_|fail)
  exact ⟨(s2,k + 1),by dsimp only; omega,⟨by dsimp only; omega,(hstep s2 E e hsp hrow).1,(hstep s2 E e hsp hrow).2,fun b hb=>by
   rcases hb2 b hb with h | h
   ·have:=k4 b h; omega
   ·omega⟩,ag0⟩
end Go.Proofs.YtlodfaaceehfmaaGreat
namespace Go.Proofs.YtlodfaaceehfmaaGreat
open Go Go.Abs
def GC (l:List Int):Spx:=l.map fun c=>⟨c,0⟩
attribute [local irreducible] aM am bm be aX a6 aG aZ bf bI Go.Abs.Fn bc Go.Abs.Pure aB aQ Yl
end Go.Proofs.YtlodfaaceehfmaaGreat
namespace Go.Proofs.YtlodfaaceehfmaaGreat
open Go Go.Abs
structure PairV where
 a:List Spx
 b:List Spx
 d:Int
attribute [local irreducible] aM am bm be aX a6 aG aZ bf bI Go.Abs.Fn bc Go.Abs.Pure aB aQ Yl
theorem EM (l m:List Int) (hl:l.length ≤ 1000000) (hm:m.length ≤ 1000000):Pure Tryz.prog 16 [aL l,aL m] (.bool (decide (l=m))):=by
 refine Pure.of_c2 follows J0 (br rfl) ?_;simp only [b16,aU]
 repeat' (first|refine zW ?_|apply a_n|apply a_r|refine zO ?_|refine vZ ?_|(refine zGZ ?_ ?_ <;> (intro _hg; try (exfalso; omega)))|refine ak rfl ?_|refine r1Z ?_|fail)
 ·refine cu ?_
  symm; rw [decide_eq_false_iff_not]; rintro rfl; omega
 refine oN (X:=Nat) (fun k=>[(0,aL l),(1,aL m),(12,.int .i64 l.length),(13,.int .i64 k)]) (fun k=>k ≤ l.length∧∀ i,i < k→l.getD i default=m.getD i default) (fun k=>l.length - k) 0 ⟨cf _,by simp⟩ ag0 ?_;rintro k ⟨h1,h2⟩
 repeat' (first|refine zW ?_|apply a_n|apply a_x|apply a_r|refine zO ?_|refine vZ ?_|(refine zGZ ?_ ?_ <;> (intro _hg; try (exfalso; omega)))|refine ak rfl ?_|refine r1Z ?_|fail)
 ·refine cu ?_
  symm; rw [decide_eq_false_iff_not]; rintro rfl; exact absurd rfl ‹_›
 ·refine ⟨k + 1,⟨by omega,fun i hi=>?_⟩,by omega,ag0,rfl,rfl⟩;rcases jl.1 hi with h | rfl
  ·exact h2 i h
  ·omega
 ·refine cu ?_
  symm; rw [CR]
  refine List.ext_getElem (by omega) (fun i h3 h4=>?_);have:=h2 i (by omega);simpa [List.getD,h3,h4] using this
end Go.Proofs.YtlodfaaceehfmaaGreat
namespace Go.Proofs.YtlodfaaceehfmaaGreat
open Go Go.Abs
theorem Dd {H:Hp} {b n:Nat} {cs:List AV} {l:List (List Int)} (hb:H b=some cs) (hn:cs.length=n) (h:aQ H cs (l.map aL)):Snap H (.msl b n 1 0 n) (cI l):=by
 have hl:=h.1;refine lm (l:=l.map aL) hb hn (by omega) (by omega) (fun y hy=>?_) (fun i a c ha hc=>?_)
 ·obtain ⟨z,_,rfl⟩:=bP.1 hy; rfl
 ·rw [cb] at ha;exact h.2 i a c ha hc
attribute [local irreducible] aM am bm be aX a6 aG aZ bf bI Go.Abs.Fn bc Go.Abs.Pure aB aQ Yl
end Go.Proofs.YtlodfaaceehfmaaGreat
namespace Go.Proofs.YtlodfaaceehfmaaGreat
open Go Go.Abs
theorem ul {a:List Spx} (h:a.length ≤ 1000000) (hs:∀ s ∈ a,bR s=0):ShC a:=⟨show _ ≤ _ by omega,rJ hs⟩
attribute [local irreducible] aM am bm be aX a6 aG aZ bf bI Go.Abs.Fn bc Go.Abs.Pure aB aQ Yl
end Go.Proofs.YtlodfaaceehfmaaGreat
namespace Go.Proofs.YtlodfaaceehfmaaGreat
open Go Go.Abs
theorem zR {s:Spx}:(bo s).length ≤ s.length:=by
 rw [← nZ.length_eq];unfold fcs; split
 ·exact cf _
 ·rw [qT]; exact aP _
theorem rO:∀ (a o:List Spx),(∀ s ∈ a,s.length ≤ 8)→(ju a o).length ≤ o.length + a.length * 8
 | [],o,_=>Nat.le_add_right _ _
 | s :: a,o,h=>by
  have h1:=rO a (iB bG o (bo s)) fun t ht=>h t (d6 _ ht);have h2:=Ay (K:=bG) (a:=o) (b:=bo s);have h3:=zR (s:=s);have h4:=h s di;show (ju a (iB bG o (bo s))).length ≤ _;rw [bN]; omega
theorem rX {a:List Spx} (h:∀ s ∈ a,s.length ≤ 8):(cp a).length ≤ a.length * 8:=by
 have:=rO a [] h;rw [fL,cb] at this;exact this
theorem CE {a:List Spx} (ha:gf a=0) (hl:a.length ≤ 500):gf (cp a)=0:=by
 obtain ⟨p1,p2,p3,p4⟩:=nK ha;have:=rX (xO p2);exact Ap (by omega) (pn p2) (mA (fO p2)) (uN (fO p2) p4)
theorem CS {a:List Spx} (ha:gf a=0) (hl:a.length ≤ 500):iH a=(cp a,0):=by
 have:=rX (xO (nK ha).2.1);unfold iH;rw [if_neg (fun h=>h ha),if_neg (by omega)]
attribute [local irreducible] aM am bm be aX a6 aG aZ bf bI Go.Abs.Fn bc Go.Abs.Pure aB aQ Yl
end Go.Proofs.YtlodfaaceehfmaaGreat
namespace Go.Proofs.YtlodfaaceehfmaaGreat
open Go Go.Abs
theorem lQ:∀ (n:Nat) (a b:List Int),a.length + b.length ≤ n→bw a→bw b→(co a b).length + 2 * (a.filter fun x=>decide (x ∈ b)).length=a.length + b.length
 | _,[],b,_,_,_=>by rw [kd]; simp
 | _,x :: a,[],_,_,_=>by
  rw [ga,F7.2 (fun z _=>by simp)];rfl
 | 0,x :: a,y :: b,h,_,_=>by simp only [bN] at h; omega
 | n + 1,x :: a,y :: b,h,ha,hb=>by
  simp only [bN] at h ⊢;obtain ⟨a1,a2⟩:=gS.1 ha;obtain ⟨b1,b2⟩:=gS.1 hb;rw [nN];by_cases g1:x < y
  ·have hx:x ∉ y :: b:=fun q=>by
     rcases dw.1 q with rfl | q
     ·omega
     ·have:=b1 x q; omega
   have ih:=lQ n a (y :: b) (by simp only [bN]; omega) a2 hb;rw [if_pos g1,bN,DF (by simpa using hx)];simp only [bN] at ih;omega
  rw [if_neg g1];by_cases g2:y < x
  ·have hf:(x :: a).filter (fun z=>decide (z ∈ y :: b))=(x :: a).filter fun z=>decide (z ∈ b):=by
     refine List.filter_congr fun z hz=>decide_eq_decide.2 ?_;rw [dw];refine ⟨fun h=>h.resolve_left ?_,.inr⟩;rintro rfl;rcases dw.1 hz with rfl | hz
     ·omega
     ·have:=a1 z hz; omega
   have ih:=lQ n (x :: a) b (by simp only [bN]; omega) ha b2;rw [if_pos g2,bN,hf];simp only [bN] at ih;omega
  rw [if_neg g2];obtain rfl:x=y:=by omega
  have hf:a.filter (fun z=>decide (z ∈ x :: b))=a.filter fun z=>decide (z ∈ b):=by
   refine List.filter_congr fun z hz=>decide_eq_decide.2 ?_;rw [dw];refine ⟨fun h=>h.resolve_left ?_,.inr⟩;rintro rfl;have:=a1 z hz; omega
  have ih:=lQ n a b (by omega) a2 b2;rw [D8 (by simp),bN,hf];omega
theorem qt {a b:List Int} (ha:a.Nodup) (hb:b.Nodup):(a.filter fun x=>decide (x ∈ b)).length=(b.filter fun x=>decide (x ∈ a)).length :=
 ((List.perm_ext_iff_of_nodup (ha.sublist yR) (hb.sublist yR)).2 fun x=>by
  simp only [gW,gJ]; exact And.comm).length_eq
theorem bw.nodup {l:List Int} (h:bw l):l.Nodup:=tH (fun {x y} (h:x < y) e=>by omega) h
theorem Ck {l:List Nat} {n:Nat}:(n:Int) ∈ bF l ↔ n ∈ l:=by
 unfold bF;rw [bP];exact ⟨fun ⟨m,h1,h2⟩=>by rwa [← (by omega:m=n)],fun h=>⟨n,h,rfl⟩⟩
theorem lP {l:List Nat} {x:Int}:x ∈ bF l ↔ ∃ i:Nat,i ∈ l∧(i:Int)=x:=by unfold bF; exact bP
theorem ec {l:List Nat} (h:l.Pairwise (· < ·)):bw (bF l):=by
 unfold bF bw;rw [List.pairwise_map];exact tH (fun {a b} (h:a < b)=>by omega) h
theorem rC {X Y:List Spx} {n i:Nat}:(iK X Y n i).Pairwise (· < ·):=List.pairwise_lt_range.sublist yR
theorem wC {X Y:List Spx} {n i j:Nat}:j ∈ iK X Y n i ↔ j < n∧Y.getD i default ∈ bo (X.getD j default):=by
 unfold iK;simp only [gW,ew,gJ]
theorem nW {X Y:List Spx}:(dQ X Y).length=Y.length:=by unfold dQ; simp
theorem Ep {X Y:List Spx} {i:Nat} (h:i < Y.length):(dQ X Y).getD i default=bF (iK X Y X.length i):=by
 unfold dQ;simp [List.getD,h]
theorem qU {X Y:List Spx} (hX:X.length ≤ 4096) (hY:Y.length ≤ 4096):BI X.length (dQ X Y):=by
 refine ⟨by omega,by omega,by rw [nW]; exact hY,fun r hr=>?_⟩;unfold dQ at hr;obtain ⟨i,hi,rfl⟩:=bP.1 hr;refine ⟨fun v hv=>?_,?_,EU (ec rC)⟩
 ·unfold bF at hv;obtain ⟨j,hj,rfl⟩:=bP.1 hv;have:=(wC.1 hj).1;omega
 ·unfold bF;rw [bO];exact fM wN hX
def i9 (a b:List Int):Bool:=decide ((a.length + b.length - (co a b).length) / 2 % 2=1)
def cU (R:List (List Int)) (x:List Int):List Nat:=(List.range R.length).filter fun i=>i9 (R.getD i default) x
theorem s0 {X:List Spx} (hX:∀ s ∈ X,bQ ce s) {f:Spx}:∀ {w:List Nat},(∀ j ∈ w,j < X.length)→(w.filter fun j=>decide (f ∈ bo (X.getD j default))).length=kJ (w.map fun j=>X.getD j default) f
 | [],_=>rfl
 | j :: w,h=>by
  have ih:=s0 hX (f:=f) (w:=w) fun i hi=>h i (d6 _ hi);have hn:=oP (hX _ (ba (h j di)));rw [dR,px];by_cases hf:f ∈ bo (X.getD j default)
  ·have h1:=List.count_pos_iff.2 hf;have h2:=List.nodup_iff_count.1 hn f;rw [D8 (by simpa using hf),bN,ih]; omega
  ·rw [DF (by simpa using hf),ih,Gc hf,cb]
theorem Ci {X Y:List Spx} (hX:∀ s ∈ X,bQ ce s) {w:List Nat} (hw:w.Pairwise (· < ·)) (hb:∀ j ∈ w,j < X.length) {i:Nat}:i ∈ cU (dQ X Y) (bF w) ↔ i < Y.length∧Y.getD i default ∈ cp (w.map fun j=>X.getD j default):=by
 have hsub:∀ s ∈ w.map (fun j=>X.getD j default),bQ ce s:=fun s hs=>by
  obtain ⟨j,hj,rfl⟩:=bP.1 hs;exact hX _ (ba (hb j hj))
 unfold cU;rw [gW,ew,nW];refine and_congr_right fun hi=>?_;rw [Ep hi,(f0 hsub).2,← s0 hX hb];have h1:=lQ _ _ _ (aP _) (ec (rC (X:=X) (Y:=Y) (n:=X.length) (i:=i))) (ec hw);have h2:=qt (ec (rC (X:=X) (Y:=Y) (n:=X.length) (i:=i))).nodup (ec hw).nodup
 have h3:((bF w).filter fun x=>decide (x ∈ bF (iK X Y X.length i))).length=(w.filter fun j=>decide (Y.getD i default ∈ bo (X.getD j default))).length:=by
  rw [show bF w=w.map fun (n:Nat)=>(n:Int) from rfl,List.filter_map,bO]
  congr 1
  refine List.filter_congr fun j hj=>?_;show decide ((j:Int) ∈ bF _)=_;refine decide_eq_decide.2 ?_;rw [Ck,wC];exact ⟨fun h=>h.2,fun h=>⟨hb j hj,h⟩⟩
 unfold i9;rw [gJ];omega
theorem mG {Y:List Spx} {f:Spx} (h:f ∈ Y):Y.idxOf f < Y.length∧Y.getD (Y.idxOf f) default=f:=by
 have hl:=pN.2 h;exact ⟨hl,by simp [List.getD,hl]⟩
theorem uM {Y:List Spx} (hY:Y.Nodup) {i:Nat} (h:i < Y.length):Y.idxOf (Y.getD i default)=i:=by
 have h1:=mG (ba h);have e1:Y[Y.idxOf (Y.getD i default)]'h1.1=Y[i]:=(List.getElem_idxOf h1.1).trans (by simp [List.getD,h]);exact (List.getElem_inj hY).1 e1
theorem CA {Y a:List Spx} (hY:bQ bG Y) (ha:bQ bG a) (h:∀ s ∈ a,s ∈ Y):(a.map fun s=>Y.idxOf s).Pairwise (· < ·):=by
 rw [List.pairwise_map];refine List.Pairwise.imp_of_mem (fun {s t} hs ht hst=>?_) ha;obtain ⟨h1,h2⟩:=mG (h s hs);obtain ⟨h3,h4⟩:=mG (h t ht);rcases sg (Y.idxOf s) (Y.idxOf t) with q | q | q
 ·exact q
 ·rw [q,h4] at h2; subst h2; exact absurd hst (iM.ord.irr _)
 ·have:=dJ hY q h1;rw [h2,h4] at this;exact absurd hst (iM.ord.asym _ _ this)
theorem zD {X Y:List Spx} (hX:∀ s ∈ X,bQ ce s) (hY:bQ bG Y) {w:List Nat} (hw:w.Pairwise (· < ·)) (hb:∀ j ∈ w,j < X.length) (hin:∀ s ∈ cp (w.map fun j=>X.getD j default),s ∈ Y) :
    bF (cU (dQ X Y) (bF w))=bF ((cp (w.map fun j=>X.getD j default)).map fun s=>Y.idxOf s):=by
 have hsub:∀ s ∈ w.map (fun j=>X.getD j default),bQ ce s:=fun s hs=>by
  obtain ⟨j,hj,rfl⟩:=bP.1 hs;exact hX _ (ba (hb j hj))
 refine BJ (ec (List.pairwise_lt_range.sublist yR)) (ec (CA hY (mA hsub) hin)) fun x=>?_;rw [lP,lP];refine exists_congr fun i=>and_congr_left fun _=>?_;rw [Ci hX hw hb,bP]
 exact ⟨fun ⟨h1,h2⟩=>⟨_,h2,uM (hY.nodup iM) h1⟩,fun ⟨s,h1,h2⟩=>by
  obtain ⟨h3,h4⟩:=mG (hin s h1);rw [← h2,h4]; exact ⟨h3,h1⟩⟩
end Go.Proofs.YtlodfaaceehfmaaGreat