/- Texts of this claim, one after the other: T106, T109, T110, T111, T112, T113, T107, T114, T115, T116, T117, T119, T124, T125, T120, T123, T126, T127, T128, T129, T130, T131, T132, T134, T160, T161, T200, T135, T136, T137, T138, T170, T151, T139, T140, T141, T142, T171, T143. -/
import Derived.Test.YtpfkjcjgdilkkaaGreatXG4
import Derived.Test.YtpfkjcjgdilkkaaGreatXG5

set_option linter.unusedSimpArgs false
set_option linter.unusedVariables false
set_option maxHeartbeats 1000000
namespace Go.Proofs.YtpfkjcjgdilkkaaGreat
open Go Go.Abs
open Nat (reduceEqDiff reduceAdd reduceLeDiff)
theorem uW:∀ (l:Spx) (k:Nat),(cX l).drop (k * 2)=cX (l.drop k)
 | [],k=>by simp [cX]
 | a :: l,0=>by simp
 | a :: l,k + 1=>by
  show (ph a ++ cX l).drop _=cX (l.drop k);rw [show (k + 1) * 2=(ph a).length + k * 2 by show _=2 + _; omega,List.drop_append,yq (Nat.le_add_right _ _),List.nil_append,Nat.add_sub_cancel_left,uW l k]
theorem pZ:∀ (l:Spx) (k:Nat),(cX l).take (k * 2)=cX (l.take k)
 | [],k=>by simp [cX]
 | a :: l,0=>by simp [cX]
 | a :: l,k + 1=>by
  show (ph a ++ cX l).take _=ph a ++ cX (l.take k);rw [List.take_append,fq (by show 2 ≤ _; omega),show (k + 1) * 2 - (ph a).length=k * 2 by show _ - 2=_; omega,pZ l k]
theorem rdX {l:Spx} {k:Nat} (hk:k < l.length):((cX l).drop (k * 2)).take 2=[.int .i64 (l.getD k default).color,.int .i64 (l.getD k default).label]:=by
 rw [uW,ie hk]; rfl
theorem Hw {l:Spx} {k:Nat} {w:Vtx} (hk:k < l.length):bu (cX l) (k * 2) [.int .i64 w.color,.int .i64 w.label]=cX (l.set k w):=by
 simp only [bu,cS,ew];rw [show k * 2 + (0 + 1 + 1)=(k + 1) * 2 by omega,uW,pZ,B2,if_pos hk];simp only [cX,List.flatMap_append,rY,nq];rfl
theorem p6 {c:Prop} [Decidable c] {g:List AV→AV} {x:List AV}:Option.map g (if c then some x else none)=if c then some (g x) else none:=by
 split <;> rfl
theorem zZ {L:Spx} {h:Nat} {x:Vtx} (hh:h < L.length):(L.set h x).take (h + 1)=L.take h ++ [x]:=by
 rw [bW (by simpa using hh),List.take_set_of_le (aO h)];simp [List.getD,hh]
theorem qU {B n len k:Nat} (h:k < len) (hn:n ≠ 0):iW 2 (.msl B n 2 0 len) (some (.int .i64 k)) none none=some (.msl B n 2 (k * 2) (len - k)):=by
 simp only [iW,bA,Int.natCast_nonneg,if_true,bz];rw [if_pos ⟨trivial,by omega,aO _,hn⟩,if_pos (.inr h),b0]
theorem qO {B n len k:Nat} (h:k ≤ len) (hn:n ≠ 0):iW 2 (.msl B n 2 0 len) none (some (.int .i64 k)) none=some (.msl B n 2 0 k):=by
 simp only [iW,bA,Int.natCast_nonneg,if_true,bz];rw [if_pos ⟨trivial,by omega,h,hn⟩,if_pos (.inl trivial),ol,Nat.sub_zero]
theorem zE {H:Hp} {B:Nat} {cs:List AV} (hH:H B=some cs):H=ao H B cs:=by
 funext b
 by_cases e:b=B
 ·subst e; rw [aj]; exact hH
 ·rw [ah e]
attribute [local irreducible] aW av bQ bO bl bB aU bx bT cK Go.Abs.Fn bL Go.Abs.Pure aS bg Yl
set_option maxHeartbeats 1000000 in
theorem qp (l:Spx) (hl:Shn l) (h0:l ≠ []) (H:Hp) (B nx:Nat) (hH:H B=some (cX l)) (hB:B < nx) :
    Abs.Fn Tryz.prog 71 [.msl B (l.length * 2) 2 0 l.length] H nx fun r H' nx'=>r=.msl B (l.length * 2) 2 0 (bR l l.length)∧(∃ C,H'=ao H B C∧C.length=l.length * 2∧C.take (bR l l.length * 2)=cX (ec l l.length))∧nx'=nx:=by
 refine Abs.Fn.of_c2 follows EO (ba rfl) ?_;simp only [b71,aK];have hl':l.length ≤ 17592186044416:=hl;have hpos:=pQ.2 h0;have hid:=zE hH
 repeat' (first|refine zW ?_|apply a_n|apply a_r|refine zO ?_|refine vZ ?_|(refine zGZ ?_ ?_ <;> (intro _hg; try (exfalso; omega)))|refine ak rfl ?_|refine r1Z ?_|fail)
 ·have e1:l.length=1:=by omega
  have e2:ec l l.length=l:=by
   match l,e1 with
   | [a],_=>rfl
  refine ⟨?_,⟨_,hid,eH l,?_⟩,rfl⟩
  ·rw [show bR l l.length=l.length by rw [e1]; rfl]
  ·rw [e2,show bR l l.length=l.length by rw [e1]; rfl,fq (by rw [eH]; omega)]
 refine aZ (X:=Nat) (fun k=>[(0,.msl B (l.length * 2) 2 0 l.length),(3,.int .i64 k)]) (fun k H' nx'=>H'=H∧nx'=nx∧1 ≤ k∧k ≤ l.length∧bR l k=k∧ec l k=l.take k) (fun k=>l.length - k) 1 ⟨rfl,rfl,aO _,hpos,rfl,by match l,h0 with | a :: r,_=>rfl⟩ ag0 ?_;rintro k H' nx' ⟨rfl,rfl,k1,k2,k3,k4⟩;have hcl:=eH l;by_cases hk:k < l.length
 ·have tk:(k:Int) - 1=(k - 1:Nat):=by omega
  have q1:=rdX hk;have q2:=rdX (l:=l) (k:=k - 1) (by omega);have hd:=jW (l.getD k default) (l.getD (k - 1) default);by_cases he:l.getD k default=l.getD (k - 1) default
  ·have hs:=qU (B:=B) (n:=l.length * 2) hk (by omega);rw [bk he] at hd;have zz:=aI @tk (aI @hH (aI @bz (aI @hcl (aI @q1 (aI @q2 (aI @p6 (aI @acq (aI @hd @hs)))))))); repeat' (first|refine zW ?_|apply a_n|refine zO ?_|refine vZ ?_|refine cTZ ?_|(refine zGZ ?_ ?_ <;> (intro _hg; try (exfalso; omega)))|fail)
   refine aZ (X:=Nat × Spx) (fun x=>[(0,.msl B (l.length * 2) 2 0 l.length),(3,.int .i64 (bR l (k + x.1):Nat)),(4,.msl B (l.length * 2) 2 (k * 2) (l.length - k)),(5,.int .i64 x.1)]) (fun x H2 nx2=>x.2.length=l.length∧1 ≤ x.1∧k + x.1 ≤ l.length∧bR l (k + x.1) + 1 ≤ k + x.1∧H2=ao H' B (cX x.2)∧nx2=nx'∧(∀ p,k + x.1 ≤ p + 1→x.2.getD p default=l.getD p default)∧x.2.take (bR l (k + x.1))=ec l (k + x.1)) (fun x=>l.length - x.1) (1,l)
    ⟨rfl,aO _,hk,by dsimp only; rw [eR (by omega) he]; omega,hid,rfl,fun _ _=>rfl,by dsimp only; rw [eR (by omega) he,jO (by omega) he,k3,k4]⟩ (by simp (disch:=omega) only [agr,ZG,reduceEqDiff,↓reduceIte,eR (show k ≠ 0 by omega) he,k3]) ?_
   rintro ⟨j,L⟩ H2 nx2 ⟨a1,a2,a3,a4,rfl,rfl,a5,a6⟩;dsimp only at a1 a2 a3 a4 a5 a6 ⊢;have hcL:(cX L).length=l.length * 2:=by rw [eH,a1]
   by_cases hj:k + j < l.length
   ·have tj:(j:Int) - 1=(j - 1:Nat):=by omega
    have r1:=a5 (k + j) (by omega);have r2:=a5 (k + (j - 1)) (by omega);have s1:=rdX (l:=L) (k:=k + j) (by omega);have s2:=rdX (l:=L) (k:=k + (j - 1)) (by omega);rw [r1] at s1;rw [r2] at s2;rw [eM] at s1 s2;have hd2:=jW (l.getD (k + j) default) (l.getD (k + (j - 1)) default);by_cases hd:l.getD (k + j) default=l.getD (k + (j - 1)) default
    ·have hq:bR l (k + (j + 1))=bR l (k + j):=eR (l:=l) (k:=k + j) (by omega) (by rw [hd,show k + j - 1=k + (j - 1) by omega]);rw [bk hd] at hd2;clear zz;have zz:=aI @tj (aI @bz (aI @hcL (aI @s1 (aI @s2 (aI @p6 (aI @acn @hd2)))))); repeat' (first|refine zW ?_|apply a_n|refine zO ?_|refine vZ ?_|refine cFZ ?_|(refine zGZ ?_ ?_ <;> (intro _hg; try (exfalso; omega)))|fail)
     refine ⟨(j + 1,L),by dsimp only; omega,⟨a1,by dsimp only; omega,by dsimp only; omega,?_,rfl,rfl,fun p hp=>a5 p (by dsimp only at hp; omega),by dsimp only; rw [hq,show k + (j + 1)=k + j + 1 from rfl,jO (by omega) (by rw [hd,show k + j - 1=k + (j - 1) by omega])]; exact a6⟩,(have zz:=@hq; agZ)⟩;dsimp only;rw [hq];omega
    ·have hq:bR l (k + (j + 1))=bR l (k + j) + 1:=jH (l:=l) (k:=k + j) (by rw [show k + j - 1=k + (j - 1) by omega]; exact hd);have hlm:=Hw (l:=L) (k:=bR l (k + j)) (w:=l.getD (k + j) default) (by omega);rw [bq hd] at hd2;have hle:bR l (k + j) * 2 + 2 ≤ l.length * 2:=by omega
     clear zz;have zz:=aI @tj (aI @bz (aI @hcL (aI @s1 (aI @s2 (aI @p6 (aI @acn @hd2)))))); repeat' (first|refine zW ?_|apply a_n|refine zO ?_|refine vZ ?_|refine stZ ?_|refine cTZ ?_|(refine zGZ ?_ ?_ <;> (intro _hg; try (exfalso; omega)))|fail)
     refine ⟨(j + 1,L.set (bR l (k + j)) (l.getD (k + j) default)),by dsimp only; omega,⟨by simp [a1],by dsimp only; omega,by dsimp only; omega,?_,?_,rfl,fun p hp=>?_,by dsimp only; rw [hq,zZ (by omega),a6,show k + (j + 1)=k + j + 1 from rfl,jX (by rw [show k + j - 1=k + (j - 1) by omega]; exact hd)]⟩,(have zz:=@hq; agZ)⟩
     ·dsimp only;rw [hq];omega
     ·dsimp only;rw [ay,hlm]
     ·dsimp only at hp ⊢;rw [Be,List.getElem?_set_ne (by omega),← Be];exact a5 p (by omega)
   ·have hn:k + j=l.length:=by omega
    have hl1:=qU (B:=B) (n:=l.length * 2) (show bR l (k + j) < l.length by omega) (by omega);have hl2:=qO (B:=B) (n:=l.length * 2) (show bR l (k + j) ≤ l.length by omega) (by omega);clear zz;have zz:=aI @hl1 @hl2; repeat' (first|refine zW ?_|apply a_n|apply a_x|refine zO ?_|refine vZ ?_|(refine zGZ ?_ ?_ <;> (intro _hg; try (exfalso; omega)))|fail)
    refine Ec (H':=ao (ao H' B (cX L)) B (bu (cX L) (bR l (k + j) * 2) (be (.agg [.int .i64 0,.int .i64 0]) (l.length - bR l (k + j))))) ?_ ?_
    ·((try simp only [dh,ZA,reduceEqDiff,↓reduceIte,reduceAdd,reduceLeDiff]); (try with_reducible rfl))
     simp only [iG];rw [if_neg (by omega),aj];dsimp only;rw [if_pos ⟨hcL,trivial,rfl,rfl,by omega⟩];rfl
    ·clear zz;have zz:=@hl2; repeat' (first|refine zW ?_|apply a_n|apply a_r|refine zO ?_|refine vZ ?_|refine ak rfl ?_|refine r1Z ?_|fail)
     refine ⟨by rw [hn],⟨_,ay _ _ _ _,?_,?_⟩,rfl⟩
     ·have hz:(be (AV.agg [.int .i64 0,.int .i64 0]) (l.length - bR l (k + j))).length=(l.length - bR l (k + j)) * 2:=by simp [be,AV.cells]
      simp only [bu,dl,go,uS,hz,hcL];omega
     ·rw [← hn,← a6,← pZ];simp only [bu];rw [nq,vP (by rw [go,hcL]; omega),List.take_take,Nat.min_self]
  ·rw [bq he] at hd;have zz:=aI @tk (aI @hH (aI @bz (aI @hcl (aI @q1 (aI @q2 (aI @p6 (aI @acq @hd))))))); repeat' (first|refine zW ?_|apply a_n|refine zO ?_|refine vZ ?_|refine cFZ ?_|(refine zGZ ?_ ?_ <;> (intro _hg; try (exfalso; omega)))|fail)
   exact ⟨k + 1,by omega,⟨rfl,rfl,by omega,by omega,by rw [jH he,k3],by rw [jX he,k4,bW hk]⟩,ag0⟩
 ·repeat' (first|refine zW ?_|apply a_n|apply a_x|refine zO ?_|refine vZ ?_|(refine zGZ ?_ ?_ <;> (intro _hg; try (exfalso; omega)))|refine ak rfl ?_|refine r1Z ?_|fail)
  have e:l.length=k:=by omega
  refine ⟨by rw [e,k3],⟨_,hid,hcl,?_⟩,rfl⟩;rw [e,k3,k4,← pZ]
end Go.Proofs.YtpfkjcjgdilkkaaGreat
namespace Go.Proofs.YtpfkjcjgdilkkaaGreat
open Go Go.Abs
theorem EC (a b:Vtx):nu (.st [.int,.int]) (bG a) (bG b)=some (decide (a=b)):=by
 show dt [.int,.int] [.int .i64 a.color,.int .i64 a.label] [.int .i64 b.color,.int .i64 b.label]=_;rw [yz,jW]
theorem nR (v:Vtx) (ks:List Vtx):dv (.st [.int,.int]) (bG v) (ks.map bG)=some (if v ∈ ks then some (ks.idxOf v) else none):=ow _ bG EC v ks
theorem mW (v:Vtx):i6 (.st [.int,.int]) (bG v)=true:=rfl
def kf (l:List Spx) (i:Nat) (v:Vtx):List Nat:=(List.range i).filter fun k=>decide (v ∈ l.getD k default)
def nc (l:List Spx) (i j:Nat) (v:Vtx):List Nat:=kf l i v ++ if v ∈ (l.getD i default).take j then [i] else []
theorem zB {l:List Spx} {i:Nat} {v:Vtx}:kf l (i + 1) v=nc l i (l.getD i default).length v:=by
 unfold kf nc;rw [List.range_succ,xB,List.take_length]
 congr 1
 by_cases h:v ∈ l.getD i default
 ·rw [if_pos h]; simp only [List.filter,h,decide_true]
 ·rw [if_neg h]; simp only [List.filter,h,decide_false]
theorem Ao {l:List Spx} {i:Nat} {v:Vtx}:nc l i 0 v=kf l i v:=by unfold nc; simp
theorem AX {l:List Spx} {i j:Nat} {v:Vtx} (hj:j < (l.getD i default).length) (ha:cb bE (l.getD i default)):nc l i (j + 1) v=if v=(l.getD i default).getD j default then nc l i j v ++ [i] else nc l i j v:=by
 unfold nc;generalize l.getD i default=s at *;rw [bW hj];by_cases h:v=s.getD j default
 ·have hn:v ∉ s.take j:=fun hm=>by
    obtain ⟨k,hk,e⟩:=jp hm;rw [go] at hk;rw [List.getElem_take] at e;have:=cE ha (i:=k) (j:=j) (by omega) hj;rw [← h,← e] at this;have e2:s.getD k default=s[k]:=by simp [List.getD,show k < s.length by omega]
    rw [e2] at this;exact gn.ord.irr _ this
  rw [if_pos h,if_neg hn,if_pos (by rw [iH,h]; simp)];simp
 ·rw [if_neg h]
  congr 1
  have e:v ∈ s.take j ++ [s.getD j default] ↔ v ∈ s.take j:=by rw [iH,fV]; exact ⟨fun h'=>h'.resolve_right h,.inl⟩
  by_cases h2:v ∈ s.take j
  ·rw [if_pos (e.2 h2),if_pos h2]
  ·rw [if_neg (fun h=>h2 (e.1 h)),if_neg h2]
def xK (i:Nat):AV:=.int .i64 (i:Int)
structure IncOk (H:Hp) (b lo hi:Nat) (F:Vtx→List Nat) (ks:List Vtx) (vs:List AV):Prop where
 box:H b=some [.omap (ks.map bG) vs]
 len:vs.length=ks.length
 nodup:ks.Nodup
 dom:∀ v,v ∈ ks ↔ F v ≠ []
 row:∀ j,j < ks.length→Row H 1 (vs.getD j .undef) ((F (ks.getD j default)).map xK)
 bnd:∀ j B,j < ks.length→dB (vs.getD j .undef)=some B→lo ≤ B∧B < hi∧B ≠ b
 apart:∀ i j B,i < ks.length→j < ks.length→i ≠ j→dB (vs.getD i .undef)=some B→dB (vs.getD j .undef) ≠ some B
 lt:b < hi
theorem oZ {l:List AV} {i j:Nat} {x:AV} (h:i < l.length):(l.set i x).getD j .undef=if i=j then x else l.getD j .undef:=by
 simp only [List.getD,List.getElem?_set];split
 ·rename_i e; subst e; simp [h]
 ·rfl
theorem vC {α:Type} {l m:List α} {j:Nat} {d:α} (h:j < l.length):(l ++ m).getD j d=l.getD j d:=by
 simp [List.getD,fY h]
theorem s9 {α:Type} {l:List α} {x d:α}:(l ++ [x]).getD l.length d=x:=by simp [List.getD]
theorem lG {l:List Vtx} {v:Vtx} (h:v ∈ l):l.idxOf v < l.length∧l.getD (l.idxOf v) default=v:=by
 have h1:=BE.2 h;exact ⟨h1,by simp [List.getD,h1]⟩
theorem Az {l:List Vtx} (h:l.Nodup) {i j:Nat} (hi:i < l.length) (hj:j < l.length) (e:l.getD i default=l.getD j default):i=j:=by
 have hp:=uR.1 (List.nodup_iff_pairwise_ne.1 h);rw [show l.getD i default=l[i] by simp [List.getD,hi],show l.getD j default=l[j] by simp [List.getD,hj]] at e;rcases rh i j with c | c | c
 ·exact absurd e (hp i j hi hj c)
 ·exact c
 ·exact absurd e.symm (hp j i hj hi c)
theorem IncOk.same {H H':Hp} {b lo hi hi':Nat} {F:Vtx→List Nat} {ks:List Vtx} {vs:List AV} (h:IncOk H b lo hi F ks vs) (hb:H' b=H b) (hs:∀ x,lo ≤ x→x < hi→x ≠ b→H' x=H x) (hh:hi ≤ hi'):IncOk H' b lo hi' F ks vs :=
 ⟨hb.trans h.box,h.len,h.nodup,h.dom,fun j hj=>(h.row j hj).same fun B hB=>by have:=h.bnd j B hj hB; exact hs B this.1 this.2.1 this.2.2,fun j B hj hB=>by have:=h.bnd j B hj hB; exact ⟨this.1,by omega,this.2.2⟩,h.apart,by have:=h.lt; omega⟩
theorem IncOk.put {H H':Hp} {b lo hi hi' i:Nat} {F G:Vtx→List Nat} {ks:List Vtx} {vs:List AV} {w:Vtx} {sv:AV} (h:IncOk H b lo hi F ks vs) (hw:w ∈ ks) (hG:∀ v,G v=if v=w then F v ++ [i] else F v) (hrow:Row H' 1 sv ((F w ++ [i]).map xK)) (hB:∀ B,dB sv=some B→dB (vs.getD (ks.idxOf w) .undef)=some B ∨ hi ≤ B∧B < hi'∧B ≠ b) (hb:H' b=some [.omap (ks.map bG) (vs.set (ks.idxOf w) sv)])
    (hs:∀ x,lo ≤ x→x < hi→x ≠ b→dB (vs.getD (ks.idxOf w) .undef) ≠ some x→H' x=H x) (hh:hi ≤ hi') (hlo:lo ≤ hi):IncOk H' b lo hi' G ks (vs.set (ks.idxOf w) sv):=by
 obtain ⟨k1,k2⟩:=lG hw;have hl:=h.len;have hg:∀ j,(vs.set (ks.idxOf w) sv).getD j .undef=if ks.idxOf w=j then sv else vs.getD j .undef:=fun j=>oZ (by omega)
 have hne:∀ j,j < ks.length→ks.idxOf w ≠ j→ks.getD j default ≠ w:=fun j hj hn e=>hn (Az h.nodup k1 hj (by rw [k2,e]));refine ⟨hb,by simp [hl],h.nodup,fun v=>?_,fun j hj=>?_,fun j B hj=>?_,fun p q B hp hq hpq=>?_,by have:=h.lt; omega⟩
 ·rw [hG,h.dom];by_cases e:v=w
  ·subst e;rw [if_pos rfl];exact ⟨fun _=>by simp,fun _=>(h.dom v).1 hw⟩
  ·rw [if_neg e]
 ·rw [hg,hG];by_cases e:ks.idxOf w=j
  ·rw [if_pos e,if_pos (by rw [← e]; exact k2),← e,k2]; exact hrow
  ·rw [if_neg e,if_neg (hne j hj e)]
   exact (h.row j hj).same fun B hB'=>by
    have:=h.bnd j B hj hB';exact hs B this.1 this.2.1 this.2.2 fun h'=>h.apart (ks.idxOf w) j B k1 hj e h' hB'
 ·rw [hg];by_cases e:ks.idxOf w=j
  ·rw [if_pos e];intro hB';rcases hB B hB' with h' | h'
   ·have:=h.bnd _ B k1 h'; exact ⟨this.1,by omega,this.2.2⟩
   ·exact ⟨by omega,h'.2⟩
  ·rw [if_neg e];intro hB';have:=h.bnd j B hj hB';exact ⟨this.1,by omega,this.2.2⟩
 ·rw [hg,hg];by_cases e1:ks.idxOf w=p
  ·rw [if_pos e1,if_neg (by omega)];intro h1 h2;rcases hB B h1 with h' | h'
   ·exact h.apart (ks.idxOf w) q B k1 hq (by omega) h' h2
   ·have:=h.bnd q B hq h2; omega
  ·rw [if_neg e1];by_cases e2:ks.idxOf w=q
   ·rw [if_pos e2];intro h1 h2;rcases hB B h2 with h' | h'
    ·exact h.apart p (ks.idxOf w) B hp k1 (by omega) h1 h'
    ·have:=h.bnd p B hp h1; omega
   ·rw [if_neg e2]; exact h.apart p q B hp hq hpq
theorem IncOk.new {H H':Hp} {b lo hi hi' i:Nat} {F G:Vtx→List Nat} {ks:List Vtx} {vs:List AV} {w:Vtx} {sv:AV} (h:IncOk H b lo hi F ks vs) (hw:w ∉ ks) (hG:∀ v,G v=if v=w then F v ++ [i] else F v) (hrow:Row H' 1 sv ([i].map xK)) (hB:∀ B,dB sv=some B→hi ≤ B∧B < hi'∧B ≠ b) (hb:H' b=some [.omap ((ks ++ [w]).map bG) (vs ++ [sv])])
    (hs:∀ x,lo ≤ x→x < hi→x ≠ b→H' x=H x) (hh:hi ≤ hi') (hlo:lo ≤ hi):IncOk H' b lo hi' G (ks ++ [w]) (vs ++ [sv]):=by
 have hl:=h.len
 have hF:F w=[]:=by
  cases hf:F w with
  | nil=>rfl
  | cons a r=>exact absurd ((h.dom w).2 (by rw [hf]; simp)) hw
 have g1:∀ j,j < ks.length→(ks ++ [w]).getD j default=ks.getD j default∧(vs ++ [sv]).getD j .undef=vs.getD j .undef:=fun j hj=>⟨vC hj,vC (by omega)⟩
 have g2:(ks ++ [w]).getD ks.length default=w∧(vs ++ [sv]).getD ks.length .undef=sv:=⟨s9,by rw [← hl]; exact s9⟩
 refine ⟨hb,by simp [hl],?_,fun v=>?_,fun j hj=>?_,fun j B hj=>?_,fun p q B hp hq hpq=>?_,by have:=h.lt; omega⟩
 ·rw [yo];exact ⟨h.nodup,by simp,fun a ha c hc e=>by rw [fV] at hc; exact hw (by rw [← hc,← e]; exact ha)⟩
 ·rw [hG,iH,fV];by_cases e:v=w
  ·subst e; rw [if_pos rfl]; simp
  ·rw [if_neg e,← h.dom]; simp [e]
 ·rw [dl,List.length_singleton] at hj;by_cases e:j=ks.length
  ·subst e;rw [g2.1,g2.2,hG,if_pos rfl,hF]; exact hrow
  ·obtain ⟨e1,e2⟩:=g1 j (by omega);have hne:ks.getD j default ≠ w:=fun e'=>hw (e' ▸ a7 (by omega));rw [e1,e2,hG,if_neg hne];exact (h.row j (by omega)).same fun B hB'=>by have:=h.bnd j B (by omega) hB'; exact hs B this.1 this.2.1 this.2.2
 ·rw [dl,List.length_singleton] at hj;by_cases e:j=ks.length
  ·subst e;rw [g2.2]; intro hB';have:=hB B hB'; exact ⟨by omega,this.2⟩
  ·rw [(g1 j (by omega)).2]; intro hB';have:=h.bnd j B (by omega) hB'; exact ⟨this.1,by omega,this.2.2⟩
 ·rw [dl,List.length_singleton] at hp hq;by_cases e1:p=ks.length
  ·subst e1;rw [g2.2,(g1 q (by omega)).2];intro h1 h2;have:=hB B h1;have:=h.bnd q B (by omega) h2;omega
  ·rw [(g1 p (by omega)).2];by_cases e2:q=ks.length
   ·subst e2;rw [g2.2];intro h1 h2;have:=hB B h2;have:=h.bnd p B (by omega) h1;omega
   ·rw [(g1 q (by omega)).2]; exact h.apart p q B (by omega) (by omega) hpq
theorem fl {H:Hp} {d:Nat} {x:AV}:ed 1 (ao H d [x]) (.msl d 1 1 0 1)=some (1,[x]):=kW (n:=1) (len:=1) (off:=0) (cs:=[x]) aj rfl (by simp)
theorem uZ {l:List Spx} {i:Nat} {v:Vtx}:(kf l i v).length ≤ i:=by
 unfold kf;have:=List.length_filter_le (fun k=>decide (v ∈ l.getD k default)) (List.range i)
 rwa [List.length_range] at this
theorem Cu {l:List Spx} {i j:Nat} {v:Vtx}:(nc l i j v).length ≤ i + 1:=by
 unfold nc;have:=uZ (l:=l) (i:=i) (v:=v);rw [dl];split <;> simp <;> omega
attribute [local irreducible] aW av bQ bO bl bB aU bx bT cK Go.Abs.Fn bL Go.Abs.Pure aS bg Yl
set_option maxHeartbeats 2000000 in
theorem pF (l:List Spx) (hl:l.length ≤ 100000) (hs:∀ s ∈ l,cb bE s∧s.length ≤ 1000000) (H:Hp) (nx:Nat):Abs.Fn Tryz.prog 65 [aE l] H nx fun r H' nx'=>∃ ks vs,r=.mp nx∧IncOk H' nx nx nx' (kf l l.length) ks vs∧(∀ x,x < nx→H' x=H x)∧nx < nx':=by
 refine Abs.Fn.of_c2 follows Gv (ba rfl) ?_;simp only [b65,aK];refine ef ?_
 repeat' (first|apply a_n|refine zO ?_|refine vZ ?_|fail)
 refine ef ?_
 repeat' (first|apply a_n|refine zO ?_|fail)
 refine Bq ?_;have zz:=@an; repeat' (first|refine zW ?_|apply a_n|refine zO ?_|refine vY ?_|fail)
 refine aZ (X:=Nat × List Vtx × List AV) (fun x=>[(3,.mp nx),(9,aE l),(10,.int .i64 l.length),(11,.int .i64 x.1)]) (fun x H' nx'=>x.1 ≤ l.length∧IncOk H' nx nx nx' (kf l x.1) x.2.1 x.2.2∧(∀ y,y < nx→H' y=H y)∧nx < nx') (fun x=>l.length - x.1) (0,[],[]) ⟨cq _,⟨aj,rfl,List.nodup_nil,fun v=>by simp [kf],fun j h=>absurd h (by simp),fun j B h=>absurd h (by simp),fun i j B h=>absurd h (by simp),by omega⟩,fun y hy=>ah (by omega),by omega⟩ ag0 ?_;rintro ⟨i,ks,vs⟩ H1 nx1 ⟨h1,h2,h3,h4⟩;dsimp only at h1 h2 ⊢;by_cases hi:i < l.length
 rotate_left
 ·obtain rfl:i=l.length:=by omega
  repeat' (first|refine zW ?_|apply a_n|apply a_x|refine zO ?_|refine vY ?_|(refine zGY ?_ ?_ <;> (intro _hg; try (exfalso; omega)))|refine ak rfl ?_|refine r1Y ?_|fail)
  exact ⟨ks,vs,rfl,h2,h3,h4⟩
 have ix:=fC hi;obtain ⟨hsa,hsl⟩:=hs _ (a7 hi);have hstep:=fun j v hj=>AX (l:=l) (i:=i) (j:=j) (v:=v) hj hsa;have hend:=fun v=>zB (l:=l) (i:=i) (v:=v);have hlen:=fun j v=>Cu (l:=l) (i:=i) (j:=j) (v:=v);have h20:IncOk H1 nx nx nx1 (nc l i 0) ks vs:=by rw [show nc l i 0=kf l i from funext fun v=>Ao]; exact h2
 have hend':kf l (i + 1)=nc l i (l.getD i default).length:=funext hend;clear zz;clear h2;generalize l.getD i default=s at *;have zz:=aI @ix @ap; repeat' (first|refine zW ?_|apply a_n|refine zO ?_|refine vY ?_|(refine zGY ?_ ?_ <;> (intro _hg; try (exfalso; omega)))|fail)
 refine aZ (X:=Nat × List Vtx × List AV) (fun x=>[(3,.mp nx),(9,aE l),(10,.int .i64 l.length),(11,.int .i64 i),(4,.int .i64 i),(5,ar s),(16,ar s),(17,.int .i64 s.length),(18,.int .i64 x.1)]) (fun x H' nx'=>x.1 ≤ s.length∧IncOk H' nx nx nx' (nc l i x.1) x.2.1 x.2.2∧(∀ y,y < nx→H' y=H y)∧nx < nx') (fun x=>s.length - x.1) (0,ks,vs) ⟨cq _,h20,h3,h4⟩ ag0 ?_;clear zz;clear h20 h3 h4;rintro ⟨j,ks,vs⟩ H2 nx2 ⟨k1,k2,k3,k4⟩;dsimp only at k1 k2 ⊢;by_cases hj:j < s.length
 rotate_left
 ·obtain rfl:j=s.length:=by omega
  repeat' (first|refine zW ?_|apply a_n|apply a_x|refine zO ?_|refine vY ?_|(refine zGY ?_ ?_ <;> (intro _hg; try (exfalso; omega)))|fail)
  exact ⟨(i + 1,ks,vs),by dsimp only; omega,⟨by dsimp only; omega,by dsimp only; rw [hend']; exact k2,k3,k4⟩,ag0⟩
 have iy:=ix2 hj;have hG:=fun v=>hstep j v hj;have hcl:=hlen j (s.getD j default);generalize s.getD j default=w at *;have zz:=@iy; repeat' (first|refine zW ?_|apply a_n|refine zO ?_|refine vY ?_|refine alY ?_|refine stY ?_|refine blY ?_|(refine zGY ?_ ?_ <;> (intro _hg; try (exfalso; omega)))|fail)
 have g3:∀ x,x < nx2→ao (ao (ao H2 nx2 [.int .i64 0,.int .i64 0]) nx2 (bu [.int .i64 0,.int .i64 0] 0 [.int .i64 w.color,.int .i64 w.label])) (nx2 + 1) [.int .i64 i] x=H2 x:=fun x hx=>by rw [ah (by omega),ah (by omega),ah (by omega)]
 have g4:ao (ao (ao H2 nx2 [.int .i64 0,.int .i64 0]) nx2 (bu [.int .i64 0,.int .i64 0] 0 [.int .i64 w.color,.int .i64 w.label])) (nx2 + 1) [.int .i64 i] (nx2 + 1)=some [.int .i64 i]:=aj;generalize ao (ao (ao H2 nx2 [.int .i64 0,.int .i64 0]) nx2 (bu [.int .i64 0,.int .i64 0] 0 [.int .i64 w.color,.int .i64 w.label])) (nx2 + 1) [.int .i64 i]=H3 at *;have hmf:=nR w ks;have hkl:(ks.map bG).length=ks.length:=cr ..;by_cases hw:w ∈ ks
 ·rw [if_pos hw] at hmf;obtain ⟨m1,m2⟩:=lG hw;have hr:=k2.row (ks.idxOf w) m1;rw [m2] at hr;refine Cl ev0 ((g3 nx (by omega)).trans k2.box) ev0 (mW w) hmf ?_;have g5:∀ x,x < nx2→x ≠ nx→ao H3 nx [.omap (cI (bG w) (some (ks.idxOf w)) (ks.map bG)) (kC .esl (some (ks.idxOf w)) vs)] x=H2 x:=fun x hx hn=>by rw [ah hn,g3 x hx]
  have g6:ao H3 nx [.omap (cI (bG w) (some (ks.idxOf w)) (ks.map bG)) (kC .esl (some (ks.idxOf w)) vs)] nx=some [.omap (ks.map bG) vs]:=aj;have g7:ao H3 nx [.omap (cI (bG w) (some (ks.idxOf w)) (ks.map bG)) (kC .esl (some (ks.idxOf w)) vs)] (nx2 + 1)=some [.int .i64 i]:=by rw [ah (by omega)]; exact g4
  generalize ao H3 nx [.omap (cI (bG w) (some (ks.idxOf w)) (ks.map bG)) (kC .esl (some (ks.idxOf w)) vs)]=H4 at *;rw [show xz .esl (some (ks.idxOf w)) vs=vs.getD (ks.idxOf w) .undef from rfl,show vL (some (ks.idxOf w)) (ks.map bG)=ks.idxOf w from rfl]
  repeat' (first|apply a_n|refine zO ?_|refine vY ?_|fail)
  refine jb (k:=1) (new:=[.int .i64 i]) rfl ev0 (hr.same fun B hB=>?_) ev0 (kW (n:=1) (len:=1) (off:=0) g7 rfl (by omega)) rfl rfl mi (by rw [cr]; omega) (by rw [cr]; omega) ?_
  ·have:=k2.bnd _ B m1 hB;exact g5 B this.2.1 this.2.2
  rintro s2 H5 nx5 hr5 i1 i2 i3 i4
  repeat' (first|apply a_n|refine zO ?_|refine vY ?_|fail)
  refine Bk ev0 ((i3 nx (by omega) (fun h=>(k2.bnd _ nx m1 h).2.2 rfl)).trans g6) ev0 (by rw [hkl]; exact m1) ev0 ?_
  repeat' (first|apply a_n|refine zO ?_|refine vY ?_|fail)
  refine ⟨(j + 1,ks,vs.set (ks.idxOf w) s2),by dsimp only; omega,⟨by dsimp only; omega,IncOk.put k2 hw hG ?_ (fun B hB=>?_) aj (fun x hx hx2 hxn hxr=>?_) (by omega) (by omega),fun y hy=>?_,by omega⟩,ag0⟩
  ·rw [f9]
   exact hr5.same fun B hB=>ah fun e=>by
    rcases i4 B hB with h | h
    ·exact (k2.bnd _ B m1 h).2.2 e
    ·omega
  ·rcases i4 B hB with h | h
   ·exact .inl h
   ·exact .inr (by omega)
  ·rw [ah hxn,i3 x (by omega) hxr,g5 x hx2 hxn]
  ·rw [ah (by omega),i3 y (by omega) (fun h=>by have:=k2.bnd _ y m1 h; omega),g5 y (by omega) (by omega)]; exact k3 y hy
 ·rw [if_neg hw] at hmf;refine Cl ev0 ((g3 nx (by omega)).trans k2.box) ev0 (mW w) hmf ?_;have g5:∀ x,x < nx2→x ≠ nx→ao H3 nx [.omap (cI (bG w) none (ks.map bG)) (kC .esl none vs)] x=H2 x:=fun x hx hn=>by rw [ah hn,g3 x hx]
  have g6:ao H3 nx [.omap (cI (bG w) none (ks.map bG)) (kC .esl none vs)] nx=some [.omap (ks.map bG ++ [bG w]) (vs ++ [.esl])]:=aj;have g7:ao H3 nx [.omap (cI (bG w) none (ks.map bG)) (kC .esl none vs)] (nx2 + 1)=some [.int .i64 i]:=by rw [ah (by omega)]; exact g4
  generalize ao H3 nx [.omap (cI (bG w) none (ks.map bG)) (kC .esl none vs)]=H4 at *;rw [show xz .esl none vs=.esl from rfl,show vL none (ks.map bG)=ks.length from hkl]
  repeat' (first|apply a_n|refine zO ?_|refine vY ?_|fail)
  refine jb (k:=1) (new:=[.int .i64 i]) (cs:=[]) rfl ev0 Row.nil ev0 (kW (n:=1) (len:=1) (off:=0) g7 rfl (by omega)) rfl rfl mi (by simp) (by simp) ?_;rintro s2 H5 nx5 hr5 i1 i2 i3 i4;have i4':∀ B,dB s2=some B→B=nx2 + 1 + 1∧nx5=nx2 + 1 + 1 + 1:=fun B hB=>(i4 B hB).elim (fun h=>by cases h) id
  repeat' (first|apply a_n|refine zO ?_|refine vY ?_|fail)
  refine Bk (i:=ks.length) ev0 ((i3 nx (by omega) (fun h=>by cases h)).trans g6) ev0 (by rw [dl,hkl]; simp) ev0 ?_;have hset:(vs ++ [AV.esl]).set ks.length s2=vs ++ [s2]:=by rw [← k2.len]; simp
  rw [hset]
  repeat' (first|apply a_n|refine zO ?_|refine vY ?_|fail)
  refine ⟨(j + 1,ks ++ [w],vs ++ [s2]),by dsimp only; omega,⟨by dsimp only; omega,IncOk.new k2 hw hG ?_ (fun B hB=>?_) (by rw [f9]; exact aj) (fun x hx hx2 hxn=>?_) (by omega) (by omega),fun y hy=>?_,by omega⟩,ag0⟩
  ·exact hr5.same fun B hB=>ah (by have:=i4' B hB; omega)
  ·have:=i4' B hB; omega
  ·rw [ah hxn,i3 x (by omega) (fun h=>by cases h),g5 x hx2 hxn]
  ·rw [ah (by omega),i3 y (by omega) (fun h=>by cases h),g5 y (by omega) (by omega)]; exact k3 y hy
def bH (l:List Spx) (s:Spx):Bool:=l.any fun t=>decide (s.length < t.length) && cT s t
def mg (c:List Spx) (k:Nat):Int:=if cm (c.getD k default) ≠ 0 then cm (c.getD k default) else if 0 < k∧0 ≤ bJ (c.getD (k - 1) default) (c.getD k default) then 14 else 0
def aH (c:List Spx):Int:=if 4096 < c.length then 5 else if dw (mg c) c.length ≠ 0 then dw (mg c) c.length else if c.any (bH c)=true then 7 else 0
theorem dR {a b:Spx}:cT a b=true ↔ ∀ v ∈ a,v ∈ b:=by
 unfold cT; rw [dL];exact ⟨fun h v hv=>o0 (h v hv),fun h v hv=>bk (h v hv)⟩
theorem ca {l:List Spx} {s:Spx}:bH l s=true ↔ ∃ t ∈ l,s.length < t.length∧∀ v ∈ s,v ∈ t:=by
 unfold bH; rw [kY];constructor
 ·rintro ⟨t,ht,h⟩;rw [eL,ux,dR] at h;exact ⟨t,ht,h⟩
 ·rintro ⟨t,ht,h⟩;exact ⟨t,ht,by rw [eL,ux,dR]; exact h⟩
theorem xy {a b:Spx} (ha:cb bE a) (hb:cb bE b) (h:∀ v ∈ a,v ∈ b) (hne:a ≠ b):a.length < b.length:=by
 have h1:a.length ≤ b.length:=xR (ha.nodup gn) h;rcases rP a.length b.length with h2 | h2
 ·exact h2
 ·exfalso;refine hne (fh gn ha hb fun x=>⟨h x,fun hx=>Decidable.byContradiction fun hn=>?_⟩)
  have h3:(x :: a).length ≤ b.length:=xR (List.nodup_cons.2 ⟨hn,ha.nodup gn⟩) fun y hy=>by
   rcases e9.1 hy with rfl | hy
   ·exact hx
   ·exact h y hy
  rw [cS] at h3;omega
theorem yy {c:List Spx} (h:dw (mg c) c.length=0):(∀ s ∈ c,cm s=0)∧cb bJ c:=by
 have hz:=ip h
 have h3:∀ k,k < c.length→cm (c.getD k default)=0∧(0 < k→bJ (c.getD (k - 1) default) (c.getD k default) < 0):=fun k hk=>by
  have:=hz k hk;unfold mg at this;split at this
  ·exact absurd this ‹_›
  rename_i g1;split at this
  ·exact absurd this (by decide)
  rename_i g2;exact ⟨mF g1,fun h0=>by omega⟩
 constructor
 ·intro s hs;obtain ⟨i,hi,rfl⟩:=jp hs;have:=(h3 i hi).1
  rwa [show c.getD i default=c[i] by simp [List.getD,hi]] at this
 ·have step:∀ j i,i < j→j < c.length→bJ (c.getD i default) (c.getD j default) < 0:=by
    intro j
    induction j with
    | zero=>intro i h; omega
    | succ j ih =>
     intro i hi hj;have hs:=(h3 (j + 1) hj).2 (by omega);rw [kg] at hs;by_cases e:i=j
     ·subst e; exact hs
     ·exact jT.trans (ih i (by omega) (by omega)) hs
  unfold cb;rw [uR];intro i j hi hj hij;have:=step j i hij hj;simpa [List.getD,hi,hj] using this
theorem cA {c:List Spx} (h:aH c=0):c.length ≤ 4096∧(∀ s ∈ c,cm s=0)∧cb bJ c∧∀ s ∈ c,bH c s=false:=by
 unfold aH at h;split at h
 ·exact absurd h (by decide)
 split at h
 ·exact absurd h ‹_›
 split at h
 ·exact absurd h (by decide)
 rename_i h1 h2 h3;have:=yy (mF h2);refine ⟨by omega,this.1,this.2,fun s hs=>?_⟩;cases hc:bH c s
 ·rfl
 ·exact absurd (kY.2 ⟨s,hs,hc⟩) h3
theorem wo {c:List Spx} (h1:c.length ≤ 4096) (h2:∀ s ∈ c,cm s=0) (h3:cb bJ c) (h4:∀ s ∈ c,bH c s=false):aH c=0:=by
 have hz:dw (mg c) c.length=0:=dx fun k hk=>by
  unfold mg;rw [h2 _ (a7 hk),if_neg (by simp),if_neg];rintro ⟨h0,h5⟩;have:=cE h3 (i:=k - 1) (j:=k) (by omega) hk;omega
 unfold aH;rw [if_neg (by omega),hz,if_neg (by simp),if_neg];rw [kY];rintro ⟨s,hs,h⟩;rw [h4 s hs] at h; cases h
theorem Dk {l:List Spx} {s:Spx} {p:Spx→Bool} (h0:0 < s.length) (hp:∀ t,p t=true→s.getD 0 default ∈ t):((kf l l.length (s.getD 0 default)).map fun (n:Nat)=>(n:Int)).any (fun i=>p (l.getD i.toNat default))=l.any p:=by
 rw [Bool.eq_iff_iff,kY,kY];constructor
 ·rintro ⟨x,hx,h⟩;obtain ⟨n,hn,rfl⟩:=cL.1 hx;unfold kf at hn;obtain ⟨h1,_⟩:=fZ.1 hn;rw [bz] at h;exact ⟨_,a7 (ju.1 h1),h⟩
 ·rintro ⟨t,ht,h⟩;obtain ⟨i,hi,rfl⟩:=jp ht;have e:l.getD i default=l[i]:=by simp [List.getD,hi]
  refine ⟨(i:Int),cL.2 ⟨i,fZ.2 ⟨ju.2 hi,bk ?_⟩,rfl⟩,?_⟩
  ·rw [e]; exact hp _ h
  ·rw [bz,e]; exact h
theorem Ay (l:List Int) (p:Int→Bool) (g:Nat) (caps:List AV) (hd:∀ x ∈ caps,Dat x) (hg:∀ x ∈ l,Pure Tryz.prog g (.int .i64 x :: caps) (.bool (p x))) (hl:Shn l):Pure Tryz.prog 110 [cu l,.func g caps] (.int .i64 (if l.any p then (l.findIdx p:Nat) else -1)):=by
 refine Pure.of_c2 follows D4 (ba rfl) ?_;simp only [EH,aK];have hl':l.length ≤ 17592186044416:=hl
 repeat' (first|refine zW ?_|apply a_n|refine zO ?_|refine vZ ?_|fail)
 refine aZ (X:=Nat) (fun k=>[(0,cu l),(1,.func g caps),(6,cu l),(7,.int .i64 l.length),(8,.int .i64 k)]) (fun k H nx=>k ≤ l.length∧∀ i,i < k→p (l.getD i default)=false) (fun k=>l.length - k) 0 ⟨cq _,fun i h=>absurd h (by omega)⟩ ag0 ?_;rintro k H nx ⟨hk,hz⟩;by_cases hk2:k < l.length
 rotate_left
 ·rw [il fun i hi=>hz i (by omega),if_neg (by decide)]
  repeat' (first|refine zW ?_|apply a_n|apply a_x|refine zO ?_|refine vY ?_|(refine zGY ?_ ?_ <;> (intro _hg; try (exfalso; omega)))|refine ak rfl ?_|refine r1Y ?_|fail)
  exact dg rfl
 have hc:=hg _ (aB hk2);cases hp:p (l.getD k default)
 ·rw [hp] at hc
  repeat' (first|refine zW ?_|apply a_n|refine zO ?_|refine vY ?_|(refine zGY ?_ ?_ <;> (intro _hg; try (exfalso; omega)))|fail)
  refine dG ev0 ev0 hc (ag (aw (.int _ _) (aC hd))) ?_
  repeat' (first|apply a_n|refine zO ?_|refine vY ?_|refine cFY ?_|fail)
  exact ⟨k + 1,by omega,⟨by omega,fun i hi=>by
   rcases gI.1 hi with h | rfl
   ·exact hz i h
   ·exact hp⟩,ag0⟩
 ·rw [hp] at hc;obtain ⟨e1,e2⟩:=iL hk2 hz hp;rw [e1,e2,if_pos rfl]
  repeat' (first|refine zW ?_|apply a_n|refine zO ?_|refine vY ?_|(refine zGY ?_ ?_ <;> (intro _hg; try (exfalso; omega)))|fail)
  refine dG ev0 ev0 hc (ag (aw (.int _ _) (aC hd))) ?_
  repeat' (first|refine zW ?_|apply a_n|apply a_r|refine zO ?_|refine vY ?_|refine cTY ?_|refine ak rfl ?_|refine r1Y ?_|fail)
  exact .int _ _
theorem uT (l:List Int) (p:Int→Bool) (g:Nat) (caps:List AV) (hd:∀ x ∈ caps,Dat x) (hg:∀ x ∈ l,Pure Tryz.prog g (.int .i64 x :: caps) (.bool (p x))) (hl:Shn l):Pure Tryz.prog 99 [cu l,.func g caps] (.bool (l.any p)):=by
 refine Pure.of_c2 follows Gy (ba rfl) ?_;simp only [b99,aK];have h:=Ay l p g caps hd hg hl
 repeat' (first|refine zW ?_|apply a_n|refine zO ?_|refine vZ ?_|refine cZ ?_ (hp:=h) (hs:=by (first | refine af ?_ rfl | apply ag); (repeat' (first | exact ae | apply am | apply ai | exact fS _ | exact Dat.func hd)); first | done | fail)|refine ak rfl ?_|refine r1Z ?_|fail)
 cases hA:l.any p
 ·exact bF (by simp)
 ·exact bF (by simp)
def OkS (l:List Spx):Prop:=l.length ≤ 100000∧∀ s ∈ l,cb bE s∧s.length ≤ 1000
theorem yf (l:List Spx) (s:Spx) (i:Nat) (hl:OkS l) (hs:cb bE s∧s.length ≤ 1000) (hi:i < l.length):Pure Tryz.prog 100 [.int .i64 i,.iptr [aE l] 0,.iptr [ar s] 0] (.bool (decide (s.length < (l.getD i default).length) && cT s (l.getD i default))):=by
 refine Pure.of_c2 follows D6 (ba rfl) ?_;simp only [Fh,aK];have ix:=fC hi;obtain ⟨t1,t2⟩:=hl.2 _ (a7 hi);have hf:=FP s (l.getD i default) hs.1 t1 (by omega) (by omega);generalize l.getD i default=t at *;by_cases h:s.length < t.length
 ·have z:decide ((s.length:Int) < t.length)=true:=bk (by omega);rw [bk h,Bool.true_and];have zz:=aI @ap (aI @ix @z); repeat' (first|refine zW ?_|refine zM ?_|apply a_n|refine zO ?_|refine vZ ?_|refine cZ ?_ (hp:=hf) (hs:=by (first | refine af ?_ rfl | apply ag); (repeat' (first | exact ae | apply am | apply ai | exact aA _)); first | done | fail)|refine gTZ ?_|refine ak rfl ?_|refine r1Z ?_|fail)
  exact .bool _
 ·have z:decide ((s.length:Int) < t.length)=false:=bq (by omega);rw [bq h,Bool.false_and];have zz:=aI @ap (aI @ix @z); repeat' (first|refine zW ?_|refine zM ?_|apply a_n|refine zO ?_|refine vZ ?_|refine gFZ ?_|refine ak rfl ?_|refine r1Z ?_|fail)
  exact .bool _
theorem sW (l:List Spx) (s:Spx) (hl:OkS l) (hs:cb bE s∧s.length ≤ 1000) (h0:0 < s.length):Pure Tryz.prog 66 [aE l,cu ((kf l l.length (s.getD 0 default)).map fun (n:Nat)=>(n:Int)),ar s] (.bool (bH l s)):=by
 refine Pure.of_c2 follows Hr (ba rfl) ?_;simp only [b66,aK];have hll:=hl.1
 have h:=uT ((kf l l.length (s.getD 0 default)).map fun (n:Nat)=>(n:Int)) (fun i=>decide (s.length < (l.getD i.toNat default).length) && cT s (l.getD i.toNat default)) 100 [.iptr [aE l] 0,.iptr [ar s] 0] (DatL.cons (Dat.iptr (DatL.cons (bi _) DatL.nil)) (DatL.cons (Dat.iptr (DatL.cons (aA _) DatL.nil)) DatL.nil)) (fun x hx=>by
  obtain ⟨n,hn,rfl⟩:=cL.1 hx;have hn2:n < l.length:=ju.1 (fZ.1 hn).1;rw [bz];exact yf l s n hl hs hn2) (by rw [Shn,cr]; have:=uZ (l:=l) (i:=l.length) (v:=s.getD 0 default); omega)
 rw [Dk (p:=fun t=>decide (s.length < t.length) && cT s t) h0 (fun t ht=>by
  rw [eL,dR] at ht;exact ht.2 _ (a7 h0))] at h
 have zz:=aI @aD (aI @au (aI @aQ @aG)); repeat' (first|refine zW ?_|apply a_n|refine zO ?_|refine vZ ?_|refine bxZ ?_|fail)
 refine dG (have zz:=aI @aD (aI @au (aI @aQ @aG)); evZ) (have zz:=aI @aD (aI @au (aI @aQ @aG)); evZ) h (af (aw (fS _ _) (aw (lC (aw (jk rfl rfl (aw (bi _ _) ae)) (aw (jk rfl rfl (aw (aA _ _) ae)) ae))) ae)) rfl) ?_
 repeat' (first|apply a_n|refine zO ?_|refine vZ ?_|refine ak rfl ?_|refine r1Z ?_|fail)
 exact .bool _
theorem wn {H:Hp} {sv:AV} {F:List Nat} (h:Row H 1 sv (F.map xK)):Snap H sv (cu (F.map fun (n:Nat)=>(n:Int))):=by
 refine Row.snapI ?_;rw [List.map_map]; exact h
theorem rS {c:List Spx} {k:Nat}:mg c k=if cm (c.getD k default) ≠ 0 then cm (c.getD k default) else if 0 < k∧0 ≤ bJ (c.getD (k - 1) default) (c.getD k default) then 14 else 0:=rfl
theorem B8 {c:List Spx} (h1:c.length ≤ 4096) (h:∀ s ∈ c,cm s=0):OkS c:=⟨by omega,fun s hs=>by
 obtain ⟨a1,a2,a3,a4⟩:=cg (h s hs);exact ⟨a3,by omega⟩⟩
theorem u0 {H:Hp} {b:Nat} {cs:List AV} (h:H b=some cs):Sub (only b cs) H:=fun x c hx=>by
 unfold only at hx;split at hx
 ·rename_i e; rw [e,h]; exact hx
 ·cases hx
def on2 (b1:Nat) (c1:List AV) (b2:Nat) (c2:List AV):Hp:=fun x=>if x=b1 then some c1 else if x=b2 then some c2 else none
theorem GB {b1 b2:Nat} {c1 c2:List AV}:on2 b1 c1 b2 c2 b1=some c1:=if_pos rfl
theorem GJ {b1 b2:Nat} {c1 c2:List AV} (h:b2 ≠ b1):on2 b1 c1 b2 c2 b2=some c2:=by unfold on2; rw [if_neg h,if_pos rfl]
theorem yL {b1 b2:Nat} {c1 c2:List AV} {H:Hp} (h1:H b1=some c1) (h2:H b2=some c2):Sub (on2 b1 c1 b2 c2) H:=fun x cs h=>by
 unfold on2 at h;split at h
 ·rename_i e; rw [e,h1]; exact h
 ·split at h
  ·rename_i e; rw [e,h2]; exact h
  ·cases h
theorem nW {P:Program} {T:Tm} {H:Hp} {nx:Nat} (b1 b2:Nat) {c1 c2:List AV} {K:CP} {m:Nat} {l:List Op2} {C:List (Nat × Nat)} (h1:H b1=some c1) (h2:H b2=some c2) (hne:b2 ≠ b1) (k:∀ S:Hp,S b1=some c1→S b2=some c2→(∀ H':Hp,H' b1=some c1→H' b2=some c2→Sub S H')→bt P S (C.map fun k=>(l.getD k.1 ⟨none,none,.dead⟩,k.2)) T H nx fun T H nx=>K .normal T H nx):aW P (.mixS m l C) T H nx K :=
 xZ (on2 b1 c1 b2 c2) rfl (yL h1 h2) (k _ GB (GJ hne) fun _ a b=>yL a b)
theorem ot {P:Program} {T:Tm} {H:Hp} {nx:Nat} (b:Nat) {c:List AV} {K:CP} {m:Nat} {l:List Op2} {C:List (Nat × Nat)} (h:H b=some c) (k:∀ S:Hp,S b=some c→(∀ H':Hp,H' b=some c→Sub S H')→bt P S (C.map fun k=>(l.getD k.1 ⟨none,none,.dead⟩,k.2)) T H nx fun T H nx=>K .normal T H nx):aW P (.mixS m l C) T H nx K :=
 xZ (only b c) rfl (u0 h) (k _ nG fun _ h=>u0 h)
set_option maxHeartbeats 2000000 in
theorem jw (c:List Spx) (hc:Shn c) (hs:∀ s ∈ c,Shn s):Pure Tryz.prog 26 [d9 c] (.int .i64 (aH c)):=by
 refine Pure.of_c2 follows Gi (ba rfl) ?_;simp only [b26,aK];have hc':c.length ≤ 17592186044416:=hc;by_cases h0:4096 < c.length
 ·rw [show aH c=5 by unfold aH; rw [if_pos h0]];have zz:=aI @an (aI @aD @au); repeat' (first|refine zW ?_|apply a_n|apply a_r|refine zO ?_|refine vZ ?_|refine bxZ ?_|(refine zGZ ?_ ?_ <;> (intro _hg; try (exfalso; omega)))|refine ak rfl ?_|refine r1Z ?_|fail)
  all_goals exact dg rfl
 rw [show aH c=if dw (mg c) c.length ≠ 0 then dw (mg c) c.length else if c.any (bH c)=true then 7 else 0 by unfold aH; rw [if_neg h0]];refine ef ?_;have zz:=aI @an (aI @aD @au); repeat' (first|apply a_n|refine zO ?_|refine vZ ?_|refine bxZ ?_|fail)
 refine ef (ef ?_);clear zz;have zz:=aI @an (aI @aD @au); repeat' (first|apply a_n|refine zO ?_|refine vZ ?_|(refine zGZ ?_ ?_ <;> (intro _hg; try (exfalso; omega)))|fail)
 by_cases hz:dw (mg c) c.length ≠ 0
 ·rw [if_pos hz];clear zz;have zz:=aI @an (aI @aD @au); repeat' (first|refine zW ?_|apply a_n|refine zO ?_|refine vZ ?_|fail)
  refine aZ (X:=Nat) (fun k=>[(1,.ptr 0 1 0),(14,aE c),(15,.int .i64 c.length),(16,.int .i64 k)]) (fun k H nx=>k ≤ c.length∧H 0=some [aE c]∧∀ i,i < k→mg c i=0) (fun k=>c.length - k) 0 ⟨cq _,rfl,fun i h=>absurd h (by omega)⟩ (by (iterate 4 refine And.intro rfl ?_); trivial) ?_;rintro k H nx ⟨h1,g0,h2⟩;by_cases hk:k < c.length
  rotate_left
  ·exact absurd (dx fun i hi=>h2 i (by omega)) hz
  have ix:=fC hk;have hs1:=hs _ (a7 hk);have hp:=nJ (c.getD k default) hs1;have hsp:=rS (c:=c) (k:=k);by_cases he:cm (c.getD k default) ≠ 0
  ·rw [if_pos he] at hsp;rw [dr hk h2 (by rw [hsp]; exact he),hsp];have z:decide (cm (c.getD k default) ≠ 0)=true:=bk he;clear zz;have zz:=aI @an (aI @ix @z); repeat' (first|refine zW ?_|apply a_n|apply a_r|refine zO ?_|refine vY ?_|refine cY ?_ (hp:=hp) (hs:=by (first | refine af ?_ rfl | apply ag); (repeat' (first | exact ae | apply am | apply ai | exact aA _)); first | done | fail)|refine cTY ?_|(refine zGY ?_ ?_ <;> (intro _hg; try (exfalso; omega)))|refine ak rfl ?_|refine r1Y ?_|fail)
   exact .int _ _
  rw [if_neg he] at hsp;have he:=mF he;rw [he] at hp;have z:decide ((0:Int) ≠ 0)=false:=rfl;by_cases hk0:0 < k
  rotate_left
  ·rw [if_neg (fun h=>hk0 h.1)] at hsp;have zk:decide (0 < (k:Int))=false:=bq (by omega);clear zz;have zz:=aI @an (aI @ix (aI @z @zk)); repeat' (first|refine zW ?_|apply a_n|refine zO ?_|refine vY ?_|refine cY ?_ (hp:=hp) (hs:=by (first | refine af ?_ rfl | apply ag); (repeat' (first | exact ae | apply am | apply ai | exact aA _)); first | done | fail)|refine gFY ?_|refine cFY ?_|(refine zGY ?_ ?_ <;> (intro _hg; try (exfalso; omega)))|fail)
   exact ⟨k + 1,by omega,⟨by omega,g0,fun i hi=>by
    rcases gI.1 hi with h' | rfl
    ·exact h2 i h'
    ·exact hsp⟩,ag0⟩
  have zk:decide (0 < (k:Int))=true:=bk (by omega)
  have iy:fg 1 (aE c) (.int .i64 ((k:Int) - 1))=some (.iptr [ar (c.getD (k - 1) default)] 0):=by
   have:=fC (l:=c) (k:=k - 1) (by omega)
   rwa [show ((k - 1:Nat):Int)=(k:Int) - 1 by omega] at this
  have hcm:=ig (c.getD (k - 1) default) (c.getD k default) (hs _ (a7 (by omega))) hs1;by_cases hv:0 ≤ bJ (c.getD (k - 1) default) (c.getD k default)
  ·have z2:decide (0 ≤ bJ (c.getD (k - 1) default) (c.getD k default))=true:=bk hv;rw [if_pos ⟨hk0,hv⟩] at hsp;rw [dr hk h2 (by rw [hsp]; decide),hsp];clear zz;have zz:=aI @an (aI @ix (aI @iy (aI @z (aI @zk (aI @z2 @g0))))); repeat' (first|refine zW ?_|apply a_n|apply a_r|refine zO ?_|refine vY ?_|refine cY ?_ (hp:=by first | exact hp | exact hcm) (hs:=by (first | refine af ?_ rfl | apply ag); (repeat' (first | exact ae | apply am | apply ai | exact aA _)); first | done | fail)|refine gTY ?_|refine cTY ?_|refine cFY ?_|(refine zGY ?_ ?_ <;> (intro _hg; try (exfalso; omega)))|refine ak rfl ?_|refine r1Y ?_|fail)
   exact .int _ _
  ·have z2:decide (0 ≤ bJ (c.getD (k - 1) default) (c.getD k default))=false:=bq hv;rw [if_neg (fun h=>hv h.2)] at hsp;clear zz;have zz:=aI @an (aI @ix (aI @iy (aI @z (aI @zk (aI @z2 @g0))))); repeat' (first|refine zW ?_|apply a_n|refine zO ?_|refine vY ?_|refine cY ?_ (hp:=by first | exact hp | exact hcm) (hs:=by (first | refine af ?_ rfl | apply ag); (repeat' (first | exact ae | apply am | apply ai | exact aA _)); first | done | fail)|refine gTY ?_|refine cFY ?_|(refine zGY ?_ ?_ <;> (intro _hg; try (exfalso; omega)))|fail)
   exact ⟨k + 1,by omega,⟨by omega,g0,fun i hi=>by
    rcases gI.1 hi with h' | rfl
    ·exact h2 i h'
    ·exact hsp⟩,ag0⟩
 have hz:=mF hz;rw [if_neg (fun h=>h hz)];obtain ⟨a1,a2⟩:=yy hz;have hall:=ip hz;have hok:=B8 (by omega) a1;refine bh (fun T H nx=>T 1=.ptr 0 1 0∧H 0=some [aE c]∧1 ≤ nx) ?_ ?_
 ·clear zz;have zz:=aI @an (aI @aD @au); repeat' (first|refine zW ?_|apply a_n|refine zO ?_|refine vZ ?_|fail)
  refine aZ (X:=Nat) (fun k=>[(1,.ptr 0 1 0),(14,aE c),(15,.int .i64 c.length),(16,.int .i64 k)]) (fun k H nx=>k ≤ c.length∧H 0=some [aE c]∧1 ≤ nx) (fun k=>c.length - k) 0 ⟨cq _,rfl,by omega⟩ (by (iterate 4 refine And.intro rfl ?_); trivial) ?_;rintro k H nx ⟨h1,g0,hnx⟩;by_cases hk:k < c.length
  rotate_left
  ·repeat' (first|refine zW ?_|apply a_n|apply a_x|refine zO ?_|refine vY ?_|(refine zGY ?_ ?_ <;> (intro _hg; try (exfalso; omega)))|fail)
   exact ⟨rfl,g0,hnx⟩
  have ix:=fC hk;have hs1:=hs _ (a7 hk);have hp:=nJ (c.getD k default) hs1;rw [a1 _ (a7 hk)] at hp;have z:decide ((0:Int) ≠ 0)=false:=rfl;by_cases hk0:0 < k
  rotate_left
  ·have zk:decide (0 < (k:Int))=false:=bq (by omega);clear zz;have zz:=aI @an (aI @ix (aI @z @zk)); repeat' (first|refine zW ?_|apply a_n|refine zO ?_|refine vY ?_|refine cY ?_ (hp:=hp) (hs:=by (first | refine af ?_ rfl | apply ag); (repeat' (first | exact ae | apply am | apply ai | exact aA _)); first | done | fail)|refine gFY ?_|refine cFY ?_|(refine zGY ?_ ?_ <;> (intro _hg; try (exfalso; omega)))|fail)
   exact ⟨k + 1,by omega,⟨by omega,g0,hnx⟩,ag0⟩
  have zk:decide (0 < (k:Int))=true:=bk (by omega)
  have iy:fg 1 (aE c) (.int .i64 ((k:Int) - 1))=some (.iptr [ar (c.getD (k - 1) default)] 0):=by
   have:=fC (l:=c) (k:=k - 1) (by omega)
   rwa [show ((k - 1:Nat):Int)=(k:Int) - 1 by omega] at this
  have hcm:=ig (c.getD (k - 1) default) (c.getD k default) (hs _ (a7 (by omega))) hs1;have z2:decide (0 ≤ bJ (c.getD (k - 1) default) (c.getD k default))=false:=bq (by have:=cE a2 (i:=k - 1) (j:=k) (by omega) hk; omega);clear zz;have zz:=aI @an (aI @ix (aI @iy (aI @z (aI @zk (aI @z2 @g0))))); repeat' (first|refine zW ?_|apply a_n|refine zO ?_|refine vY ?_|refine cY ?_ (hp:=by first | exact hp | exact hcm) (hs:=by (first | refine af ?_ rfl | apply ag); (repeat' (first | exact ae | apply am | apply ai | exact aA _)); first | done | fail)|refine gTY ?_|refine cFY ?_|(refine zGY ?_ ?_ <;> (intro _hg; try (exfalso; omega)))|fail)
  exact ⟨k + 1,by omega,⟨by omega,g0,hnx⟩,ag0⟩
 rintro T H nx ⟨t1,g0,hnx⟩;clear zz;have zz:=aI @t1 @g0; repeat' (first|refine zW ?_|apply a_n|refine zO ?_|refine vY ?_|fail)
 refine aF ev0 (have zz:=@t1; evZ) (pF c hok.1 (fun s hs=>⟨(hok.2 s hs).1,by have:=(hok.2 s hs).2; omega⟩) _ _) ?_;rintro _ H1 nx1 ⟨ks,vs,rfl,hinc,hsame,hlt⟩;have g0':H1 0=some [aE c]:=(hsame 0 (by omega)).trans g0;clear zz;have zz:=aI @t1 (aI @g0' @an); repeat' (first|refine zW ?_|apply a_n|refine zO ?_|refine vY ?_|fail)
 refine aZ (X:=Nat) (fun k=>[(1,.ptr 0 1 0),(6,.mp nx),(44,aE c),(45,.int .i64 c.length),(46,.int .i64 k)]) (fun k H' nx'=>k ≤ c.length∧H'=H1∧nx'=nx1∧∀ i,i < k→bH c (c.getD i default)=false) (fun k=>c.length - k) 0 ⟨cq _,rfl,rfl,fun i h=>absurd h (by omega)⟩ (have zz:=@t1; agZ) ?_;rintro k H' nx' ⟨h1,rfl,rfl,h2⟩;by_cases hk:k < c.length
 rotate_left
 ·rw [il fun i hi=>h2 i (by omega),if_neg (by decide)]
  repeat' (first|refine zW ?_|apply a_n|apply a_x|refine zO ?_|refine vY ?_|(refine zGY ?_ ?_ <;> (intro _hg; try (exfalso; omega)))|refine ak rfl ?_|refine r1Y ?_|fail)
  exact .int _ _
 have ix:=fC hk;obtain ⟨p1,p2,p3,p4⟩:=cg (a1 _ (a7 hk));have hcv:=sW c (c.getD k default) hok (hok.2 _ (a7 hk)) (by omega);have iy:=ix2 (l:=c.getD k default) (k:=0) (by omega);rw [show ((0:Nat):Int)=0 from rfl] at iy
 have hks:(c.getD k default).getD 0 default ∈ ks:=(hinc.dom _).2 fun e=>by
  have:k ∈ kf c c.length ((c.getD k default).getD 0 default):=fZ.2 ⟨ju.2 hk,bk (a7 (by omega))⟩;rw [e] at this; cases this
 have hmf:=nR ((c.getD k default).getD 0 default) ks;rw [if_pos hks] at hmf;obtain ⟨m1,m2⟩:=lG hks;have hr:=hinc.row _ m1;rw [m2] at hr;have hcb:bH c (c.getD k default)=true→c.any (bH c)=true:=fun h=>kY.2 ⟨_,a7 hk,h⟩;generalize hsk:c.getD k default=s at *;clear zz;have zz:=@ix; repeat' (first|refine zW ?_|apply a_n|refine zO ?_|refine vY ?_|(refine zGY ?_ ?_ <;> (intro _hg; try (exfalso; omega)))|fail)
 refine ot 0 g0' fun S hS0 hsub'=>?_;have hsub:=hsub' H' g0';clear zz;have zz:=aI @hS0 @iy; repeat' (first|apply a_n|refine zO ?_|refine nvY ?_|fail)
 refine ir ?_;refine kF ev0 hinc.box ev0 (mW _) hmf ?_;refine px ⟨hsub,?_⟩;rw [show mget .esl false (some (ks.idxOf (s.getD 0 default))) vs=vs.getD (ks.idxOf (s.getD 0 default)) .undef from rfl];refine jY ?_;cases hb:bH c s
 ·rw [hb] at hcv;refine dG ev0 ev0 hcv (af (aw (bi _ _) (aw (wn hr) (aw (aA _ _) ae))) rfl) ?_
  repeat' (first|apply a_n|refine zO ?_|refine vY ?_|refine cFY ?_|fail)
  exact ⟨k + 1,by omega,⟨by omega,rfl,rfl,fun i hi=>by
   rcases gI.1 hi with h' | rfl
   ·exact h2 i h'
   ·rw [hsk]; exact hb⟩,ag0⟩
 ·rw [hb] at hcv;rw [hcb hb,if_pos rfl];refine dG ev0 ev0 hcv (af (aw (bi _ _) (aw (wn hr) (aw (aA _ _) ae))) rfl) ?_
  repeat' (first|refine zW ?_|apply a_n|apply a_r|refine zO ?_|refine vY ?_|refine cTY ?_|refine ak rfl ?_|refine r1Y ?_|fail)
  exact .int _ _
theorem AS {c:List Spx} (h1:∀ s ∈ c,cb bE s) (h2:cb bJ c) {i k:Nat} (hi:i < c.length) (hk:k < c.length) (hik:i ≠ k) (h:cT (c.getD i default) (c.getD k default)=true):bH c (c.getD i default)=true:=by
 refine ca.2 ⟨_,a7 hk,xy (h1 _ (a7 hi)) (h1 _ (a7 hk)) (dR.1 h) fun e=>?_,dR.1 h⟩;rcases rh i k with q | q | q
 ·have:=cE h2 q hk; rw [e] at this; exact jT.ord.irr _ this
 ·exact hik q
 ·have:=cE h2 q hi; rw [e] at this; exact jT.ord.irr _ this
theorem Cf {c:List Spx} {i:Nat} (h:bH c (c.getD i default)=true):∃ k,k < c.length∧i ≠ k∧cT (c.getD i default) (c.getD k default)=true:=by
 obtain ⟨t,ht,h1,h2⟩:=ca.1 h;obtain ⟨k,hk,rfl⟩:=jp ht;have e:c.getD k default=c[k]:=by simp [List.getD,hk]
 refine ⟨k,hk,fun hik=>?_,by rw [e]; exact dR.2 h2⟩;subst hik;rw [e] at h1; omega
set_option maxHeartbeats 2000000 in
theorem C8 (c:List Spx) (hc:Shn c) (hs:∀ s ∈ c,Shn s):Pure Tryz.prog 23 [d9 c] (.int .i64 (aH c)):=by
 refine Pure.of_c2 follows Ip (ba rfl) ?_;simp only [b23,aK];have hc':c.length ≤ 17592186044416:=hc;by_cases h0:4096 < c.length
 ·rw [show aH c=5 by unfold aH; rw [if_pos h0]];have zz:=aI @an (aI @aD @au); repeat' (first|refine zW ?_|apply a_n|apply a_r|refine zO ?_|refine vZ ?_|refine bxZ ?_|(refine zGZ ?_ ?_ <;> (intro _hg; try (exfalso; omega)))|refine ak rfl ?_|refine r1Z ?_|fail)
  all_goals exact dg rfl
 rw [show aH c=if dw (mg c) c.length ≠ 0 then dw (mg c) c.length else if c.any (bH c)=true then 7 else 0 by unfold aH; rw [if_neg h0]];refine ef ?_;have zz:=aI @an (aI @aD @au); repeat' (first|apply a_n|refine zO ?_|refine vZ ?_|refine bxZ ?_|fail)
 refine ef ?_;clear zz;have zz:=aI @an (aI @aD @au); repeat' (first|apply a_n|refine zO ?_|refine vZ ?_|fail)
 refine ef (ef ?_);clear zz;have zz:=aI @an (aI @aD @au); repeat' (first|apply a_n|refine zO ?_|refine vZ ?_|(refine zGZ ?_ ?_ <;> (intro _hg; try (exfalso; omega)))|fail)
 by_cases hz:dw (mg c) c.length ≠ 0
 ·rw [if_pos hz];clear zz;have zz:=aI @an (aI @aD @au); repeat' (first|refine zW ?_|apply a_n|refine zO ?_|refine vZ ?_|fail)
  refine aZ (X:=Nat) (fun k=>[(3,aE c),(4,.int .i64 k)]) (fun k H nx=>k ≤ c.length∧∀ i,i < k→mg c i=0) (fun k=>c.length - k) 0 ⟨cq _,fun i h=>absurd h (by omega)⟩ ag0 ?_;rintro k H nx ⟨h1,h2⟩;by_cases hk:k < c.length
  rotate_left
  ·exact absurd (dx fun i hi=>h2 i (by omega)) hz
  have ix:=fC hk;have hs1:=hs _ (a7 hk);have hp:=yG (c.getD k default) hs1;have hsp:=rS (c:=c) (k:=k);by_cases he:cm (c.getD k default) ≠ 0
  ·rw [if_pos he] at hsp;rw [dr hk h2 (by rw [hsp]; exact he),hsp];have z:decide (cm (c.getD k default) ≠ 0)=true:=bk he;clear zz;have zz:=aI @an (aI @ix @z); repeat' (first|refine zW ?_|apply a_n|apply a_r|refine zO ?_|refine vY ?_|refine cY ?_ (hp:=hp) (hs:=by (first | refine af ?_ rfl | apply ag); (repeat' (first | exact ae | apply am | apply ai | exact aA _)); first | done | fail)|refine cTY ?_|(refine zGY ?_ ?_ <;> (intro _hg; try (exfalso; omega)))|refine ak rfl ?_|refine r1Y ?_|fail)
   exact .int _ _
  rw [if_neg he] at hsp;have he:=mF he;rw [he] at hp;have z:decide ((0:Int) ≠ 0)=false:=rfl;by_cases hk0:0 < k
  rotate_left
  ·rw [if_neg (fun h=>hk0 h.1)] at hsp;have zk:decide (0 < (k:Int))=false:=bq (by omega);clear zz;have zz:=aI @an (aI @ix (aI @z @zk)); repeat' (first|refine zW ?_|refine zM ?_|apply a_n|refine zO ?_|refine vY ?_|refine cY ?_ (hp:=hp) (hs:=by (first | refine af ?_ rfl | apply ag); (repeat' (first | exact ae | apply am | apply ai | exact aA _)); first | done | fail)|refine gFY ?_|refine cFY ?_|(refine zGY ?_ ?_ <;> (intro _hg; try (exfalso; omega)))|fail)
   exact ⟨k + 1,by omega,⟨by omega,fun i hi=>by
    rcases gI.1 hi with h' | rfl
    ·exact h2 i h'
    ·exact hsp⟩,ag0⟩
  have zk:decide (0 < (k:Int))=true:=bk (by omega)
  have iy:fg 1 (aE c) (.int .i64 ((k:Int) - 1))=some (.iptr [ar (c.getD (k - 1) default)] 0):=by
   have:=fC (l:=c) (k:=k - 1) (by omega)
   rwa [show ((k - 1:Nat):Int)=(k:Int) - 1 by omega] at this
  have hcm:=mB (c.getD (k - 1) default) (c.getD k default) (hs _ (a7 (by omega))) hs1;by_cases hv:0 ≤ bJ (c.getD (k - 1) default) (c.getD k default)
  ·have z2:decide (0 ≤ bJ (c.getD (k - 1) default) (c.getD k default))=true:=bk hv;rw [if_pos ⟨hk0,hv⟩] at hsp;rw [dr hk h2 (by rw [hsp]; decide),hsp];clear zz;have zz:=aI @an (aI @ix (aI @iy (aI @z (aI @zk @z2)))); repeat' (first|refine zW ?_|refine zM ?_|apply a_n|apply a_r|refine zO ?_|refine vY ?_|refine cY ?_ (hp:=by first | exact hp | exact hcm) (hs:=by (first | refine af ?_ rfl | apply ag); (repeat' (first | exact ae | apply am | apply ai | exact aA _)); first | done | fail)|refine gTY ?_|refine cTY ?_|refine cFY ?_|(refine zGY ?_ ?_ <;> (intro _hg; try (exfalso; omega)))|refine ak rfl ?_|refine r1Y ?_|fail)
   exact .int _ _
  ·have z2:decide (0 ≤ bJ (c.getD (k - 1) default) (c.getD k default))=false:=bq hv;rw [if_neg (fun h=>hv h.2)] at hsp;clear zz;have zz:=aI @an (aI @ix (aI @iy (aI @z (aI @zk @z2)))); repeat' (first|refine zW ?_|refine zM ?_|apply a_n|refine zO ?_|refine vY ?_|refine cY ?_ (hp:=by first | exact hp | exact hcm) (hs:=by (first | refine af ?_ rfl | apply ag); (repeat' (first | exact ae | apply am | apply ai | exact aA _)); first | done | fail)|refine gTY ?_|refine cFY ?_|(refine zGY ?_ ?_ <;> (intro _hg; try (exfalso; omega)))|fail)
   exact ⟨k + 1,by omega,⟨by omega,fun i hi=>by
    rcases gI.1 hi with h' | rfl
    ·exact h2 i h'
    ·exact hsp⟩,ag0⟩
 have hz:=mF hz;rw [if_neg (fun h=>h hz)];obtain ⟨a1,a2⟩:=yy hz;have hok:=B8 (by omega) a1;refine bh (fun T H nx=>T 3=aE c) ?_ ?_
 ·clear zz;have zz:=aI @an (aI @aD @au); repeat' (first|refine zW ?_|apply a_n|refine zO ?_|refine vZ ?_|fail)
  refine aZ (X:=Nat) (fun k=>[(3,aE c),(4,.int .i64 k)]) (fun k H nx=>k ≤ c.length) (fun k=>c.length - k) 0 (cq _) ag0 ?_;rintro k H nx h1;by_cases hk:k < c.length
  rotate_left
  ·clear zz;have zz:=@an; repeat' (first|refine zW ?_|apply a_n|apply a_x|refine zO ?_|refine vY ?_|(refine zGY ?_ ?_ <;> (intro _hg; try (exfalso; omega)))|fail)
   exact rfl
  have ix:=fC hk;have hs1:=hs _ (a7 hk);have hp:=yG (c.getD k default) hs1;rw [a1 _ (a7 hk)] at hp;have z:decide ((0:Int) ≠ 0)=false:=rfl;by_cases hk0:0 < k
  rotate_left
  ·have zk:decide (0 < (k:Int))=false:=bq (by omega);clear zz;have zz:=aI @an (aI @ix (aI @z @zk)); repeat' (first|refine zW ?_|refine zM ?_|apply a_n|refine zO ?_|refine vY ?_|refine cY ?_ (hp:=hp) (hs:=by (first | refine af ?_ rfl | apply ag); (repeat' (first | exact ae | apply am | apply ai | exact aA _)); first | done | fail)|refine gFY ?_|refine cFY ?_|(refine zGY ?_ ?_ <;> (intro _hg; try (exfalso; omega)))|fail)
   exact ⟨k + 1,by omega,by omega,ag0⟩
  have zk:decide (0 < (k:Int))=true:=bk (by omega)
  have iy:fg 1 (aE c) (.int .i64 ((k:Int) - 1))=some (.iptr [ar (c.getD (k - 1) default)] 0):=by
   have:=fC (l:=c) (k:=k - 1) (by omega)
   rwa [show ((k - 1:Nat):Int)=(k:Int) - 1 by omega] at this
  have hcm:=mB (c.getD (k - 1) default) (c.getD k default) (hs _ (a7 (by omega))) hs1;have z2:decide (0 ≤ bJ (c.getD (k - 1) default) (c.getD k default))=false:=bq (by have:=cE a2 (i:=k - 1) (j:=k) (by omega) hk; omega);clear zz;have zz:=aI @an (aI @ix (aI @iy (aI @z (aI @zk @z2)))); repeat' (first|refine zW ?_|refine zM ?_|apply a_n|refine zO ?_|refine vY ?_|refine cY ?_ (hp:=by first | exact hp | exact hcm) (hs:=by (first | refine af ?_ rfl | apply ag); (repeat' (first | exact ae | apply am | apply ai | exact aA _)); first | done | fail)|refine gTY ?_|refine cFY ?_|(refine zGY ?_ ?_ <;> (intro _hg; try (exfalso; omega)))|fail)
  exact ⟨k + 1,by omega,by omega,ag0⟩
 rintro T H nx t3;clear zz;have zz:=@t3; repeat' (first|refine zW ?_|apply a_n|refine zO ?_|refine vY ?_|fail)
 refine aZ (X:=Nat) (fun k=>[(3,aE c),(6,.int .i64 k)]) (fun k H' nx'=>k ≤ c.length∧∀ i,i < k→bH c (c.getD i default)=false) (fun k=>c.length - k) 0 ⟨cq _,fun i h=>absurd h (by omega)⟩ (have zz:=@t3; agZ) ?_;clear zz;clear t3;rintro i H1 nx1 ⟨h1,h2⟩;by_cases hi:i < c.length
 rotate_left
 ·rw [il fun i hi=>h2 i (by omega),if_neg (by decide)];have zz:=@an; repeat' (first|refine zW ?_|apply a_n|apply a_x|refine zO ?_|refine vY ?_|(refine zGY ?_ ?_ <;> (intro _hg; try (exfalso; omega)))|refine ak rfl ?_|refine r1Y ?_|fail)
  exact .int _ _
 have zz:=@an; repeat' (first|refine zW ?_|apply a_n|refine zO ?_|refine vY ?_|(refine zGY ?_ ?_ <;> (intro _hg; try (exfalso; omega)))|fail)
 refine aZ (X:=Nat) (fun k=>[(3,aE c),(6,.int .i64 i),(7,.int .i64 k)]) (fun k H' nx'=>k ≤ c.length∧∀ j,j < k→i ≠ j→cT (c.getD i default) (c.getD j default)=false) (fun k=>c.length - k) 0 ⟨cq _,fun i h=>absurd h (by omega)⟩ ag0 ?_;rintro k H2 nx2 ⟨k1,k2⟩;by_cases hk:k < c.length
 rotate_left
 ·clear zz;have zz:=@an; repeat' (first|refine zW ?_|apply a_n|apply a_x|refine zO ?_|refine vY ?_|(refine zGY ?_ ?_ <;> (intro _hg; try (exfalso; omega)))|fail)
  refine ⟨i + 1,by omega,⟨by omega,fun j hj=>?_⟩,ag0⟩;rcases gI.1 hj with h' | rfl
  ·exact h2 j h'
  ·cases hb:bH c (c.getD j default)
   ·rfl
   ·obtain ⟨q,q1,q2,q3⟩:=Cf hb;rw [k2 q (by omega) q2] at q3; cases q3
 have ix:=fC hi;have iy:=fC hk;by_cases hik:i=k
 ·have z:decide ((i:Int) ≠ (k:Int))=false:=bq (by omega);clear zz;have zz:=aI @an @z; repeat' (first|refine zW ?_|refine zM ?_|apply a_n|refine zO ?_|refine vY ?_|refine gFY ?_|refine cFY ?_|(refine zGY ?_ ?_ <;> (intro _hg; try (exfalso; omega)))|fail)
  exact ⟨k + 1,by omega,⟨by omega,fun j hj hij=>k2 j (by omega) hij⟩,ag0⟩
 have z:decide ((i:Int) ≠ (k:Int))=true:=bk (by omega);have hin:=A5 (c.getD i default) (c.getD k default) (hs _ (a7 hi)) (hs _ (a7 hk));have ht:=AS (fun s hs=>(hok.2 s hs).1) a2 hi hk hik;cases hb:cT (c.getD i default) (c.getD k default)
 ·rw [hb] at hin;clear zz;have zz:=aI @an (aI @ix (aI @iy @z)); repeat' (first|refine zW ?_|refine zM ?_|apply a_n|refine zO ?_|refine vY ?_|refine cY ?_ (hp:=hin) (hs:=by (first | refine af ?_ rfl | apply ag); (repeat' (first | exact ae | apply am | apply ai | exact aA _)); first | done | fail)|refine gTY ?_|refine cFY ?_|(refine zGY ?_ ?_ <;> (intro _hg; try (exfalso; omega)))|fail)
  exact ⟨k + 1,by omega,⟨by omega,fun j hj hij=>by
   rcases gI.1 hj with h' | rfl
   ·exact k2 j h' hij
   ·exact hb⟩,ag0⟩
 ·rw [hb] at hin;rw [if_pos (kY.2 ⟨_,a7 hi,ht hb⟩)];clear zz;have zz:=aI @an (aI @ix (aI @iy @z)); repeat' (first|refine zW ?_|refine zM ?_|apply a_n|apply a_r|refine zO ?_|refine vY ?_|refine cY ?_ (hp:=hin) (hs:=by (first | refine af ?_ rfl | apply ag); (repeat' (first | exact ae | apply am | apply ai | exact aA _)); first | done | fail)|refine gTY ?_|refine cTY ?_|(refine zGY ?_ ?_ <;> (intro _hg; try (exfalso; omega)))|refine ak rfl ?_|refine r1Y ?_|fail)
  exact .int _ _
structure MapV where
 fr:Spx
 to:Spx
 deriving Inhabited,DecidableEq
abbrev pT (m:MapV):AV:=.agg [ar m.fr,ar m.to]
theorem er (m:MapV):Dat (pT m):=Dat.agg (DatL.cons (aA _) (DatL.cons (aA _) DatL.nil))
instance datI_encM {m:MapV}:DatI (pT m):=⟨er m⟩
abbrev ShM (m:MapV):Prop:=Shn m.fr∧Shn m.to
def vI (m:MapV) (k:Nat):Int:=if b9 (m.fr.getD k default)=false ∨ b9 (m.to.getD k default)=false then 2 else if 0 < k∧0 ≤ bE (m.fr.getD (k - 1) default) (m.fr.getD k default) then 14 else 0
def eb (m:MapV):Int:=if 4096 < m.fr.length then 5 else if m.to.length ≠ m.fr.length then 15 else dw (vI m) m.fr.length
theorem fT {m:MapV} (h:eb m=0):m.fr.length ≤ 4096∧m.to.length=m.fr.length∧cb bE m.fr∧(∀ v ∈ m.fr,b9 v=true)∧∀ v ∈ m.to,b9 v=true:=by
 unfold eb at h;split at h
 ·exact absurd h (by decide)
 split at h
 ·exact absurd h (by decide)
 rename_i h1 h2;have h2:=mF h2;have hz:=ip h
 have h3:∀ k,k < m.fr.length→(b9 (m.fr.getD k default)=true∧b9 (m.to.getD k default)=true)∧(0 < k→bE (m.fr.getD (k - 1) default) (m.fr.getD k default) < 0):=fun k hk=>by
  have:=hz k hk;unfold vI at this;split at this
  ·exact absurd this (by decide)
  rename_i g1;split at this
  ·exact absurd this (by decide)
  rename_i g2
  exact ⟨⟨by cases hr:b9 (m.fr.getD k default) with
   | true=>rfl
   | false=>exact absurd (.inl hr) g1,by cases hr:b9 (m.to.getD k default) with
   | true=>rfl
   | false=>exact absurd (.inr hr) g1⟩,fun h0=>by omega⟩
 refine ⟨by omega,h2,?_,fun v hv=>?_,fun v hv=>?_⟩
 ·have step:∀ j i,i < j→j < m.fr.length→bE (m.fr.getD i default) (m.fr.getD j default) < 0:=by
    intro j
    induction j with
    | zero=>intro i h; omega
    | succ j ih =>
     intro i hi hj;have hs:=(h3 (j + 1) hj).2 (by omega);rw [kg] at hs;by_cases e:i=j
     ·subst e; exact hs
     ·exact gn.trans (ih i (by omega) (by omega)) hs
  unfold cb;rw [uR];intro i j hi hj hij;have:=step j i hij hj;simpa [List.getD,hi,hj] using this
 ·obtain ⟨i,hi,rfl⟩:=jp hv;have:=(h3 i hi).1.1;simpa [List.getD,hi] using this
 ·obtain ⟨i,hi,rfl⟩:=jp hv;have:=(h3 i (by omega)).1.2;simpa [List.getD,hi] using this
def dI (m:MapV) (v:Vtx):Vtx:=m.to.getD (m.fr.idxOf v) default
theorem xA {m:MapV} {k:Nat}:vI m k=if b9 (m.fr.getD k default)=false ∨ b9 (m.to.getD k default)=false then 2 else if 0 < k∧0 ≤ bE (m.fr.getD (k - 1) default) (m.fr.getD k default) then 14 else 0:=rfl
theorem wy (m:MapV) (hm:ShM m):Pure Tryz.prog 44 [pT m] (.int .i64 (eb m)):=by
 refine Pure.of_c2 follows Gu (ba rfl) ?_;simp only [b44,aK];obtain ⟨hm1,hm2⟩:=hm;have hm1':m.fr.length ≤ 17592186044416:=hm1;have hm2':m.to.length ≤ 17592186044416:=hm2;by_cases h0:4096 < m.fr.length
 ·rw [show eb m=5 by unfold eb; rw [if_pos h0]];have zz:=aI @ap (aI @aQ @aG); repeat' (first|refine zW ?_|apply a_n|apply a_r|refine zO ?_|refine vZ ?_|refine bxZ ?_|(refine zGZ ?_ ?_ <;> (intro _hg; try (exfalso; omega)))|refine ak rfl ?_|refine r1Z ?_|fail)
  all_goals exact dg rfl
 by_cases h8:m.to.length ≠ m.fr.length
 ·rw [show eb m=15 by unfold eb; rw [if_neg h0,if_pos h8]];have z:decide ((m.to.length:Int) ≠ m.fr.length)=true:=bk (by omega);have zz:=aI @ap (aI @aQ (aI @aG @z)); repeat' (first|refine zW ?_|apply a_n|apply a_r|refine zO ?_|refine vZ ?_|refine bxZ ?_|refine cTZ ?_|(refine zGZ ?_ ?_ <;> (intro _hg; try (exfalso; omega)))|refine ak rfl ?_|refine r1Z ?_|fail)
  all_goals exact dg rfl
 rw [show eb m=dw (vI m) m.fr.length by unfold eb; rw [if_neg h0,if_neg h8]];have h8':=mF h8;have z:decide ((m.to.length:Int) ≠ m.fr.length)=false:=bq (by omega);have zz:=aI @ap (aI @aQ (aI @aG @z)); repeat' (first|refine zW ?_|apply a_n|refine zO ?_|refine vZ ?_|refine bxZ ?_|refine cFZ ?_|(refine zGZ ?_ ?_ <;> (intro _hg; try (exfalso; omega)))|fail)
 refine aZ (X:=Nat) (fun k=>[(1,.ptr 0 2 0),(19,ar m.fr),(20,.int .i64 m.fr.length),(21,.int .i64 k)]) (fun k H nx=>k ≤ m.fr.length∧H 0=some [ar m.fr,ar m.to]∧1 ≤ nx∧∀ i,i < k→vI m i=0) (fun k=>m.fr.length - k) 0 ⟨cq _,rfl,by omega,fun i h=>absurd h (by omega)⟩ (by (iterate 4 refine And.intro rfl ?_); trivial) ?_;rintro k H nx ⟨h1,g0,hnx,h2⟩;by_cases hk:k < m.fr.length
 rotate_left
 ·rw [dx fun i hi=>h2 i (by omega)];clear zz;have zz:=@ap; repeat' (first|refine zW ?_|apply a_n|apply a_x|refine zO ?_|refine vY ?_|(refine zGY ?_ ?_ <;> (intro _hg; try (exfalso; omega)))|refine ak rfl ?_|refine r1Y ?_|fail)
  exact .int _ _
 have ix:=ix2 hk;have it:=ix2 (l:=m.to) (k:=k) (by omega);have hp:=xd (m.fr.getD k default);have hq:=xd (m.to.getD k default);have hs:=xA (m:=m) (k:=k)
 have done:vI m k=0→∀ i,i < k + 1→vI m i=0:=fun h i hi=>by
  rcases gI.1 hi with h' | rfl
  ·exact h2 i h'
  ·exact h
 cases hr:b9 (m.fr.getD k default)
 ·rw [hr] at hp;rw [if_pos (.inl hr)] at hs;rw [dr hk h2 (by rw [hs]; decide),hs];clear zz;have zz:=aI @ap (aI @ix (aI @it @g0)); repeat' (first|refine zW ?_|apply a_n|apply a_r|refine zO ?_|refine vY ?_|refine cY ?_ (hp:=hp) (hs:=by (first | refine af ?_ rfl | apply ag); (repeat' (first | exact ae | apply am | apply ai | exact bS _)); first | done | fail)|refine alY ?_|refine stY ?_|refine gFY ?_|refine cTY ?_|(refine zGY ?_ ?_ <;> (intro _hg; try (exfalso; omega)))|refine ak rfl ?_|refine r1Y ?_|fail)
  exact .int _ _
 rw [hr] at hp;cases hr2:b9 (m.to.getD k default)
 ·rw [hr2] at hq;rw [if_pos (.inr hr2)] at hs;rw [dr hk h2 (by rw [hs]; decide),hs];clear zz;have zz:=aI @ap (aI @ix (aI @it @g0)); repeat' (first|refine zW ?_|apply a_n|apply a_r|refine zO ?_|refine vY ?_|refine cY ?_ (hp:=by first | exact hp | exact hq) (hs:=by (first | refine af ?_ rfl | apply ag); (repeat' (first | exact ae | apply am | apply ai | exact bS _)); first | done | fail)|refine alY ?_|refine stY ?_|refine gTY ?_|refine cTY ?_|(refine zGY ?_ ?_ <;> (intro _hg; try (exfalso; omega)))|refine ak rfl ?_|refine r1Y ?_|fail)
  exact .int _ _
 rw [hr2] at hq;rw [if_neg (by rw [hr,hr2]; rintro (h | h) <;> cases h)] at hs;have gk:∀ {cs:List AV},ao H nx cs 0=some [ar m.fr,ar m.to]:=fun {cs}=>by rw [ah (by omega)]; exact g0
 by_cases hk0:0 < k
 rotate_left
 ·rw [if_neg (fun h=>hk0 h.1)] at hs;have zk:decide (0 < (k:Int))=false:=bq (by omega);clear zz;have zz:=aI @ap (aI @ix (aI @it (aI @zk @g0))); repeat' (first|refine zW ?_|refine zM ?_|apply a_n|refine zO ?_|refine vY ?_|refine cY ?_ (hp:=by first | exact hp | exact hq) (hs:=by (first | refine af ?_ rfl | apply ag); (repeat' (first | exact ae | apply am | apply ai | exact bS _)); first | done | fail)|refine alY ?_|refine stY ?_|refine gTY ?_|refine gFY ?_|refine cFY ?_|(refine zGY ?_ ?_ <;> (intro _hg; try (exfalso; omega)))|fail)
  exact ⟨k + 1,by omega,⟨by omega,by (repeat rw [ah (by omega)]); exact g0,by omega,done hs⟩,ag0⟩
 have zk:decide (0 < (k:Int))=true:=bk (by omega)
 have iy:fg 2 (ar m.fr) (.int .i64 ((k:Int) - 1))=some (.iptr [.int .i64 (m.fr.getD (k - 1) default).color,.int .i64 (m.fr.getD (k - 1) default).label] 0):=by
  have:=ix2 (l:=m.fr) (k:=k - 1) (by omega)
  rwa [show ((k - 1:Nat):Int)=(k:Int) - 1 by omega] at this
 have hc:=rZ (m.fr.getD (k - 1) default) (m.fr.getD k default);by_cases hv:0 ≤ bE (m.fr.getD (k - 1) default) (m.fr.getD k default)
 ·have z:decide (0 ≤ bE (m.fr.getD (k - 1) default) (m.fr.getD k default))=true:=bk hv;rw [if_pos ⟨hk0,hv⟩] at hs;rw [dr hk h2 (by rw [hs]; decide),hs];clear zz;have zz:=aI @ap (aI @ix (aI @it (aI @iy (aI @zk (aI @z @g0))))); repeat' (first|refine zW ?_|refine zM ?_|apply a_n|apply a_r|refine zO ?_|refine vY ?_|refine cY ?_ (hp:=by first | exact hp | exact hq | exact hc) (hs:=by (first | refine af ?_ rfl | apply ag); (repeat' (first | exact ae | apply am | apply ai | exact bS _)); first | done | fail)|refine alY ?_|refine stY ?_|refine gTY ?_|refine cTY ?_|refine cFY ?_|(refine zGY ?_ ?_ <;> (intro _hg; try (exfalso; omega)))|refine ak rfl ?_|refine r1Y ?_|fail)
  exact .int _ _
 ·have z:decide (0 ≤ bE (m.fr.getD (k - 1) default) (m.fr.getD k default))=false:=bq hv;rw [if_neg (fun h=>hv h.2)] at hs;clear zz;have zz:=aI @ap (aI @ix (aI @it (aI @iy (aI @zk (aI @z @g0))))); repeat' (first|refine zW ?_|refine zM ?_|apply a_n|refine zO ?_|refine vY ?_|refine cY ?_ (hp:=by first | exact hp | exact hq | exact hc) (hs:=by (first | refine af ?_ rfl | apply ag); (repeat' (first | exact ae | apply am | apply ai | exact bS _)); first | done | fail)|refine alY ?_|refine stY ?_|refine gTY ?_|refine cFY ?_|(refine zGY ?_ ?_ <;> (intro _hg; try (exfalso; omega)))|fail)
  exact ⟨k + 1,by omega,⟨by omega,by (repeat rw [ah (by omega)]); exact g0,by omega,done hs⟩,ag0⟩
theorem rg {H:Hp} {a b:Bool} {e f:Int} (h1:a=b) (h2:e=f):Snap H (.tup [.bool a,.int .i64 e]) (.tup [.bool b,.int .i64 f]):=by
 subst h1 h2; exact eT (aw (.bool _) (aw (.int _ _) ae))
def ci (m:MapV) (l:Spx):Bool:=l.all fun v=>decide (v ∈ m.fr)
def bc (m:MapV) (l:Spx):Spx:=fM bE (l.map (dI m))
theorem rt {m:MapV} {v:Vtx} (h:m.to.length=m.fr.length) (hv:v ∈ m.fr):dI m v ∈ m.to:=by
 have:=(lG hv).1;exact a7 (by omega)
end Go.Proofs.YtpfkjcjgdilkkaaGreat
namespace Go.Proofs.YtpfkjcjgdilkkaaGreat
open Go Go.Abs
open Nat (reduceEqDiff reduceAdd reduceLeDiff)
theorem B4 {l:Spx} (ha:cb bE l) {k:Nat} (hk:k < l.length):l.getD k default ∉ l.take k:=fun hm=>by
 obtain ⟨i,hi,e⟩:=jp hm;rw [go] at hi;rw [List.getElem_take] at e;have:=cE ha (i:=i) (j:=k) (by omega) hk;rw [show l.getD i default=l[i] by simp [List.getD,show i < l.length by omega],e] at this;exact gn.ord.irr _ this
theorem vD {m:MapV} {v:Vtx} (h:m.to.length=m.fr.length) (hv:v ∈ m.fr):(m.to.map bG).getD (m.fr.idxOf v) .undef=bG (dI m v):=by
 have:=(lG hv).1;unfold dI;simp [List.getD,show m.fr.idxOf v < m.to.length by omega]
theorem q9 {H:Hp} {B n len:Nat} {C:List AV} {l:Spx} (hB:H B=some C) (hn:C.length=n) (hf:len * 2 ≤ n) (hl:l.length=len) (ht:C.take (len * 2)=cX l):Snap H (.msl B n 2 0 len) (ar l):=by
 refine .msl B n 2 0 len C (l.map bG) hB hn (by omega) (by simp [hl]) (fun y hy=>?_) (fun i j y a c hy hc ha=>?_)
 ·obtain ⟨v,_,rfl⟩:=cL.1 hy; rfl
 ·have hi:i < l.length:=by
    have:=(bD.1 hy).1;simpa using this
  have hy':y=bG (l.getD i default):=by
   rw [lK,rf hi] at hy;simp at hy;rw [← hy]; simp [List.getD,hi]
  subst hy';have hj:j < 2:=(bD.1 hc).1
  have h1:C[0 + i * 2 + j]?=(cX l)[i * 2 + j]?:=by
   rw [← ht,fX,if_pos (by omega)]; congr 1; omega
  have h2:(cX l)[i * 2 + j]?=(((cX l).drop (i * 2)).take 2)[j]?:=by
   rw [fX,if_pos hj,iX]
  rw [h1,h2,rdX hi] at ha;have:[AV.int .i64 (l.getD i default).color,AV.int .i64 (l.getD i default).label][j]?=some c:=hc;rw [this] at ha;cases ha
  match j,hj with
  | 0,_=>cases this; exact .int _ _
  | 1,_=>cases this; exact .int _ _
attribute [local irreducible] aW av bQ bO bl bB aU bx bT cK Go.Abs.Fn bL Go.Abs.Pure aS bg Yl
set_option maxHeartbeats 1000000 in
theorem uk (m:MapV) (hm:ShM m) (H:Hp) (nx:Nat):Abs.Fn Tryz.prog 25 [pT m] H nx fun r H' nx'=>(∀ x,x < nx→H' x=H x)∧nx ≤ nx'∧((eb m=0∧∃ b,r=.tup [.mp b,.int .i64 0]∧nx ≤ b∧b < nx'∧H' b=some [.omap (m.fr.map bG) (m.to.map bG)]) ∨ (eb m ≠ 0∧∃ z,r=.tup [z,.int .i64 (eb m)])):=by
 refine Abs.Fn.of_c2 follows GV (ba rfl) ?_;simp only [b25,aK];have hc:=wy m hm;have hm1':m.fr.length ≤ 17592186044416:=hm.1;by_cases he:eb m=0
 rotate_left
 ·have z:decide (eb m ≠ 0)=true:=bk he;have zz:=aI @ap (aI @aQ (aI @aG @z)); repeat' (first|refine zW ?_|apply a_n|apply a_r|refine zO ?_|refine vY ?_|refine cY ?_ (hp:=hc) (hs:=by (first | refine af ?_ rfl | apply ag); (repeat' (first | exact ae | apply am | apply ai | exact er _)); first | done | fail)|refine bxY ?_|refine cTY ?_|refine ak rfl ?_|refine r2Y ?_|fail)
  exact ⟨fun x hx=>ah (by omega),by omega,.inr ⟨he,_,rfl⟩⟩
 rw [he] at hc;obtain ⟨q1,q2,q3,q4,q5⟩:=fT he;have z:decide ((0:Int) ≠ 0)=false:=rfl;have zz:=aI @ap (aI @aQ (aI @aG @z)); repeat' (first|refine zW ?_|apply a_n|refine zO ?_|refine vY ?_|refine cY ?_ (hp:=hc) (hs:=by (first | refine af ?_ rfl | apply ag); (repeat' (first | exact ae | apply am | apply ai | exact er _)); first | done | fail)|refine bxY ?_|refine cFY ?_|fail)
 refine Bq ?_;clear zz;have zz:=@ap; repeat' (first|refine zW ?_|apply a_n|refine zO ?_|refine vY ?_|fail)
 refine aZ (X:=Nat) (fun k=>[(1,.ptr nx 2 0),(5,.mp (nx + 1)),(15,ar m.fr),(16,.int .i64 m.fr.length),(17,.int .i64 k)]) (fun k H' nx'=>k ≤ m.fr.length∧H' nx=some [ar m.fr,ar m.to]∧H' (nx + 1)=some [.omap ((m.fr.take k).map bG) ((m.to.take k).map bG)]∧(∀ x,x < nx→H' x=H x)∧nx + 2 ≤ nx') (fun k=>m.fr.length - k) 0 ⟨cq _,by rw [ah (by omega),aj],aj,fun x hx=>by rw [ah (by omega),ah (by omega)],by omega⟩ (by simp (disch:=omega) only [agr,ZG,reduceEqDiff,↓reduceIte,cS,ew,b0,reduceAdd]) ?_;rintro k H1 nx1 ⟨h1,g0,g1,h2,hnx⟩;by_cases hk:k < m.fr.length
 rotate_left
 ·obtain rfl:k=m.fr.length:=by omega
  rw [List.take_length,fq (by omega)] at g1
  repeat' (first|refine zW ?_|apply a_n|apply a_x|refine zO ?_|refine vY ?_|(refine zGY ?_ ?_ <;> (intro _hg; try (exfalso; omega)))|refine ak rfl ?_|refine r2Y ?_|fail)
  exact ⟨h2,by omega,.inl ⟨he,nx + 1,rfl,by omega,by omega,g1⟩⟩
 have ix:=ix2 hk;have it:=ix2 (l:=m.to) (k:=k) (by omega);have hnt:=B4 q3 hk;have hmf:=nR (m.fr.getD k default) (m.fr.take k);rw [if_neg hnt] at hmf;have e1:(m.fr.take (k + 1)).map bG=(m.fr.take k).map bG ++ [bG (m.fr.getD k default)]:=by rw [bW hk,f9]; rfl
 have e2:(m.to.take (k + 1)).map bG=(m.to.take k).map bG ++ [bG (m.to.getD k default)]:=by rw [bW (by omega),f9]; rfl
 generalize m.fr.getD k default=v at *;generalize m.to.getD k default=w at *;clear zz;have zz:=@ix; repeat' (first|refine zW ?_|apply a_n|refine zO ?_|refine vY ?_|refine alY ?_|refine stY ?_|(refine zGY ?_ ?_ <;> (intro _hg; try (exfalso; omega)))|fail)
 refine nW (c2:=[.int .i64 v.color,.int .i64 v.label]) nx nx1 (by rw [ah (by omega),ah (by omega)]; exact g0) (by rw [aj]; rfl) (by omega) fun S hS0 hS1 _=>?_;clear zz;have zz:=aI @hS0 (aI @hS1 @it); repeat' (first|apply a_n|refine zO ?_|refine nvY ?_|apply jY|fail)
 refine A9 ev0 (by rw [ah (by omega),ah (by omega)]; exact g1) ev0 ev0 (mW v) hmf ?_
 repeat' (first|apply a_n|refine zO ?_|refine vY ?_|fail)
 refine ⟨k + 1,by omega,⟨by omega,by (repeat rw [ah (by omega)]); exact g0,?_,fun x hx=>by (repeat rw [ah (by omega)]); exact h2 x hx,by omega⟩,ag0⟩;rw [aj,e1,e2]; rfl
theorem Il:Cmp2 Tryz.prog bG bE (fun _=>True) 70 [] where
 len _:=rfl
 agg _:=rfl
 ones _:=rfl
 dat x:=bS x
 dcaps x hx:=by cases hx
 run x y _ _:=rZ x y
 ord:=gn.ord
theorem Gd (m:MapV) (l:Spx) (hlen:m.to.length=m.fr.length) (hl:l.length ≤ 100000) (hl0:l ≠ []) (b:Nat) (H:Hp) (nx:Nat) (hb:H b=some [.omap (m.fr.map bG) (m.to.map bG)]) (hbn:b < nx):Abs.Fn Tryz.prog 30 [.mp b,ar l] H nx fun r H' nx'=>nx ≤ nx'∧((ci m l=false∧r=.tup [.esl,.bool false]∧∀ x,x < nx→H' x=H x) ∨ (ci m l=true∧∃ sv Hf H2,r=.tup [sv,.bool true]∧sv.one=true∧Fz Hf H' H2∧Snap Hf sv (ar (bc m l))∧∀ x,x < nx→H2 x=H x)):=by
 refine Abs.Fn.of_c2 follows G0 (ba rfl) ?_;simp only [b30,aK];have zz:=@ap; repeat' (first|refine zW ?_|apply a_n|refine zO ?_|refine vY ?_|fail)
 refine aZ (X:=AV × Nat) (fun x=>[(0,.mp b),(6,x.1),(11,ar l),(12,.int .i64 l.length),(13,.int .i64 x.2)]) (fun x H' nx'=>x.2 ≤ l.length∧(∀ y,y < nx→H' y=H y)∧nx ≤ nx'∧Row H' 2 x.1 (cX ((l.take x.2).map (dI m)))∧(∀ B,dB x.1=some B→nx ≤ B∧B < nx')∧∀ i,i < x.2→decide (l.getD i default ∈ m.fr)=true) (fun x=>l.length - x.2) (.esl,0) ⟨cq _,fun _ _=>rfl,aO _,Row.nil,fun B h=>(by cases h),fun i h=>absurd h (by omega)⟩ ag0 ?_;rintro ⟨sv,k⟩ H1 nx1 ⟨h1,h2,h3,hrow,hbd,hz⟩;dsimp only at h1 hrow hbd hz ⊢;by_cases hk:k < l.length
 rotate_left
 ·rw [fq (by omega)] at hrow;have ht:ci m l=true:=jm fun i hi=>hz i (by omega);have hpos:0 < l.length:=pQ.2 hl0;generalize hM:l.map (dI m)=M at *;have hMl:M.length=l.length:=by rw [← hM,cr]
  have himg:bc m l=fM bE M:=by unfold bc; rw [hM]
  obtain ⟨B,rfl,hB⟩:∃ B,sv=.msl B (M.length * 2) 2 0 M.length∧H1 B=some (cX M):=by
   generalize hcs:cX M=cs at hrow;have hcl:=eH M;cases hrow with
   | nil=>rw [hcs] at hcl; simp at hcl; omega
   | box B len cs g1 g2 =>
    obtain rfl:len=M.length:=by rw [← hcs,hcl] at g2; omega
    exact ⟨B,rfl,g1⟩
  have hBb:=hbd B rfl
  repeat' (first|refine zW ?_|apply a_n|apply a_x|refine zO ?_|refine vY ?_|(refine zGY ?_ ?_ <;> (intro _hg; try (exfalso; omega)))|fail)
  refine aF ev0 ev0 (yE Il (L:=M) (b:=B) (nx:=nx1) (n:=M.length) hB (by omega) rfl (by omega) (fun _ _=>trivial) (by omega)) ?_;rintro _ H3 nx3 ⟨L,ps,hperm,hsort⟩;have hLl:L.length=M.length:=hperm.length_eq;have hL0:L ≠ []:=fun e=>by rw [e] at hLl; simp at hLl; omega
  have hB3:H3 B=some (cX L):=ps.at_;rw [← hLl]
  repeat' (first|refine zW ?_|apply a_n|refine zO ?_|refine vY ?_|fail)
  refine aF ev0 ev0 (qp L (show _ ≤ _ by omega) hL0 H3 B nx3 hB3 (by have:=ps.le; omega)) ?_;rintro _ H4 nx4 ⟨rfl,⟨C,rfl,c1,c2⟩,rfl⟩;have hd:ec L L.length=fM bE M:=pd gn hperm (by rw [hLl]; exact hsort);rw [hd] at c2;have hle:=rl L L.length;have hdl:=oP L L.length;rw [hd] at hdl
  repeat' (first|apply a_n|refine zO ?_|refine vY ?_|refine ak rfl ?_|refine r2Y ?_|fail)
  refine ⟨by have:=ps.le; omega,.inr ⟨ht,.msl B (L.length * 2) 2 0 (bR L L.length),only B C,cw (ao H3 B C) B,rfl,rfl,Fz.one aj,?_,fun x hx=>?_⟩⟩
  ·rw [himg];exact q9 nG c1 (by omega) hdl c2
  ·rw [dX (by omega),ah (by omega),ps.fr x (by omega) (by omega)]; exact h2 x hx
 have ix:=ix2 hk;have hb1:H1 b=some [.omap (m.fr.map bG) (m.to.map bG)]:=(h2 b hbn).trans hb;have hmf:=nR (l.getD k default) m.fr;have hcl:(cX ((l.take k).map (dI m))).length=k * 2:=by rw [eH,cr,go]; omega
 have e1:(l.take (k + 1)).map (dI m)=(l.take k).map (dI m) ++ [dI m (l.getD k default)]:=by rw [bW hk,f9]; rfl
 by_cases hv:l.getD k default ∈ m.fr
 rotate_left
 ·have ht:ci m l=false:=ib hk (bq hv);rw [if_neg hv] at hmf;generalize l.getD k default=v at *;clear zz;have zz:=@ix; repeat' (first|refine zW ?_|apply a_n|refine zO ?_|refine vY ?_|refine alY ?_|refine stY ?_|(refine zGY ?_ ?_ <;> (intro _hg; try (exfalso; omega)))|fail)
  refine kF ev0 (by rw [ah (by omega),ah (by omega)]; exact hb1) ev0 (mW v) hmf ?_;rw [show mget (.agg [.int .i64 0,.int .i64 0]) true none (m.to.map bG)=.tup [.agg [.int .i64 0,.int .i64 0],.bool false] from rfl]
  repeat' (first|refine zW ?_|apply a_n|apply a_r|refine zO ?_|refine vY ?_|refine alY ?_|refine stY ?_|refine cTY ?_|refine ak rfl ?_|refine r2Y ?_|fail)
  exact ⟨by omega,.inl ⟨ht,rfl,fun x hx=>by (repeat rw [ah (by omega)]); exact h2 x hx⟩⟩
 rw [if_pos hv] at hmf;have hmg:=vD hlen hv
 have hzz:∀ i,i < k + 1→decide (l.getD i default ∈ m.fr)=true:=fun i hi=>by
  rcases gI.1 hi with h' | rfl
  ·exact hz i h'
  ·exact bk hv
 generalize l.getD k default=v at *;generalize dI m v=w at *;clear zz;have zz:=@ix; repeat' (first|refine zW ?_|apply a_n|refine zO ?_|refine vY ?_|refine alY ?_|refine stY ?_|(refine zGY ?_ ?_ <;> (intro _hg; try (exfalso; omega)))|fail)
 refine kF ev0 (by rw [ah (by omega),ah (by omega)]; exact hb1) ev0 (mW v) hmf ?_;rw [show mget (.agg [.int .i64 0,.int .i64 0]) true (some (m.fr.idxOf v)) (m.to.map bG)=.tup [(m.to.map bG).getD (m.fr.idxOf v) .undef,.bool true] from rfl,hmg]
 repeat' (first|refine zW ?_|apply a_n|refine zO ?_|refine vY ?_|refine alY ?_|refine stY ?_|refine blY ?_|refine cFY ?_|fail)
 refine jb rfl ev0 (hrow.same fun B hB=>?_) ev0 jt rfl rfl (by omega) (by omega) (by omega) ?_
 ·have:=hbd B hB; (repeat rw [ah (by omega)])
 rintro s2 H2 nx2 hr2 i1 i2 i3 i4
 repeat' (first|apply a_n|refine zO ?_|refine vY ?_|fail)
 refine ⟨(s2,k + 1),by dsimp only; omega,⟨by dsimp only; omega,fun y hy=>?_,by omega,?_,fun B hB=>?_,hzz⟩,ag0⟩
 ·rw [i3 y (by omega) (fun h=>by have:=hbd y h; omega)]
  (repeat rw [ah (by omega)]); exact h2 y hy
 ·dsimp only;rw [e1,f8]; exact hr2
 ·rcases i4 B hB with h | h
  ·have:=hbd B h; omega
  ·omega
end Go.Proofs.YtpfkjcjgdilkkaaGreat
namespace Go.Proofs.YtpfkjcjgdilkkaaGreat
open Go Go.Abs
def eU (m:MapV) (a b:List Spx):Bool × Int:=if eb m ≠ 0 then (false,eb m) else if aH a ≠ 0 then (false,aH a) else if aH b ≠ 0 then (false,aH b) else if a.all (ci m)=false then (false,6) else ((a.map (bc m)).all fun s=>b.any fun t=>cT s t,0)
theorem zf {α:Type} {l:List α} {p:α→Bool}:(!l.any fun x=>!p x)=l.all p:=by
 rw [List.any_eq_not_all_not]; simp
attribute [local irreducible] aW av bQ bO bl bB aU bx bT cK Go.Abs.Fn bL Go.Abs.Pure aS bg Yl
set_option maxHeartbeats 1000000 in
theorem xa (m:MapV) (c:List Spx) (hlen:m.to.length=m.fr.length) (hc:c.length ≤ 5000) (hs:∀ s ∈ c,s.length ≤ 1000∧s ≠ []) (b:Nat) (H:Hp) (nx:Nat) (hb:H b=some [.omap (m.fr.map bG) (m.to.map bG)]) (hbn:b < nx):Abs.Fn Tryz.prog 27 [.mp b,d9 c] H nx fun r H' nx'=>nx ≤ nx'∧(∀ x,x < nx→H' x=H x)∧((c.all (ci m)=false∧r=.tup [.esl,.bool false]) ∨ (c.all (ci m)=true∧∃ sv,r=.tup [sv,.bool true]∧Row H' 1 sv ((c.map (bc m)).map ar)∧∀ B,dB sv=some B→nx ≤ B∧B < nx')):=by
 refine Abs.Fn.of_c2 follows Gg (ba rfl) ?_;simp only [b27,aK];have zz:=aI @an (aI @aD @au); repeat' (first|refine zW ?_|apply a_n|refine zO ?_|refine vY ?_|refine bxY ?_|fail)
 refine aZ (X:=AV × Nat) (fun x=>[(0,.mp b),(6,x.1),(12,aE c),(13,.int .i64 c.length),(14,.int .i64 x.2)]) (fun x H' nx'=>x.2 ≤ c.length∧(∀ y,y < nx→H' y=H y)∧nx ≤ nx'∧Row H' 1 x.1 (((c.take x.2).map (bc m)).map ar)∧(∀ B,dB x.1=some B→nx ≤ B∧B < nx')∧∀ i,i < x.2→ci m (c.getD i default)=true) (fun x=>c.length - x.2) (.esl,0) ⟨cq _,fun y hy=>ah (by omega),by omega,Row.nil,fun B h=>(by cases h),fun i h=>absurd h (by omega)⟩ ag0 ?_;rintro ⟨svo,k⟩ H1 nx1 ⟨h1,h2,h3,hrow,hbd,hz⟩;dsimp only at h1 hrow hbd hz ⊢;by_cases hk:k < c.length
 rotate_left
 ·rw [fq (by omega)] at hrow
  repeat' (first|refine zW ?_|apply a_n|apply a_x|refine zO ?_|refine vY ?_|(refine zGY ?_ ?_ <;> (intro _hg; try (exfalso; omega)))|refine ak rfl ?_|refine r2Y ?_|fail)
  exact ⟨h3,h2,.inr ⟨jm fun i hi=>hz i (by omega),svo,rfl,hrow,hbd⟩⟩
 have ix:=fC hk;obtain ⟨s1,s2⟩:=hs _ (a7 hk);have hcl:(((c.take k).map (bc m)).map ar).length=k:=by rw [cr,cr,go]; omega
 have e1:(c.take (k + 1)).map (bc m)=(c.take k).map (bc m) ++ [bc m (c.getD k default)]:=by rw [bW hk,f9]; rfl
 have hall:ci m (c.getD k default)=false→c.all (ci m)=false:=fun h=>ib hk h
 have hzz:ci m (c.getD k default)=true→∀ i,i < k + 1→ci m (c.getD i default)=true:=fun h i hi=>by
  rcases gI.1 hi with h' | rfl
  ·exact hz i h'
  ·exact h
 have ho:=Gd m (c.getD k default) hlen (by omega) s2 b H1 nx1 ((h2 b hbn).trans hb) (by omega);obtain ⟨o1,o2⟩:=hrow.one;generalize c.getD k default=s at *;clear zz;have zz:=@ix; repeat' (first|refine zW ?_|apply a_n|refine zO ?_|refine vY ?_|(refine zGY ?_ ?_ <;> (intro _hg; try (exfalso; omega)))|fail)
 refine aF ev0 ev0 ho ?_;rintro _ H2 nx2 ⟨hle,h⟩;rcases h with ⟨ht,rfl,hsm⟩ | ⟨ht,sv2,Hf,H3,rfl,hone,hfz,hsn,hsm⟩
 ·repeat' (first|refine zW ?_|apply a_n|apply a_r|refine zO ?_|refine vY ?_|refine cTY ?_|refine ak rfl ?_|refine r2Y ?_|fail)
  exact ⟨by omega,fun x hx=>(hsm x (by omega)).trans (h2 x hx),.inl ⟨hall ht,rfl⟩⟩
 repeat' (first|apply a_n|refine zO ?_|refine vY ?_|fail)
 refine ef (ef ?_);refine nM Hf H3 [(0,.mp b),(6,svo),(9,ar (bc m s)),(10,.bool true),(12,aE c),(13,.int .i64 c.length),(14,.int .i64 k)] hfz ⟨.inl rfl,.inl rfl,.inr hsn,.inl rfl,.inl rfl,.inl rfl,.inl rfl,trivial⟩ ?_;clear zz;have zz:=aI @aQ @aG; repeat' (first|apply a_n|refine zO ?_|refine vY ?_|refine blY ?_|refine cFY ?_|fail)
 refine jb rfl ev0 (hrow.same fun B hB=>?_) ev0 fl rfl rfl mi (by omega) (by omega) ?_
 ·have:=hbd B hB; rw [ah (by omega)]; exact hsm B (by omega)
 rintro s3 H4 nx4 hr4 i1 i2 i3 i4
 repeat' (first|apply a_n|refine zO ?_|refine vY ?_|fail)
 refine ⟨(s3,k + 1),by dsimp only; omega,⟨by dsimp only; omega,fun y hy=>?_,by omega,?_,fun B hB=>?_,hzz ht⟩,ag0⟩
 ·rw [i3 y (by omega) (fun h=>by have:=hbd y h; omega),ah (by omega),hsm y (by omega)]; exact h2 y hy
 ·dsimp only;rw [e1,f9]; exact hr4
 ·rcases i4 B hB with h | h
  ·have:=hbd B h; omega
  ·omega
theorem F0 (v:Vtx) (t:Spx) (ht:Shn t):Pure Tryz.prog 36 [bG v,.iptr [ar t] 0] (.bool (!decide (v ∈ t))):=by
 refine Pure.of_c2 follows HC (ba rfl) ?_;simp only [b36,aK];have h:=xf t v ht
 repeat' (first|refine zW ?_|apply a_n|refine zO ?_|refine vZ ?_|refine cZ ?_ (hp:=h) (hs:=by (first | refine af ?_ rfl | apply ag); (repeat' (first | exact ae | apply am | apply ai | exact aA _ | exact bS _)); first | done | fail)|refine bxZ ?_|refine ak rfl ?_|refine r1Z ?_|fail)
 exact .bool _
theorem Hx (s t:Spx) (hs:Shn s) (ht:Shn t):Pure Tryz.prog 34 [ar s,ar t] (.bool (cT s t)):=by
 refine Pure.of_c2 follows HK (ba rfl) ?_;simp only [b34,aK];have h:=uI s (fun v=>!decide (v ∈ t)) 36 [.iptr [ar t] 0] (DatL.cons (Dat.iptr (DatL.cons (aA _) DatL.nil)) DatL.nil) (fun v _=>F0 v t ht) hs;have zz:=aI @aQ @aG; repeat' (first|refine zW ?_|apply a_n|refine zO ?_|refine vZ ?_|refine bxZ ?_|fail)
 refine dG ev0 ev0 h (af (aw (aA _ _) (aw (lC (aw (jk rfl rfl (aw (aA _ _) ae)) ae)) ae)) rfl) ?_
 repeat' (first|apply a_n|refine zO ?_|refine vZ ?_|refine ak rfl ?_|refine r1Z ?_|fail)
 exact bF zf
theorem Fp (s t:Spx) (hs:Shn s) (ht:Shn t):Pure Tryz.prog 40 [ar t,.iptr [.func 34 []] 0,.iptr [ar s] 0] (.bool (cT s t)):=by
 refine Pure.of_c2 follows H7 (ba rfl) ?_;simp only [b40,aK];have h:=Hx s t hs ht
 repeat' (first|refine zW ?_|apply a_n|refine zO ?_|refine vZ ?_|refine cZ ?_ (hp:=h) (hs:=by (first | refine af ?_ rfl | apply ag); (repeat' (first | exact ae | apply am | apply ai | exact aA _)); first | done | fail)|refine ak rfl ?_|refine r1Z ?_|fail)
 exact .bool _
theorem Gp (b:List Spx) (s:Spx) (hb:Shn b) (hbs:∀ t ∈ b,Shn t) (hs:Shn s):Pure Tryz.prog 39 [ar s,.iptr [aE b] 0,.iptr [.func 34 []] 0] (.bool (!b.any fun t=>cT s t)):=by
 refine Pure.of_c2 follows IK (ba rfl) ?_;simp only [b39,aK];have h:=nB b (fun t=>cT s t) 40 [.iptr [.func 34 []] 0,.iptr [ar s] 0] (DatL.cons (Dat.iptr (DatL.cons (Dat.func DatL.nil) DatL.nil)) (DatL.cons (Dat.iptr (DatL.cons (aA _) DatL.nil)) DatL.nil)) (fun t ht=>Fp s t hs (hbs t ht)) hb;have zz:=aI @aQ @aG; repeat' (first|refine zW ?_|apply a_n|refine zO ?_|refine vZ ?_|refine bxZ ?_|fail)
 refine dG ev0 ev0 h (af (aw (bi _ _) (aw (lC (aw (Dat.iptr (DatL.cons (Dat.func DatL.nil) DatL.nil) _) (aw (jk rfl rfl (aw (aA _ _) ae)) ae))) ae)) rfl) ?_
 repeat' (first|apply a_n|refine zO ?_|refine vZ ?_|refine ak rfl ?_|refine r1Z ?_|fail)
 exact .bool _
set_option maxHeartbeats 2000000 in
theorem mS (m:MapV) (a b:List Spx) (hm:ShM m) (ha:Shn a) (has:∀ s ∈ a,Shn s) (hb:Shn b) (hbs:∀ s ∈ b,Shn s):Pure Tryz.prog 11 [pT m,d9 a,d9 b] (.tup [.bool (eU m a b).1,.int .i64 (eU m a b).2]):=by
 refine Pure.of_c2 follows H8 (ba rfl) ?_;simp only [b11,aK];have hca:=jw a ha has;have hcb:=jw b hb hbs;unfold eU;have zz:=aI @aQ (aI @aG (aI @aD @au)); repeat' (first|refine zW ?_|apply a_n|refine zO ?_|refine vZ ?_|refine bxZ ?_|fail)
 refine aF ev0 ev0 (uk m hm _ _) ?_;rintro _ H1 nx1 ⟨hsm,hle,h⟩;rcases h with ⟨he,B,rfl,hB1,hB2,hB3⟩ | ⟨he,zv,rfl⟩
 rotate_left
 ·rw [if_pos he];have z:decide (eb m ≠ 0)=true:=bk he;clear zz;have zz:=@z; repeat' (first|refine zW ?_|apply a_n|apply a_r|refine zO ?_|refine vY ?_|refine cTY ?_|refine ak rfl ?_|refine r2Y ?_|fail)
  exact rg rfl rfl
 rw [if_neg (fun h=>h he)];obtain ⟨q1,q2,q3,q4,q5⟩:=fT he;have g1:H1 1=some [aE a]:=hsm 1 (by omega);have g2:H1 2=some [aE b]:=hsm 2 (by omega);have z0:decide ((0:Int) ≠ 0)=false:=rfl;clear zz;have zz:=aI @g1 (aI @g2 @z0); repeat' (first|apply a_n|refine zO ?_|refine vY ?_|fail)
 refine ef (ef ?_);clear zz;have zz:=aI @g1 (aI @g2 @z0); repeat' (first|apply a_n|refine zO ?_|refine vY ?_|refine cFY ?_|fail)
 by_cases hea:aH a=0
 rotate_left
 ·rw [if_pos hea];have z:decide (aH a ≠ 0)=true:=bk hea;clear zz;have zz:=aI @g1 (aI @g2 (aI @aD @au)); repeat' (first|refine zW ?_|apply a_n|refine zO ?_|refine vY ?_|refine blY ?_|fail)
  refine aZ (X:=Nat) (fun k=>[(4,.ptr 1 1 0),(26,.msl nx1 2 1 0 2),(27,.int .i64 2),(28,.int .i64 k)]) (fun k H nx=>k=0∧H nx1=some [aE a,aE b]) (fun _=>0) 0 ⟨rfl,aj⟩ (by (iterate 4 refine And.intro rfl ?_); trivial) ?_;rintro k H nx ⟨rfl,g⟩;clear zz;have zz:=aI @g (aI @z (aI @ol (aI @aD @au))); repeat' (first|refine zW ?_|apply a_n|apply a_r|refine zO ?_|refine vY ?_|refine cY ?_ (hp:=hca) (hs:=by (first | refine af ?_ rfl | apply ag); (repeat' (first | exact ae | apply am | apply ai | exact bm _)); first | done | fail)|refine alY ?_|refine stY ?_|refine cTY ?_|(refine zGY ?_ ?_ <;> (intro _hg; try (exfalso; omega)))|refine ak rfl ?_|refine r2Y ?_|fail)
  exact rg rfl rfl
 rw [if_neg (fun h=>h hea)];rw [hea] at hca;by_cases heb:aH b=0
 rotate_left
 ·rw [if_pos heb];have z:decide (aH b ≠ 0)=true:=bk heb;clear zz;have zz:=aI @g1 (aI @g2 (aI @aD @au)); repeat' (first|refine zW ?_|apply a_n|refine zO ?_|refine vY ?_|refine blY ?_|fail)
  refine aZ (X:=Nat) (fun k=>[(26,.msl nx1 2 1 0 2),(27,.int .i64 2),(28,.int .i64 k)]) (fun k H nx=>k ≤ 1∧H nx1=some [aE a,aE b]∧nx1 < nx) (fun k=>2 - k) 0 ⟨by omega,aj,by omega⟩ (by (iterate 3 refine And.intro rfl ?_); trivial) ?_;rintro k H nx ⟨hk,g,hnx⟩;rcases (by omega:k=0 ∨ k=1) with rfl | rfl
  ·clear zz;have zz:=aI @g (aI @z0 (aI @ol (aI @aD @au))); repeat' (first|refine zW ?_|apply a_n|refine zO ?_|refine vY ?_|refine cY ?_ (hp:=hca) (hs:=by (first | refine af ?_ rfl | apply ag); (repeat' (first | exact ae | apply am | apply ai | exact bm _)); first | done | fail)|refine alY ?_|refine stY ?_|refine cFY ?_|(refine zGY ?_ ?_ <;> (intro _hg; try (exfalso; omega)))|fail)
   exact ⟨1,by omega,⟨by omega,by (repeat rw [ah (by omega)]); exact g,by omega⟩,by (iterate 3 refine And.intro rfl ?_); trivial⟩
  ·clear zz;have zz:=aI @g (aI @z (aI @Nat.one_mul (aI @aD @au))); repeat' (first|refine zW ?_|apply a_n|apply a_r|refine zO ?_|refine vY ?_|refine cY ?_ (hp:=hcb) (hs:=by (first | refine af ?_ rfl | apply ag); (repeat' (first | exact ae | apply am | apply ai | exact bm _)); first | done | fail)|refine alY ?_|refine stY ?_|refine cTY ?_|(refine zGY ?_ ?_ <;> (intro _hg; try (exfalso; omega)))|refine ak rfl ?_|refine r2Y ?_|fail)
   exact rg rfl rfl
 rw [if_neg (fun h=>h heb)];rw [heb] at hcb;obtain ⟨a1,a2,a3,a4⟩:=cA hea;refine bh (fun T H nx=>T 4=.ptr 1 1 0∧T 5=.ptr 2 1 0∧T 8=.mp B∧H 1=some [aE a]∧H 2=some [aE b]∧H B=some [.omap (m.fr.map bG) (m.to.map bG)]∧B < nx∧3 ≤ nx) ?_ ?_
 ·clear zz;have zz:=aI @g1 (aI @g2 (aI @aD @au)); repeat' (first|refine zW ?_|apply a_n|refine zO ?_|refine vY ?_|refine blY ?_|fail)
  refine aZ (X:=Nat) (fun k=>[(4,.ptr 1 1 0),(5,.ptr 2 1 0),(8,.mp B),(26,.msl nx1 2 1 0 2),(27,.int .i64 2),(28,.int .i64 k)]) (fun k H nx=>k ≤ 2∧H nx1=some [aE a,aE b]∧nx1 < nx∧H 1=some [aE a]∧H 2=some [aE b]∧H B=some [.omap (m.fr.map bG) (m.to.map bG)]) (fun k=>2 - k) 0 ⟨by omega,aj,by omega,by rw [ah (by omega)]; exact g1,by rw [ah (by omega)]; exact g2,by rw [ah (by omega)]; exact hB3⟩ (by (iterate 6 refine And.intro rfl ?_); trivial) ?_;rintro k H nx ⟨hk,g,hnx,g1,g2,g3⟩;rcases (by omega:k=0 ∨ k=1 ∨ k=2) with rfl | rfl | rfl
  ·clear zz;have zz:=aI @g (aI @z0 (aI @ol (aI @aD @au))); repeat' (first|refine zW ?_|apply a_n|refine zO ?_|refine vY ?_|refine cY ?_ (hp:=hca) (hs:=by (first | refine af ?_ rfl | apply ag); (repeat' (first | exact ae | apply am | apply ai | exact bm _)); first | done | fail)|refine alY ?_|refine stY ?_|refine cFY ?_|(refine zGY ?_ ?_ <;> (intro _hg; try (exfalso; omega)))|fail)
   exact ⟨1,by omega,⟨by omega,by (repeat rw [ah (by omega)]); exact g,by omega,by (repeat rw [ah (by omega)]); exact g1,by (repeat rw [ah (by omega)]); exact g2,by (repeat rw [ah (by omega)]); exact g3⟩,by (iterate 6 refine And.intro rfl ?_); trivial⟩
  ·clear zz;have zz:=aI @g (aI @z0 (aI @Nat.one_mul (aI @aD @au))); repeat' (first|refine zW ?_|apply a_n|refine zO ?_|refine vY ?_|refine cY ?_ (hp:=hcb) (hs:=by (first | refine af ?_ rfl | apply ag); (repeat' (first | exact ae | apply am | apply ai | exact bm _)); first | done | fail)|refine alY ?_|refine stY ?_|refine cFY ?_|(refine zGY ?_ ?_ <;> (intro _hg; try (exfalso; omega)))|fail)
   exact ⟨2,by omega,⟨by omega,by (repeat rw [ah (by omega)]); exact g,by omega,by (repeat rw [ah (by omega)]); exact g1,by (repeat rw [ah (by omega)]); exact g2,by (repeat rw [ah (by omega)]); exact g3⟩,by (iterate 6 refine And.intro rfl ?_); trivial⟩
  ·repeat' (first|refine zW ?_|apply a_n|apply a_x|refine zO ?_|refine vY ?_|(refine zGY ?_ ?_ <;> (intro _hg; try (exfalso; omega)))|fail)
   exact ⟨rfl,rfl,rfl,g1,g2,g3,by omega,by omega⟩
 clear zz;clear g1 g2 hB3 hsm;rintro T H nx ⟨t4,t5,t8,g1,g2,g3,hBn,hnx⟩;have zz:=aI @t4 (aI @t5 (aI @t8 @g1)); repeat' (first|refine zW ?_|apply a_n|refine zO ?_|refine vY ?_|fail)
 refine aF ev0 (have zz:=@t8; evZ) (xa m a q2 (by omega) (fun s hs=>by obtain ⟨p1,p2,p3,p4⟩:=cg (a2 s hs); exact ⟨by omega,fun e=>by rw [e] at p1; simp at p1⟩) B H nx g3 hBn) ?_;rintro _ H3 nx3 ⟨hle3,hsm3,h⟩;rcases h with ⟨ht,rfl⟩ | ⟨ht,sv,rfl,hrow,hbd⟩
 ·rw [if_pos ht]
  repeat' (first|refine zW ?_|apply a_n|apply a_r|refine zO ?_|refine vY ?_|refine cTY ?_|refine ak rfl ?_|refine r2Y ?_|fail)
  exact rg rfl rfl
 rw [if_neg (by rw [ht]; decide)];have g2':H3 2=some [aE b]:=(hsm3 2 (by omega)).trans g2
 have hcs:=nB (a.map (bc m)) (fun s=>!b.any fun t=>cT s t) 39 [.iptr [aE b] 0,.iptr [.func 34 []] 0] (DatL.cons (Dat.iptr (DatL.cons (bi _) DatL.nil)) (DatL.cons (Dat.iptr (DatL.cons (Dat.func DatL.nil) DatL.nil)) DatL.nil)) (fun s hs=>by
  obtain ⟨s0,hs0,rfl⟩:=cL.1 hs;refine Gp b _ hb hbs ?_;obtain ⟨p1,p2,p3,p4⟩:=cg (a2 s0 hs0);have:=jn (K:=bE) (l:=s0.map (dI m));rw [cr] at this;show (bc m s0).length ≤ _;unfold bc; omega) (by show _ ≤ _; rw [cr]; omega)
 clear zz;have zz:=@t5; repeat' (first|refine zW ?_|apply a_n|refine zO ?_|refine vY ?_|refine alY ?_|refine stY ?_|refine cFY ?_|fail)
 refine dG ev0 (have zz:=@t5; evZ) hcs (af (aw (lm (hrow.same fun B hB=>by have:=hbd B hB; (repeat rw [ah (by omega)]))) (aw (lC (aw (jk (by (repeat rw [ah (by omega)]); exact g2') rfl (aw (bi _ _) ae)) (aw (jk (by rw [aj]; rfl) rfl (aw (Dat.func DatL.nil _) ae)) ae))) ae)) rfl) ?_
 repeat' (first|apply a_n|refine zO ?_|refine vY ?_|refine ak rfl ?_|refine r2Y ?_|fail)
 exact rg zf rfl
def bV:Spx→Nat→List Spx
 | _,0=>[[]]
 | [],_ + 1=>[]
 | x :: l,k + 1=>(bV l k).map (x :: ·) ++ bV l (k + 1)
theorem oF {l:Spx}:bV l 0=[[]]:=by cases l <;> rfl
theorem wB {k:Nat}:bV [] (k + 1)=[]:=rfl
theorem ik {x:Vtx} {l:Spx} {k:Nat}:bV (x :: l) (k + 1)=(bV l k).map (x :: ·) ++ bV l (k + 1):=rfl
theorem bP:∀ {l:Spx} {k:Nat} {s:Spx},s ∈ bV l k ↔ s.Sublist l∧s.length=k
 | l,0,s=>by
  rw [oF,fV];exact ⟨fun h=>by subst h; exact ⟨List.nil_sublist _,rfl⟩,fun h=>fE.1 h.2⟩
 | [],k + 1,s=>by
  rw [wB];refine ⟨fun h=>(by cases h),fun ⟨h1,h2⟩=>?_⟩;rw [List.sublist_nil] at h1;subst h1; simp at h2
 | x :: l,k + 1,s=>by
  rw [ik,iH,cL,bP];constructor
  ·rintro (⟨t,ht,rfl⟩ | ⟨h1,h2⟩)
   ·have:=bP.1 ht;exact ⟨this.1.cons_cons x,by simp [this.2]⟩
   ·exact ⟨h1.cons x,h2⟩
  ·rintro ⟨h1,h2⟩;cases h1 with
   | cons _ h=>exact .inr ⟨h,h2⟩
   | cons_cons _ h=>exact .inl ⟨_,bP.2 ⟨h,by simpa using h2⟩,rfl⟩
theorem rB {l:Spx} {k:Nat} (h:l.length < k):bV l k=[]:=by
 cases e:bV l k with
 | nil=>rfl
 | cons a r =>
  have:=bP.1 (show a ∈ bV l k by rw [e]; exact ko);have:=this.1.length_le;omega
def chK:Nat→Nat→Nat
 | _,0=>1
 | 0,_ + 1=>0
 | n + 1,k + 1=>chK n k + chK n (k + 1)
theorem GA {n:Nat}:chK n 0=1:=by cases n <;> rfl
theorem r9:∀ {l:Spx} {k:Nat},(bV l k).length=chK l.length k
 | l,0=>by rw [oF,GA]; rfl
 | [],k + 1=>rfl
 | x :: l,k + 1=>by
  rw [ik,dl,cr,r9,r9]; rfl
theorem ET {n k:Nat} (hn:n ≤ 8):chK n k ≤ 70:=by
 by_cases hk:k ≤ 8
 ·have:∀ n,n < 9→∀ k,k < 9→chK n k ≤ 70:=by decide
  exact this n (by omega) k (by omega)
 ·have:∀ n k,n < k→chK n k=0:=by
    intro n
    induction n with
    | zero=>intro k h; match k,h with | k + 1,_=>rfl
    | succ n ih=>intro k h; match k,h with | k + 1,h=>show chK n k + chK n (k + 1)=0; rw [ih k (by omega),ih (k + 1) (by omega)]
  rw [this n k (by omega)]; omega
theorem yO {l:Spx} {k:Nat} (h:l.length ≤ 8):(bV l k).length ≤ 70:=by rw [r9]; exact ET h
theorem qD {l s:Spx} {k:Nat} (hl:cb bE l) (hs:s ∈ bV l k):cb bE s:=hl.sublist (bP.1 hs).1
theorem zy {l:Spx} {i k:Nat} (hi:i < l.length):bV (l.drop i) (k + 1)=(bV (l.drop (i + 1)) k).map (l.getD i default :: ·) ++ bV (l.drop (i + 1)) (k + 1):=by
 rw [List.drop_eq_getElem_cons hi,ik];simp [List.getD,hi]
theorem nT {v w:Vtx} {l m:Spx}:bJ (v :: l) (w :: m)=if bE v w ≠ 0 then bE v w else bJ l m:=rfl
theorem zG {v:Vtx} {l m:Spx}:bJ (v :: l) (v :: m)=bJ l m:=by
 rw [nT,if_neg (fun h=>h (ij.2 rfl))]
theorem gC:∀ {l:Spx} {k:Nat},cb bE l→cb bJ (bV l k)
 | l,0,_=>by rw [oF]; exact List.pairwise_singleton _ _
 | [],k + 1,_=>sH
 | x :: l,k + 1,h=>by
  have h':=ml.1 h;rw [ik];unfold cb;rw [List.pairwise_append];refine ⟨?_,gC h'.2,?_⟩
  ·rw [List.pairwise_map];exact wK (fun {a b} hab=>by rw [zG]; exact hab) (gC (k:=k) h'.2)
  ·intro a ha b hb;obtain ⟨t,_,rfl⟩:=cL.1 ha;have hb':=bP.1 hb;cases b with
   | nil=>simp at hb'
   | cons y r =>
    have hy:y ∈ l:=hb'.1.subset ko;have:=h'.1 y hy;rw [nT,if_pos (by omega)];exact this
end Go.Proofs.YtpfkjcjgdilkkaaGreat
namespace Go.Proofs.YtpfkjcjgdilkkaaGreat
open Go Go.Abs
open Nat (reduceEqDiff reduceAdd reduceLeDiff)
attribute [local irreducible] aW av bQ bO bl bB aU bx bT cK Go.Abs.Fn bL Go.Abs.Pure aS bg Yl
theorem Bj (s:AV) (l:Spx) (hl:l.length ≤ 1000000) (h0:l ≠ []) (H:Hp) (nx:Nat) (hn:f0 s=some l.length) (hs:∀ H',(∀ x,x < nx→H' x=H x)→ed 2 H' s=some (l.length,cX l)):Abs.Fn Tryz.prog 45 [s] H nx fun r H' nx'=>r=.msl nx (l.length * 2) 2 0 l.length∧H'=ao H nx (cX l)∧nx'=nx + 1:=by
 have hpos:=pQ.2 h0;refine Abs.Fn.of_c2 follows EF (ba rfl) ?_;simp only [b45,aK]
 repeat' (first|refine zW ?_|apply a_n|refine zO ?_|refine vY ?_|fail)
 refine xE (k:=l.length) (by ((try simp only [dh,ZA,reduceEqDiff,↓reduceIte,reduceAdd,reduceLeDiff]); (try with_reducible rfl)); exact hn) (fun h=>?_) (fun h=>by omega) (fun h=>by omega)
 repeat' (first|refine zW ?_|apply a_n|refine zO ?_|refine vY ?_|refine b0Y ?_|refine cFY ?_|fail)
 refine oC rfl ev0 ev0 (hs _ fun x _=>rfl) (lq _) (by omega) (by omega) ?_
 repeat' (first|apply a_n|refine zO ?_|refine vY ?_|refine ak rfl ?_|refine r1Y ?_|fail)
 exact ⟨rfl,rfl,rfl⟩
theorem F4 {y lo kb sb k N:Nat} {s:Spx} (hs:s.length ≤ 1000) (hk:k ≤ 1000) (I:List Spx→Hp→Nat→Prop)
    (hp:∀ S H nx,I S H nx→H kb=some [.int .i64 k]∧H sb=some [ar s]∧lo + 3 ≤ nx∧kb < lo∧sb < lo)
    (stab:∀ S H H' nx nx',I S H nx→nx ≤ nx'→(∀ i,i < nx→¬ (lo ≤ i∧i < lo + 3)→H' i=H i)→I S H' nx')
    (rnd:∀ S f H nx,I S H nx→f.length=k→f ≠ []→S.length < N→Yl Tryz.prog y [.msl nx (k * 2) 2 0 k] (ao H nx (cX f)) (nx + 1) fun r H' nx'=>r=.bool true∧I (S ++ [f]) H' nx'∧nx ≤ nx'∧∀ i,lo ≤ i→i < lo + 3→H' i=H i) :
    ∀ (j:Nat) (ch:Spx) (at_:Nat) (S:List Spx) (H:Hp) (nx:Nat),0 < k→ch.length + j=k→S.length + (bV (s.drop at_) j).length ≤ N→at_ ≤ s.length→I S H nx→H lo=some [.yld y]→H (lo + 1)=some [.func 142 [.ptr kb 1 0,.ptr lo 1 0,.ptr sb 1 0,.ptr (lo + 1) 1 0]]→(∃ C,H (lo + 2)=some C∧C.length=k * 2∧C.take (ch.length * 2)=cX ch) →
     Abs.Fn Tryz.prog 142 [.int .i64 at_,.msl (lo + 2) (k * 2) 2 0 ch.length,.ptr kb 1 0,.ptr lo 1 0,.ptr sb 1 0,.ptr (lo + 1) 1 0] H nx fun r H' nx'=>r=.bool true∧I (S ++ (bV (s.drop at_) j).map (ch ++ ·)) H' nx'∧nx ≤ nx'∧H' lo=H lo∧H' (lo + 1)=H (lo + 1)∧∃ C,H' (lo + 2)=some C∧C.length=k * 2∧C.take (ch.length * 2)=cX ch:=by
 intro j
 induction j with
 | zero =>
  intro ch at_ S H nx hk0 hj hN hat hI h1 h2 ⟨C,h3,hc1,hc2⟩;obtain ⟨g1,g2,g3,g4,g5⟩:=hp _ _ _ hI;have hlen:ch.length=k:=by omega
  have hne:ch ≠ []:=fun e=>by rw [e] at hlen; simp at hlen; omega
  obtain rfl:C=cX ch:=by rw [← hc2,fq (by omega)]
  refine Abs.Fn.of_c2 follows DU (ba rfl) ?_;simp only [EX,aK];have hcl:=Bj (.msl (lo + 2) (k * 2) 2 0 k) ch (by omega) hne H nx (by rw [hlen]; rfl) (fun H' hH'=>by rw [hlen]; exact (kW (n:=k * 2) (off:=0) (len:=k) ((hH' (lo + 2) (by omega)).trans h3) hc1 (by omega)).trans (by rw [List.drop_zero,fq (by omega)]));rw [hlen] at hcl;rw [hlen];have z:decide ((k:Int)=k)=true:=bk rfl;have zz:=aI @g1 (aI @g2 (aI @h1 (aI @h2 @z))); repeat' (first|refine zW ?_|apply a_n|refine zO ?_|refine vY ?_|(refine zGY ?_ ?_ <;> (intro _hg; try (exfalso; omega)))|fail)
  refine ot lo h1 fun S0 hS hsub=>?_;clear zz;have zz:=@hS; repeat' (first|apply a_n|refine zO ?_|refine nvY ?_|fail)
  refine ir ?_;refine aF ev0 ev0 hcl ?_;rintro _ H2 nx2 ⟨rfl,rfl,rfl⟩;refine px ⟨hsub _ (by rw [ah (by omega)]; exact h1),?_⟩;refine jY ?_;refine uM ev0 ev0 (Yl.mono (rnd S ch H nx hI hlen hne (by rw [oF] at hN; exact hN)) ?_);rintro r H3 nx3 ⟨rfl,e1,e2,e3⟩
  repeat' (first|apply a_n|apply a_r|refine zO ?_|refine nvY ?_|refine ak rfl ?_|refine r1Y ?_|fail)
  refine ⟨rfl,?_,e2,e3 _ (by omega) (by omega),e3 _ (by omega) (by omega),cX ch,(e3 _ (by omega) (by omega)).trans h3,hc1,by rw [← hlen]; exact hc2⟩;rw [oF,gv,List.map_nil,iJ];exact e1
 | succ j ih =>
  intro ch at_ S H nx hk0 hj hN hat hI h1 h2 ⟨C,h3,hc1,hc2⟩;obtain ⟨g1,g2,g3,g4,g5⟩:=hp _ _ _ hI;refine Abs.Fn.of_c2 follows DU (ba rfl) ?_;simp only [EX,aK];have z:decide ((ch.length:Int)=k)=false:=bq (by omega);have zz:=aI @g1 (aI @g2 (aI @h1 (aI @h2 @z))); repeat' (first|refine zW ?_|apply a_n|refine zO ?_|refine vY ?_|refine cFY ?_|fail)
  refine aZ (X:=Nat × List Spx) (fun x=>[(1,.msl (lo + 2) (k * 2) 2 0 ch.length),(4,.ptr sb 1 0),(5,.ptr (lo + 1) 1 0),(9,.int .i64 x.1)]) (fun x H' nx'=>x.1 ≤ s.length∧I x.2 H' nx'∧nx ≤ nx'∧H' lo=H lo∧H' (lo + 1)=H (lo + 1)∧(∃ C,H' (lo + 2)=some C∧C.length=k * 2∧C.take (ch.length * 2)=cX ch)∧x.2 ++ (bV (s.drop x.1) (j + 1)).map (ch ++ ·)=S ++ (bV (s.drop at_) (j + 1)).map (ch ++ ·)) (fun x=>s.length - x.1) (at_,S) ⟨hat,hI,aO _,rfl,rfl,⟨C,h3,hc1,hc2⟩,rfl⟩ ag0 ?_;rintro ⟨i,S1⟩ H1 nx1 ⟨i1,hI1,i2,i3,i4,⟨C1,k3,d1,d2⟩,htot⟩;dsimp only at i1 hI1 htot ⊢;obtain ⟨q1,q2,q3,q4,q5⟩:=hp _ _ _ hI1;have w1:=i3.trans h1;have w2:=i4.trans h2;by_cases hi:i < s.length
  rotate_left
  ·clear zz;have zz:=aI @q1 (aI @q2 @ap); repeat' (first|refine zW ?_|apply a_n|apply a_x|refine zO ?_|refine vY ?_|(refine zGY ?_ ?_ <;> (intro _hg; try (exfalso; omega)))|refine ak rfl ?_|refine r1Y ?_|fail)
   rw [show s.drop i=[] from yq (by omega),wB,List.map_nil,iJ] at htot;exact ⟨rfl,by rw [← htot]; exact hI1,i2,i3,i4,C1,k3,d1,d2⟩
  have ix:=ix2 hi;rw [zy hi,f9,List.map_map,← nq] at htot;have hmm:(bV (s.drop (i + 1)) j).map ((fun x=>ch ++ x) ∘ fun x=>s.getD i default :: x)=(bV (s.drop (i + 1)) j).map ((ch ++ [s.getD i default]) ++ ·):=uN fun x _=>by simp
  rw [hmm] at htot;generalize s.getD i default=v at *;clear zz;have zz:=aI @q1 (aI @q2 @ap); repeat' (first|refine zW ?_|apply a_n|refine zO ?_|refine vY ?_|(refine zGY ?_ ?_ <;> (intro _hg; try (exfalso; omega)))|fail)
  refine nW sb (lo + 1) q2 w2 (by omega) fun S0 hS1 hS2 hsub=>?_;clear zz;have zz:=aI @hS1 (aI @hS2 @ix); repeat' (first|apply a_n|refine zO ?_|refine nvY ?_|fail)
  refine ir ?_
  repeat' (first|apply a_n|refine zO ?_|refine blY ?_|fail)
  refine ⟨hsub _ (by rw [ah (by omega)]; exact q2) (by rw [ah (by omega)]; exact w2),?_⟩;refine ir ?_;refine uF (b:=lo + 2) (m:=k * 2) (off:=0) (len:=ch.length) (n:=1) rfl ev0 (by rw [ah (by omega)]; exact k3) ev0 jt rfl d1 (fun _=>by omega) (by omega) (by omega) ?_;refine px ⟨hsub _ (by rw [ah (by omega),ah (by omega)]; exact q2) (by rw [ah (by omega),ah (by omega)]; exact w2),?_⟩;refine jY ?_;have hl1:(ch ++ [v]).length=ch.length + 1:=by simp
  have hcc:=eH ch
  have hput:(bu C1 (0 + ch.length * 2) [.int .i64 v.color,.int .i64 v.label]).length=k * 2∧(bu C1 (0 + ch.length * 2) [.int .i64 v.color,.int .i64 v.label]).take ((ch.length + 1) * 2)=cX (ch ++ [v]):=by
   rw [b0];simp only [bu];refine ⟨by simp [d1]; omega,?_⟩;rw [d2,f8,EJ,vP (by simp [hcc]; omega),fq (by simp [hcc]; omega)]
  have hN1:S1.length + (bV (s.drop (i + 1)) j).length ≤ N:=by
   have:=congrArg List.length htot;simp only [dl,cr] at this;omega
  have hih:=ih (ch ++ [v]) (i + 1) S1 (ao (ao H1 nx1 [.int .i64 v.color,.int .i64 v.label]) (lo + 2) (bu C1 (0 + ch.length * 2) [.int .i64 v.color,.int .i64 v.label])) (nx1 + 1) hk0 (by omega) hN1 (by omega) (stab _ _ _ _ _ hI1 (by omega) (fun x hx hn=>by rw [ah (by omega),ah (by omega)])) (by rw [ah (by omega),ah (by omega)]; exact w1) (by rw [ah (by omega),ah (by omega)]; exact w2) ⟨_,aj,hput.1,by rw [hl1]; exact hput.2⟩;rw [hl1,show ((i + 1:Nat):Int)=(i:Int) + 1 by omega] at hih;refine aF ev0 ev0 hih ?_;rintro r H4 nx4 ⟨rfl,f1,f2,f3,f4,C4,f5,f6,f7⟩
  repeat' (first|apply a_n|refine zO ?_|refine vY ?_|refine nvY ?_|refine cFY ?_|fail)
  refine ⟨(i + 1,S1 ++ (bV (s.drop (i + 1)) j).map ((ch ++ [v]) ++ ·)),by dsimp only; omega,⟨by dsimp only; omega,f1,by omega,f3.trans ?_,f4.trans ?_,⟨C4,f5,f6,?_⟩,htot⟩,ag0⟩
  ·rw [ah (by omega),ah (by omega)]; exact i3
  ·rw [ah (by omega),ah (by omega)]; exact i4
  ·have:=congrArg (List.take (ch.length * 2)) f7;rw [List.take_take,Nat.min_eq_left (by omega),f8,vP (by omega)] at this;rw [this];exact fq (by omega)
end Go.Proofs.YtpfkjcjgdilkkaaGreat
namespace Go.Proofs.YtpfkjcjgdilkkaaGreat
open Go Go.Abs
open Nat (reduceEqDiff reduceAdd reduceLeDiff)
attribute [local irreducible] aW av bQ bO bl bB aU bx bT cK Go.Abs.Fn bL Go.Abs.Pure aS bg Yl
theorem BG {y kb sb k:Nat} {s:Spx} {H:Hp} {nx:Nat} (hs:s.length ≤ 1000) (hk0:0 < k) (hk:k ≤ 1000) (I:List Spx→Hp→Nat→Prop)
    (hp:∀ S H nx',I S H nx'→H kb=some [.int .i64 k]∧H sb=some [ar s]∧nx + 3 ≤ nx'∧kb < nx∧sb < nx)
    (stab:∀ S H H' nx1 nx',I S H nx1→nx1 ≤ nx'→(∀ i,i < nx1→¬ (nx ≤ i∧i < nx + 3)→H' i=H i)→I S H' nx')
    (rnd:∀ S f H nx1,I S H nx1→f.length=k→f ≠ []→S.length < (bV s k).length→Yl Tryz.prog y [.msl nx1 (k * 2) 2 0 k] (ao H nx1 (cX f)) (nx1 + 1) fun r H' nx'=>r=.bool true∧I (S ++ [f]) H' nx'∧nx1 ≤ nx'∧∀ i,nx ≤ i→i < nx + 3→H' i=H i)
    (gk:H kb=some [.int .i64 k]) (lk:kb < nx) (h0:∀ H',(∀ i,i < nx→H' i=H i)→I [] H' (nx + 3)) :
    Abs.Fn Tryz.prog 141 [.yld y,.ptr kb 1 0,.ptr sb 1 0] H nx fun _ H' nx'=>I (bV s k) H' nx':=by
 refine Abs.Fn.of_c2 follows GM (ba rfl) ?_;simp only [Ht,aK];have zz:=@gk; repeat' (first|refine zW ?_|apply a_n|refine zO ?_|refine vY ?_|refine alY ?_|refine bxY ?_|refine stY ?_|fail)
 generalize hH:ao (ao (ao H nx [.yld y]) (nx + 1) [.nilf]) (nx + 1) (bu [.nilf] 0 [.func 142 [.ptr kb 1 0,.ptr nx 1 0,.ptr sb 1 0,.ptr (nx + 1) 1 0]])=H1;have hfn:H1 (nx + 1)=some [.func 142 [.ptr kb 1 0,.ptr nx 1 0,.ptr sb 1 0,.ptr (nx + 1) 1 0]]:=by rw [← hH,aj]; rfl
 have hfk:H1 kb=some [.int .i64 k]:=by rw [← hH,ah (by omega),ah (by omega),ah (by omega)]; exact gk
 have hfy:H1 nx=some [.yld y]:=by rw [← hH,ah (by omega),ah (by omega),aj]
 have hfo:∀ i,i < nx→H1 i=H i:=fun i hi=>by rw [← hH,ah (by omega),ah (by omega),ah (by omega)]
 clear zz;clear hH;refine nW kb (nx + 1) hfk hfn (by omega) fun S0 hS1 hS2 hsub=>?_;have zz:=aI @hS1 @hS2; repeat' (first|apply a_n|refine zO ?_|refine nvY ?_|fail)
 refine ir ?_;refine yD (k1:=.i64) (k2:=.i64) (n:=0) (m:=k) rfl ev0 ev0 (Int.le_refl _) (by omega) (by omega) (by omega) ?_;refine px ⟨hsub _ (by rw [ah (by omega)]; exact hfk) (by rw [ah (by omega)]; exact hfn),?_⟩;refine jY ?_;have hz:(be (AV.agg [AV.int .i64 0,AV.int .i64 0]) k).length=k * 2:=by simp [be,AV.cells]
 have hih:=F4 (y:=y) (N:=(bV s k).length) (lo:=nx) (kb:=kb) (sb:=sb) (k:=k) (s:=s) hs hk I hp stab rnd k [] 0 [] (ao H1 (nx + 2) (be (AV.agg [AV.int .i64 0,AV.int .i64 0]) k)) (nx + 3) hk0 (by simp) (by simp) (cq _) (h0 _ (fun i hi=>by rw [ah (by omega)]; exact hfo i hi)) (by rw [ah (by omega)]; exact hfy) (by rw [ah (by omega)]; exact hfn) ⟨_,aj,hz,rfl⟩;refine aF ev0 (by ((try simp only [dh,ZA,reduceEqDiff,↓reduceIte,reduceAdd,reduceLeDiff]); (try with_reducible rfl)); rfl) hih ?_;rintro r H4 nx4 ⟨rfl,f1,-⟩
 repeat' (first|apply a_n|refine zO ?_|apply DV|refine ak rfl ?_|fail)
 rw [List.drop_zero,List.nil_append,show (fun x:Spx=>([]:Spx) ++ x)=id from rfl,List.map_id] at f1;exact f1
theorem wN {kb sb k:Nat} {s:Spx} {H:Hp} {nx:Nat} (hs:s.length ≤ 8) (hk0:0 < k) (hk:k ≤ 1000) (gk:H kb=some [.int .i64 k]) (gs:H sb=some [ar s]) (lk:kb < nx) (ls:sb < nx) :
    Abs.Fn Tryz.prog 140 [.esl,.func 141 [.ptr kb 1 0,.ptr sb 1 0]] H nx fun r H' nx'=>Row H' 1 r ((bV s k).map ar)∧nx ≤ nx'∧∀ b',dB r=some b'→nx ≤ b'∧b' < nx':=by
 refine Abs.Fn.of_c2 follows G1 (ba rfl) ?_;simp only [GL,aK]
 repeat' (first|refine zW ?_|apply a_n|refine zO ?_|refine vY ?_|refine bxY ?_|fail)
 refine oG (nx + 1) (nx + 2) rfl rfl ev0 (fun c0 cj hy=>?_);refine Abs.Fn.mono (BG (nx:=nx + 2) (kb:=kb) (sb:=sb) (k:=k) (s:=s) (by omega) hk0 hk (fun S H' nx'=>nx + 5 ≤ nx'∧H' kb=some [.int .i64 k]∧H' sb=some [ar s]∧H' (nx + 1)=some [c0]∧∃ sv,H' nx=some [sv]∧Row H' 1 sv (S.map ar)∧∀ b',dB sv=some b'→nx + 5 ≤ b'∧b' < nx') ?_ ?_ ?_ ?_ ?_ ?_) ?_
 ·rintro S H' nx' ⟨h1,h2,h3,h4,h5⟩;exact ⟨h2,h3,by omega,by omega,by omega⟩
 ·rintro S H1 H2 a c ⟨h1,h2,h3,h4,sv,h5,h6,h7⟩ hac hs';refine ⟨by omega,(hs' _ (by omega) (by omega)).trans h2,(hs' _ (by omega) (by omega)).trans h3,(hs' _ (by omega) (by omega)).trans h4,sv,(hs' _ (by omega) (by omega)).trans h5,h6.same (fun b' hb'=>hs' _ (h7 b' hb').2 (by have:=h7 b' hb'; omega)),fun b' hb'=>⟨(h7 b' hb').1,by have:=h7 b' hb'; omega⟩⟩
 ·rintro S f H' nx' ⟨h1,h2,h3,h4,sv,h5,h6,h7⟩ hfl hf0 hSN;have h4':ao H' nx' (cX f) (nx + 1)=some [c0]:=by rw [ah (by omega)]; exact h4
  refine hy _ _ _ _ h4' rfl ?_;clear hy
  repeat' (first|apply a_n|refine zO ?_|refine vZ ?_|fail)
  refine ⟨h4',?_⟩;have hS70:=xF hSN (yO (k:=k) hs);have hd:cw (ao H' nx' (cX f)) (nx + 1) nx'=some (cX f):=by rw [dX (by omega),aj]
  have hdo:∀ x,x < nx'→x ≠ nx + 1→cw (ao H' nx' (cX f)) (nx + 1) x=H' x:=fun x a b=>by rw [dX b,ah (by omega)]
  generalize cw (ao H' nx' (cX f)) (nx + 1)=H1 at *;refine ff ?_;refine nM (only nx' (cX f)) (cw H1 nx') [(2,.ptr nx 1 0),(5,ar f)] (Fz.one hd) ⟨.inl rfl,.inr (sf (s:=.msl nx' (k * 2) 2 0 k) (by rw [← hfl]; exact Row.box nx' f.length (cX f) nG (eH f))),trivial⟩ ?_;have he:∀ x,x < nx'→x ≠ nx + 1→cw H1 nx' x=H' x:=fun x a b=>by rw [dX (by omega)]; exact hdo x a b
  have g5:cw H1 nx' nx=some [sv]:=(he nx (by omega) (by omega)).trans h5;clear hd hdo;generalize cw H1 nx'=H2 at *;have zz:=aI @g5 (aI @aQ @aG); repeat' (first|apply a_n|refine zO ?_|refine vY ?_|refine blY ?_|fail)
  refine jb rfl ev0 (h6.same fun b' hb'=>?_) ev0 fl rfl rfl mi (by rw [cr]; omega) (by rw [cr]; omega) ?_
  ·have:=h7 b' hb';rw [ah (by omega)]; exact he _ (by omega) (by omega)
  rintro sv' H3 nx3 r1 r2 r3 r4 r5;have zs:∀ x,x < nx + 5→dB sv ≠ some x:=fun x hx e=>by have:=h7 x e; omega
  have z:∀ x,x < nx'→x ≠ nx + 1→dB sv ≠ some x→H3 x=H' x:=fun x a1 a2 a3=>(r4 x (by omega) a3).trans (by rw [ah (by omega)]; exact he x a1 a2);have g6:H3 nx=some [sv]:=(z nx (by omega) (by omega) (zs _ (by omega))).trans h5;obtain ⟨q1,q2⟩:=r1.one;clear zz;have zz:=aI @g6 (aI @q1 @q2); repeat' (first|apply a_n|refine zO ?_|refine stY ?_|fail)
  have w:∀ x,x ≠ nx→x ≠ nx + 1→ao (ao H3 nx (bu [sv] 0 [sv'])) (nx + 1) [c0] x=H3 x:=fun x a1 a2=>by rw [ah a2,ah a1]
  have u7:∀ b',dB sv'=some b'→nx + 5 ≤ b'∧b' < nx3:=fun b' hb'=>by
   rcases r5 b' hb' with e | ⟨e1,e2⟩
   ·have:=h7 b' e; omega
   ·omega
  refine ⟨rfl,⟨by omega,?_,?_,aj,sv',?_,?_,u7⟩,by omega,fun x x1 x2=>?_⟩
  ·rw [w _ (by omega) (by omega),z _ (by omega) (by omega) (zs _ (by omega)),h2]
  ·rw [w _ (by omega) (by omega),z _ (by omega) (by omega) (zs _ (by omega)),h3]
  ·rw [ah (by omega),aj]; rfl
  ·rw [f9];exact r1.same (fun b' hb'=>w b' (by have:=u7 b' hb'; omega) (by have:=u7 b' hb'; omega))
  ·rw [w _ (by omega) (by omega),z _ (by omega) (by omega) (zs _ (by omega))]
 ·rw [ah (by omega),ah (by omega)]; exact gk
 ·omega
 ·intro H' hH';refine ⟨by omega,?_,?_,?_,.esl,?_,.nil,fun b' hb'=>(by cases hb')⟩
  ·rw [hH' _ (by omega),ah (by omega),ah (by omega),gk]
  ·rw [hH' _ (by omega),ah (by omega),ah (by omega),gs]
  ·rw [hH' _ (by omega),aj]
  ·rw [hH' _ (by omega),ah (by omega),aj]
 ·rintro r H' nx' ⟨h1,h2,h3,h4,sv,h5,h6,h7⟩;refine .inl ⟨h4,?_⟩;have zz:=@h5; repeat' (first|refine zW ?_|apply a_n|refine zO ?_|refine vY ?_|refine ak rfl ?_|refine r1Y ?_|fail)
  exact ⟨h6.same (fun b' hb'=>dX (by have:=h7 b' hb'; omega)),by omega,fun b' hb'=>by have:=h7 b' hb'; omega⟩
end Go.Proofs.YtpfkjcjgdilkkaaGreat
namespace Go.Proofs.YtpfkjcjgdilkkaaGreat
open Go Go.Abs
def dE (l:List Spx):List Spx:=(fM bJ l).filter fun s=>!bH (fM bJ l) s
theorem lg {l:List Spx} {s:Spx}:s ∈ dE l ↔ s ∈ l∧bH l s=false:=by
 unfold dE;rw [fZ,eu];refine and_congr_right fun _=>?_;cases h:bH l s
 ·refine ⟨fun _=>rfl,fun _=>?_⟩;cases h2:bH (fM bJ l) s
  ·rfl
  ·obtain ⟨t,t1,t2⟩:=ca.1 h2;rw [ca.2 ⟨t,eu.1 t1,t2⟩] at h; cases h
 ·refine ⟨fun h2=>?_,fun h2=>by cases h2⟩;obtain ⟨t,t1,t2⟩:=ca.1 h;rw [ca.2 ⟨t,eu.2 t1,t2⟩] at h2; cases h2
theorem qw {l:List Spx}:cb bJ (dE l):=(gz jT l).sublist p9
theorem mX {l:List Spx} {s:Spx} (h:s ∈ dE l):s ∈ l:=(lg.1 h).1
theorem nL {l:List Spx}:(dE l).length ≤ l.length:=eX (List.length_filter_le _ _) jn
theorem uH {l:List Spx} (h1:l.length ≤ 4096) (h2:∀ s ∈ l,cm s=0):aH (dE l)=0:=by
 refine wo (eX nL h1) (fun s hs=>h2 s (mX hs)) qw fun s hs=>?_;cases h:bH (dE l) s
 ·rfl
 ·obtain ⟨t,t1,t2⟩:=ca.1 h;have:=(lg.1 hs).2;rw [ca.2 ⟨t,mX t1,t2⟩] at this; cases this
theorem cP {m:MapV} {l:Spx} {w:Vtx}:w ∈ bc m l ↔ ∃ v ∈ l,dI m v=w:=by
 unfold bc; rw [eu,cL]
theorem eS {m:MapV} {l:Spx}:cb bE (bc m l):=gz gn _
theorem gX {m:MapV} {l:Spx}:(bc m l).length ≤ l.length:=by
 unfold bc;have:=jn (K:=bE) (l:=l.map (dI m))
 rwa [cr] at this
theorem Dt {m:MapV} {l:Spx} (h:l ≠ []):bc m l ≠ []:=fun e=>h (by unfold bc at e; rwa [qT,List.map_eq_nil_iff] at e)
theorem cC {m:MapV} {l:Spx}:ci m l=true ↔ ∀ v ∈ l,v ∈ m.fr:=by
 unfold ci; simp [dL]
theorem sM {m:MapV} {l:Spx} (hm:eb m=0) (hl:cm l=0) (ht:ci m l=true):cm (bc m l)=0:=by
 obtain ⟨q1,q2,q3,q4,q5⟩:=fT hm;obtain ⟨p1,p2,p3,p4⟩:=cg hl;have hne:l ≠ []:=fun e=>by rw [e] at p1; simp at p1
 refine vV ⟨pQ.2 (Dt hne),eX gX p2⟩ eS fun w hw=>?_;obtain ⟨v,v1,rfl⟩:=cP.1 hw;exact q5 _ (rt q2 (cC.1 ht v v1))
def im (m:MapV) (c:List Spx):List Spx × Int:=if eb m ≠ 0 then ([],eb m) else if aH c ≠ 0 then ([],aH c) else if c.all (ci m)=false then ([],6) else (dE (c.map (bc m)),0)
theorem Cx {H:Hp} {s:AV} {l:Spx} {e f:Int} (h:Snap H s (ar l)) (he:e=f):Snap H (.tup [s,.int .i64 e]) (.tup [ar l,.int .i64 f]):=by
 subst he; exact eT (aw h (aw (.int _ _) ae))
theorem rQ {H:Hp} {s:AV} {l:List Spx} {e f:Int} (h:Snap H s (aE l)) (he:e=f):Snap H (.tup [.agg [s],.int .i64 e]) (.tup [d9 l,.int .i64 f]):=by
 subst he; exact eT (aw (nO (aw h ae)) (aw (.int _ _) ae))
attribute [local irreducible] aW av bQ bO bl bB aU bx bT cK Go.Abs.Fn bL Go.Abs.Pure aS bg Yl
def qm (s:Spx) (k:Int):List Spx × Int:=if cm s ≠ 0 then ([],cm s) else if k < 1 ∨ (s.length:Int) < k then ([],2) else (bV s k.toNat,0)
theorem jD {H:Hp} {s:AV} {l:List Spx} {e f:Int} (h:Snap H s (aE l)) (he:e=f):Snap H (.tup [s,.int .i64 e]) (.tup [aE l,.int .i64 f]):=by
 subst he; exact eT (aw h (aw (.int _ _) ae))
theorem BR (s:Spx) (k:Nat) (H:Hp) (nx:Nat):Abs.Fn Tryz.prog 131 [ar s,.int .i64 k] H nx fun r H' nx'=>r=.func 141 [.ptr (nx + 1) 1 0,.ptr nx 1 0]∧H'=ao (ao H nx [ar s]) (nx + 1) [.int .i64 k]∧nx'=nx + 2:=by
 refine Abs.Fn.of_c2 follows Hj (ba rfl) ?_;simp only [GY,aK];have zz:=aI @aQ @aG; repeat' (first|refine zW ?_|apply a_n|refine zO ?_|refine vY ?_|refine bxY ?_|refine ak rfl ?_|refine r1Y ?_|fail)
 exact ⟨rfl,rfl,rfl⟩
theorem AL {kb sb k:Nat} {s:Spx} {H:Hp} {nx:Nat} (hs:s.length ≤ 8) (hk0:0 < k) (hk:k ≤ 1000) (gk:H kb=some [.int .i64 k]) (gs:H sb=some [ar s]) (lk:kb < nx) (ls:sb < nx) :
    Abs.Fn Tryz.prog 130 [.func 141 [.ptr kb 1 0,.ptr sb 1 0]] H nx fun r H' nx'=>Row H' 1 r ((bV s k).map ar)∧nx ≤ nx':=by
 refine Abs.Fn.of_c2 follows Hd (ba rfl) ?_;simp only [GH,aK]
 repeat' (first|refine zW ?_|apply a_n|refine zO ?_|refine vY ?_|fail)
 refine aF ev0 ev0 (wN hs hk0 hk gk gs lk ls) ?_;rintro r H1 nx1 ⟨r1,r2,r3⟩;obtain ⟨q1,q2⟩:=r1.one;have zz:=aI @q1 @q2; repeat' (first|apply a_n|refine zO ?_|refine vY ?_|refine ak rfl ?_|refine r1Y ?_|fail)
 exact ⟨r1,r2⟩
theorem Bn (s:Spx) (k:Int) (hs:Shn s):Pure Tryz.prog 106 [ar s,.int .i64 k] (.tup [aE (qm s k).1,.int .i64 (qm s k).2]):=by
 refine Pure.of_c2 follows G5 (ba rfl) ?_;simp only [G9,aK];have hc:=nJ s hs;unfold qm;by_cases he:cm s=0
 rotate_left
 ·rw [if_pos he];have z:decide (cm s ≠ 0)=true:=bk he;have zz:=@z; repeat' (first|refine zW ?_|apply a_n|apply a_r|refine zO ?_|refine vY ?_|refine cY ?_ (hp:=hc) (hs:=by (first | refine af ?_ rfl | apply ag); (repeat' (first | exact ae | apply am | apply ai | exact aA _)); first | done | fail)|refine cTY ?_|refine ak rfl ?_|refine r2Y ?_|fail)
  exact jD (.eslsl _) rfl
 rw [if_neg (fun h=>h he)];rw [he] at hc;obtain ⟨p1,p2,p3,p4⟩:=cg he;have z0:decide ((0:Int) ≠ 0)=false:=rfl;by_cases hk:k < 1 ∨ (s.length:Int) < k
 ·rw [if_pos hk];have zz:=aI @z0 @ap; repeat' (first|refine zW ?_|apply a_n|apply a_r|refine zO ?_|refine vY ?_|refine cY ?_ (hp:=hc) (hs:=by (first | refine af ?_ rfl | apply ag); (repeat' (first | exact ae | apply am | apply ai | exact aA _)); first | done | fail)|refine gTY ?_|refine gFY ?_|refine cTY ?_|refine cFY ?_|(refine zGY ?_ ?_ <;> (intro _hg; try (exfalso; omega)))|refine ak rfl ?_|refine r2Y ?_|fail)
  all_goals first | exact jD (.eslsl _) rfl | (exfalso; omega)
 rw [if_neg hk];obtain ⟨n,rfl⟩:∃ n:Nat,k=n:=⟨k.toNat,by omega⟩
 rw [bz];have zz:=aI @z0 @ap; repeat' (first|refine zW ?_|apply a_n|refine zO ?_|refine vY ?_|refine cY ?_ (hp:=hc) (hs:=by (first | refine af ?_ rfl | apply ag); (repeat' (first | exact ae | apply am | apply ai | exact aA _)); first | done | fail)|refine gTY ?_|refine cFY ?_|(refine zGY ?_ ?_ <;> (intro _hg; try (exfalso; omega)))|fail)
 refine aF ev0 ev0 (BR s n _ _) ?_;rintro _ H1 nx1 ⟨rfl,rfl,rfl⟩;refine aF ev0 ev0 (AL (kb:=0 + 1) (sb:=0) (k:=n) (s:=s) p2 (by omega) (by omega) aj (by rw [ah (by omega),aj]) (by omega) (by omega)) ?_;rintro r H2 nx2 ⟨r1,r2⟩;obtain ⟨q1,q2⟩:=r1.one;clear zz;have zz:=aI @q1 @q2; repeat' (first|apply a_n|refine zO ?_|refine vY ?_|refine ak rfl ?_|refine r2Y ?_|fail)
 exact jD (lm r1) rfl
end Go.Proofs.YtpfkjcjgdilkkaaGreat
namespace Go.Proofs.YtpfkjcjgdilkkaaGreat
open Go Go.Abs
open Nat (reduceEqDiff reduceAdd reduceLeDiff)
theorem Am {L:List Spx} {h:Nat} {x:Spx} (hh:h < L.length):(L.set h x).take (h + 1)=L.take h ++ [x]:=by
 rw [bW (by simpa using hh),List.take_set_of_le (aO h)];simp [List.getD,hh]
theorem qc {B n len k:Nat} (h:k < len) (hn:n ≠ 0):iW 1 (.msl B n 1 0 len) (some (.int .i64 k)) none none=some (.msl B n 1 k (len - k)):=by
 simp only [iW,bA,Int.natCast_nonneg,if_true,bz];rw [if_pos ⟨trivial,by omega,aO _,hn⟩,if_pos (.inr h),b0,Nat.mul_one]
theorem ye {B n len k:Nat} (h:k ≤ len) (hn:n ≠ 0):iW 1 (.msl B n 1 0 len) none (some (.int .i64 k)) none=some (.msl B n 1 0 k):=by
 simp only [iW,bA,Int.natCast_nonneg,if_true,bz];rw [if_pos ⟨trivial,by omega,h,hn⟩,if_pos (.inl trivial),ol,Nat.sub_zero]
attribute [local irreducible] aW av bQ bO bl bB aU bx bT cK Go.Abs.Fn bL Go.Abs.Pure aS bg Yl
theorem v9 (l:List Spx) (hl:Shn l) (hls:∀ s ∈ l,Shn s) (h0:l ≠ []) (H:Hp) (B nx:Nat) (hH:H B=some (l.map ar)) (hB:B < nx) :
    Abs.Fn Tryz.prog 77 [.msl B l.length 1 0 l.length,.func 20 []] H nx fun r H' nx'=>r=.msl B l.length 1 0 (bR l l.length)∧(∃ C,H'=ao H B C∧C.length=l.length∧C.take (bR l l.length)=(ec l l.length).map ar)∧nx'=nx:=by
 refine Abs.Fn.of_c2 follows FA (ba rfl) ?_;simp only [b77,aK];have hl':l.length ≤ 17592186044416:=hl;have hpos:=pQ.2 h0;have hid:H=ao H B (l.map ar):=fi hH
 repeat' (first|refine zW ?_|apply a_n|apply a_r|refine zO ?_|refine vZ ?_|(refine zGZ ?_ ?_ <;> (intro _hg; try (exfalso; omega)))|refine ak rfl ?_|refine r1Z ?_|fail)
 ·have e1:l.length=1:=by omega
  have e2:ec l l.length=l:=by
   match l,e1 with
   | [a],_=>rfl
  refine ⟨?_,⟨_,hid,by simp,?_⟩,rfl⟩
  ·rw [show bR l l.length=l.length by rw [e1]; rfl]
  ·rw [e2,show bR l l.length=l.length by rw [e1]; rfl,fq (by simp)]
 refine aZ (X:=Nat) (fun k=>[(0,.msl B l.length 1 0 l.length),(1,.func 20 []),(5,.int .i64 k)]) (fun k H' nx'=>H'=H∧nx'=nx∧1 ≤ k∧k ≤ l.length∧bR l k=k∧ec l k=l.take k) (fun k=>l.length - k) 1 ⟨rfl,rfl,aO _,hpos,rfl,by match l,h0 with | a :: r,_=>rfl⟩ ag0 ?_;rintro k H' nx' ⟨rfl,rfl,k1,k2,k3,k4⟩;by_cases hk:k < l.length
 ·have tk:(k:Int) - 1=(k - 1:Nat):=by omega
  have heq:=wv (l.getD k default) (l.getD (k - 1) default) (hls _ (a7 hk)) (hls _ (a7 (by omega)));by_cases he:l.getD k default=l.getD (k - 1) default
  ·have hs:=qc (B:=B) (n:=l.length) hk (Nat.ne_of_gt hpos);rw [bk he] at heq;have zz:=aI @tk (aI @hH (aI @bz (aI @hs (aI @aQ @aG)))); repeat' (first|refine zW ?_|refine zM ?_|apply a_n|refine zO ?_|refine vZ ?_|refine cZ ?_ (hp:=heq) (hs:=by (first | refine af ?_ rfl | apply ag); (repeat' (first | exact ae | apply am | apply ai | exact aA _)); first | done | fail)|refine cTZ ?_|(refine zGZ ?_ ?_ <;> (intro _hg; try (exfalso; omega)))|fail)
   refine aZ (X:=Nat × List Spx) (fun x=>[(0,.msl B l.length 1 0 l.length),(1,.func 20 []),(5,.int .i64 (bR l (k + x.1):Nat)),(6,.msl B l.length 1 k (l.length - k)),(7,.int .i64 x.1)]) (fun x H2 nx2=>x.2.length=l.length∧1 ≤ x.1∧k + x.1 ≤ l.length∧bR l (k + x.1) + 1 ≤ k + x.1∧H2=ao H' B (x.2.map ar)∧nx2=nx'∧(∀ p,k + x.1 ≤ p + 1→x.2.getD p default=l.getD p default)∧x.2.take (bR l (k + x.1))=ec l (k + x.1)) (fun x=>l.length - x.1) (1,l)
    ⟨rfl,aO _,hk,by dsimp only; rw [eR (by omega) he]; omega,hid,rfl,fun _ _=>rfl,by dsimp only; rw [eR (by omega) he,jO (by omega) he,k3,k4]⟩ (by simp (disch:=omega) only [agr,ZG,reduceEqDiff,↓reduceIte,eR (show k ≠ 0 by omega) he,k3]) ?_
   rintro ⟨j,L⟩ H2 nx2 ⟨a1,a2,a3,a4,rfl,rfl,a5,a6⟩;dsimp only at a1 a2 a3 a4 a5 a6 ⊢;by_cases hj:k + j < l.length
   ·have tj:(j:Int) - 1=(j - 1:Nat):=by omega
    have r1:=a5 (k + j) (by omega);have r2:=a5 (k + (j - 1)) (by omega);have heq2:=wv (l.getD (k + j) default) (l.getD (k + (j - 1)) default) (hls _ (a7 hj)) (hls _ (a7 (by omega)));by_cases hd:l.getD (k + j) default=l.getD (k + (j - 1)) default
    ·have hq:bR l (k + (j + 1))=bR l (k + j):=eR (l:=l) (k:=k + j) (by omega) (by rw [hd,show k + j - 1=k + (j - 1) by omega]);rw [bk hd] at heq2;clear zz;have zz:=aI @tj (aI @bz (aI @r1 (aI @r2 (aI @aQ @aG)))); repeat' (first|refine zW ?_|refine zM ?_|apply a_n|refine zO ?_|refine vZ ?_|refine cZ ?_ (hp:=heq2) (hs:=by (first | refine af ?_ rfl | apply ag); (repeat' (first | exact ae | apply am | apply ai | exact aA _)); first | done | fail)|refine cFZ ?_|(refine zGZ ?_ ?_ <;> (intro _hg; try (exfalso; omega)))|fail)
     refine ⟨(j + 1,L),by dsimp only; omega,⟨a1,by dsimp only; omega,by dsimp only; omega,?_,rfl,rfl,fun p hp=>a5 p (by dsimp only at hp; omega),by dsimp only; rw [hq,show k + (j + 1)=k + j + 1 from rfl,jO (by omega) (by rw [hd,show k + j - 1=k + (j - 1) by omega])]; exact a6⟩,(have zz:=@hq; agZ)⟩;dsimp only;rw [hq];omega
    ·have hq:bR l (k + (j + 1))=bR l (k + j) + 1:=jH (l:=l) (k:=k + j) (by rw [show k + j - 1=k + (j - 1) by omega]; exact hd);have hlm:=i9 (f:=ar) (l:=L) (k:=bR l (k + j)) (x:=l.getD (k + j) default) (by omega);rw [bq hd] at heq2;clear zz;have zz:=aI @tj (aI @bz (aI @r1 (aI @r2 (aI @aQ @aG)))); repeat' (first|refine zW ?_|refine zM ?_|apply a_n|refine zO ?_|refine vZ ?_|refine cZ ?_ (hp:=heq2) (hs:=by (first | refine af ?_ rfl | apply ag); (repeat' (first | exact ae | apply am | apply ai | exact aA _)); first | done | fail)|refine stZ ?_|refine cTZ ?_|(refine zGZ ?_ ?_ <;> (intro _hg; try (exfalso; omega)))|fail)
     refine ⟨(j + 1,L.set (bR l (k + j)) (l.getD (k + j) default)),by dsimp only; omega,⟨by simp [a1],by dsimp only; omega,by dsimp only; omega,?_,?_,rfl,fun p hp=>?_,by dsimp only; rw [hq,Am (by omega),a6,show k + (j + 1)=k + j + 1 from rfl,jX (by rw [show k + j - 1=k + (j - 1) by omega]; exact hd)]⟩,(have zz:=@hq; agZ)⟩
     ·dsimp only;rw [hq];omega
     ·dsimp only;rw [ay,hlm]
     ·dsimp only at hp ⊢;rw [Be,List.getElem?_set_ne (by omega),← Be];exact a5 p (by omega)
   ·have hn:k + j=l.length:=by omega
    have hl1:=qc (B:=B) (n:=l.length) (show bR l (k + j) < l.length by omega) (Nat.ne_of_gt hpos);have hl2:=ye (B:=B) (n:=l.length) (show bR l (k + j) ≤ l.length by omega) (Nat.ne_of_gt hpos);clear zz;have zz:=aI @hl1 @hl2; repeat' (first|refine zW ?_|apply a_n|apply a_x|refine zO ?_|refine vZ ?_|(refine zGZ ?_ ?_ <;> (intro _hg; try (exfalso; omega)))|fail)
    refine Ec (H':=ao (ao H' B (L.map ar)) B (bu (L.map ar) (bR l (k + j)) (be .esl (l.length - bR l (k + j))))) ?_ ?_
    ·((try simp only [dh,ZA,reduceEqDiff,↓reduceIte,reduceAdd,reduceLeDiff]); (try with_reducible rfl))
     simp only [iG];rw [if_neg (by omega),aj];dsimp only;rw [if_pos ⟨by simp [a1],trivial,rfl,rfl,by omega⟩];rfl
    ·clear zz;have zz:=@hl2; repeat' (first|refine zW ?_|apply a_n|apply a_r|refine zO ?_|refine vZ ?_|refine ak rfl ?_|refine r1Z ?_|fail)
     refine ⟨by rw [hn],⟨_,ay _ _ _ _,?_,?_⟩,rfl⟩
     ·have hz:(be AV.esl (l.length - bR l (k + j))).length=l.length - bR l (k + j):=by simp [be,show AV.esl.cells.length=1 from rfl]
      simp [bu,hz];omega
     ·rw [← hn,← a6,List.map_take];simp only [bu];rw [nq,vP (by simp; omega),fq (by simp; omega)]
  ·rw [bq he] at heq;have zz:=aI @tk (aI @hH (aI @bz (aI @aQ @aG))); repeat' (first|refine zW ?_|refine zM ?_|apply a_n|refine zO ?_|refine vZ ?_|refine cZ ?_ (hp:=heq) (hs:=by (first | refine af ?_ rfl | apply ag); (repeat' (first | exact ae | apply am | apply ai | exact aA _)); first | done | fail)|refine cFZ ?_|(refine zGZ ?_ ?_ <;> (intro _hg; try (exfalso; omega)))|fail)
   exact ⟨k + 1,by omega,⟨rfl,rfl,by omega,by omega,by rw [jH he,k3],by rw [jX he,k4,bW hk]⟩,ag0⟩
 ·repeat' (first|refine zW ?_|apply a_n|apply a_x|refine zO ?_|refine vZ ?_|(refine zGZ ?_ ?_ <;> (intro _hg; try (exfalso; omega)))|refine ak rfl ?_|refine r1Z ?_|fail)
  have e:l.length=k:=by omega
  refine ⟨by rw [e,k3],⟨_,hid,by simp,?_⟩,rfl⟩;rw [e,k3,k4,← List.map_take]
end Go.Proofs.YtpfkjcjgdilkkaaGreat
namespace Go.Proofs.YtpfkjcjgdilkkaaGreat
open Go Go.Abs
open Nat (reduceEqDiff reduceAdd reduceLeDiff)
theorem zA {H:Hp} {sz:Nat} {s:AV} {elems:List AV} (h:Row H sz s (elems.flatMap AV.cells)) (hc:∀ y ∈ elems,y.cells.length=sz) (hz:0 < sz) (hd:∀ y ∈ elems,∀ c ∈ y.cells,SnapF H c c):SnapF H s (.sl sz elems):=by
 obtain ⟨f1,f2⟩:=dS elems hc;generalize he:elems.flatMap AV.cells=cs at h;cases h with
 | nil =>
  have:elems.length * sz=0:=by rw [← f1,he]; rfl
  have:elems=[]:=fE.1 (by
   rcases Nat.mul_eq_zero.1 this with h | h
   ·exact h
   ·omega)
  subst this; exact .eslsl sz
 | box b len cs hb hl =>
  have hlen:elems.length=len:=Nat.eq_of_mul_eq_mul_right hz (by rw [← f1,he,hl]);refine .msl b (len * sz) sz 0 len cs elems hb hl (by omega) hlen hc (fun i j y a c hy hc' ha=>?_);have hj:j < sz:=by rw [← hc y (fx hy)]; exact (bD.1 hc').1
  have key:∀ (l:List AV) (i j:Nat) (y c:AV),(∀ z ∈ l,z.cells.length=sz)→l[i]?=some y→y.cells[j]?=some c→j < sz→(l.flatMap AV.cells)[i * sz + j]?=some c:=by
   intro l
   induction l with
   | nil=>intro i j y c _ h; simp at h
   | cons x l ih =>
    intro i j y c hl hy hc hj;rw [rY];cases i with
    | zero =>
     simp at hy; subst hy;rw [ol,b0,fY (by rw [hl x (by simp)]; exact hj)]; exact hc
    | succ i =>
     rw [gJ (by rw [hl x (by simp),eM]; omega),hl x (by simp)];have:=ih i j y c (fun z hz=>hl z (by simp [hz])) (by simpa using hy) hc hj;rw [← this]; congr 1; rw [eM]; omega
  have:=key elems i j y c hc hy hc' hj;rw [he,← b0 (i * sz)] at this;rw [this] at ha; cases ha;exact hd y (fx hy) a (fx hc')
theorem tV {H:Hp} {s:AV} {l:Spx} (h:Row H 2 s (cX l)):SnapF H s (ar l):=by
 refine zA (elems:=l.map bG) (by rw [yx]; exact h) (fun y hy=>?_) (by omega) (fun y hy c hx=>?_)
 ·obtain ⟨n,_,rfl⟩:=cL.1 hy; rfl
 ·obtain ⟨n,_,rfl⟩:=cL.1 hy;simp only [bG,AV.cells,e9,List.not_mem_nil,or_false] at hx;rcases hx with rfl | rfl <;> exact .int _ _
attribute [local irreducible] aW av bQ bO bl bB aU bx bT cK Go.Abs.Fn bL Go.Abs.Pure aS bg Yl
theorem tn (l:Spx) (hl:l.length ≤ 1000000):gV Tryz.prog 45 [ar l] (ar l):=by
 refine gV.of_c2 follows EF (ba rfl) ?_;simp only [b45,aK]
 repeat' (first|refine zW ?_|apply a_n|refine zO ?_|refine vY ?_|fail)
 have hn:f0 (ar l)=some l.length:=by unfold ar g9; simp [f0]
 refine xE (k:=l.length) (by ((try simp only [dh,ZA,reduceEqDiff,↓reduceIte,reduceAdd,reduceLeDiff]); (try with_reducible rfl)); exact hn) (fun h=>?_) (fun h=>?_) (fun h=>?_)
 ·repeat' (first|refine zW ?_|apply a_n|refine zO ?_|refine vY ?_|refine b0Y ?_|refine cFY ?_|fail)
  refine oC rfl ev0 ev0 vT (lq _) (by omega) (by omega) ?_
  repeat' (first|apply a_n|refine zO ?_|refine vY ?_|refine ak rfl ?_|refine r1Y ?_|fail)
  exact tV (Row.box _ l.length (cX l) aj (eH l))
 ·repeat' (first|refine zW ?_|apply a_n|apply a_r|refine zO ?_|refine vY ?_|refine cTY ?_|refine ak rfl ?_|refine r1Y ?_|fail)
  obtain rfl:=fE.1 h;exact .eslsl 2
 ·repeat' (first|refine zW ?_|apply a_n|refine zO ?_|refine vY ?_|refine b0Y ?_|refine cFY ?_|fail)
  refine oC rfl ev0 ev0 vT (lq _) (by omega) (by omega) ?_
  repeat' (first|apply a_n|refine zO ?_|refine vY ?_|refine ak rfl ?_|refine r1Y ?_|fail)
  exact tV (Row.box _ l.length (cX l) aj (eH l))
theorem z7 (s:AV) (l:List Spx) (hl:l.length ≤ 1000000) (H:Hp) (nx:Nat) (hn:f0 s=some l.length) (hs:∀ H',(∀ x,x < nx→H' x=H x)→ed 1 H' s=some (l.length,l.map ar)):Abs.Fn Tryz.prog 75 [s] H nx fun r H' nx'=>nx' ≤ nx + 1∧nx ≤ nx'∧(∀ x,x < nx→H' x=H x)∧if l=[] then dK r=some (.int .i64 0)∧∀ H'',Snap H'' r (aE []) else r=.msl nx l.length 1 0 l.length∧H'=ao H nx (l.map ar)∧nx'=nx + 1:=by
 refine Abs.Fn.of_c2 follows Gl (ba rfl) ?_;simp only [b75,aK]
 have hones:AV.ones (l.map ar)=true:=by
  unfold AV.ones;rw [dL];intro x hx;obtain ⟨y,_,rfl⟩:=cL.1 hx;rfl
 repeat' (first|refine zW ?_|apply a_n|refine zO ?_|refine vY ?_|fail)
 refine xE (k:=l.length) (by ((try simp only [dh,ZA,reduceEqDiff,↓reduceIte,reduceAdd,reduceLeDiff]); (try with_reducible rfl)); exact hn) (fun h=>?_) (fun h=>?_) (fun h=>?_)
 ·repeat' (first|refine zW ?_|apply a_n|refine zO ?_|refine vY ?_|refine b0Y ?_|refine cFY ?_|fail)
  refine oC rfl ev0 ev0 (hs _ fun x _=>rfl) hones (by omega) (by omega) ?_
  repeat' (first|apply a_n|refine zO ?_|refine vY ?_|refine ak rfl ?_|refine r1Y ?_|fail)
  refine ⟨aO _,by omega,fun x hx=>ah (by omega),?_⟩;rw [if_neg (by rintro rfl; exact absurd h (by simp))];exact ⟨rfl,rfl,rfl⟩
 ·repeat' (first|refine zW ?_|apply a_n|apply a_r|refine zO ?_|refine vY ?_|refine cTY ?_|refine ak rfl ?_|refine r1Y ?_|fail)
  refine ⟨by omega,aO _,fun x hx=>rfl,?_⟩;rw [if_pos (fE.1 h)];exact ⟨rfl,fun _=>.eslsl 1⟩
 ·repeat' (first|refine zW ?_|apply a_n|refine zO ?_|refine vY ?_|refine b0Y ?_|refine cFY ?_|fail)
  refine oC rfl ev0 ev0 (hs _ fun x _=>rfl) hones (by omega) (by omega) ?_
  repeat' (first|apply a_n|refine zO ?_|refine vY ?_|refine ak rfl ?_|refine r1Y ?_|fail)
  refine ⟨aO _,by omega,fun x hx=>ah (by omega),?_⟩;obtain rfl:=fE.1 h;rw [if_pos rfl];exact ⟨rfl,fun _=>.mslnil _ _ _ _ _⟩
section
variable {g:Nat} {caps:List AV} {s:AV}
theorem FX (hs:dK s=some (.int .i64 0)) {H:Hp} {nx:Nat}:Abs.Fn Tryz.prog 122 [s,.int .i64 0,.int .i64 0,.func g caps] H nx fun r H' nx'=>nx'=nx∧H'=H:=by
 refine Abs.Fn.of_c2 follows Cb (ba rfl) ?_;simp only [CY,aK]
 repeat' (first|refine zW ?_|apply a_n|refine zO ?_|refine vZ ?_|fail)
 refine aZ (X:=Unit) (fun x=>[(0,s),(1,.int .i64 0),(2,.int .i64 0),(3,.func g caps),(8,.int .i64 1)]) (fun x H' nx'=>H'=H∧nx'=nx) (fun x=>0) () ⟨rfl,rfl⟩ (by simp (disch:=omega) only [agr,ZG,reduceEqDiff,↓reduceIte,Int.zero_add,true_and]) ?_;rintro _ _ _ ⟨rfl,rfl⟩
 repeat' (first|refine zW ?_|apply a_n|apply a_x|refine zO ?_|refine vZ ?_|(refine zGZ ?_ ?_ <;> (intro _hg; try (exfalso; omega)))|refine ak rfl ?_|fail)
 exact ⟨rfl,rfl⟩
theorem Fo (hs:dK s=some (.int .i64 0)) {H:Hp} {nx:Nat}:Abs.Fn Tryz.prog 105 [s,.int .i64 0,.int .i64 0,.int .i64 0,.func g caps] H nx fun r H' nx'=>nx'=nx∧H'=H:=by
 refine Abs.Fn.of_c2 follows Cz (ba rfl) ?_;simp only [Dp,aK]
 repeat' (first|refine zW ?_|apply a_n|refine zO ?_|refine vZ ?_|fail)
 refine aZ (X:=Unit) (fun x=>[(0,s),(1,.int .i64 0),(2,.int .i64 0),(3,.int .i64 0),(4,.func g caps)]) (fun x H' nx'=>H'=H∧nx'=nx) (fun x=>0) () ⟨rfl,rfl⟩ ag0 ?_;rintro _ _ _ ⟨rfl,rfl⟩
 repeat' (first|refine zW ?_|apply a_n|refine zO ?_|refine vZ ?_|(refine zGZ ?_ ?_ <;> (intro _hg; try (exfalso; omega)))|fail)
 refine aF ev0 ev0 (FX hs) ?_;rintro _ _ _ ⟨rfl,rfl⟩
 repeat' (first|apply a_n|apply a_r|refine zO ?_|refine ak rfl ?_|fail)
 exact ⟨rfl,rfl⟩
theorem rk (hs:dK s=some (.int .i64 0)) {H:Hp} {nx:Nat}:Abs.Fn Tryz.prog 76 [s,.func g caps] H nx fun r H' nx'=>nx'=nx∧H'=H:=by
 refine Abs.Fn.of_c2 follows Fm (ba rfl) ?_;simp only [b76,aK];have w8:IntKind.wrap .u64 0=0:=by decide
 have zz:=aI @w8 @hs; repeat' (first|refine zW ?_|apply a_n|refine zO ?_|refine vZ ?_|fail)
 refine aF ev0 (have zz:=@w8; evZ) DQ ?_;rintro _ _ _ ⟨rfl,rfl,rfl⟩
 repeat' (first|apply a_n|refine zO ?_|refine vZ ?_|fail)
 refine aF ev0 ev0 (Fo hs) ?_;rintro _ _ _ ⟨rfl,rfl⟩
 repeat' (first|apply a_n|refine zO ?_|refine ak rfl ?_|fail)
 exact ⟨rfl,rfl⟩
theorem x9 (hs:dK s=some (.int .i64 0)) {H:Hp} {nx:Nat}:Abs.Fn Tryz.prog 77 [s,.func g caps] H nx fun r H' nx'=>r=s∧nx'=nx∧H'=H:=by
 refine Abs.Fn.of_c2 follows FA (ba rfl) ?_;simp only [b77,aK];have zz:=@hs; repeat' (first|refine zW ?_|apply a_n|apply a_r|refine zO ?_|refine vZ ?_|(refine zGZ ?_ ?_ <;> (intro _hg; try (exfalso; omega)))|refine ak rfl ?_|refine r1Z ?_|fail)
 exact ⟨rfl,rfl,rfl⟩
end
end Go.Proofs.YtpfkjcjgdilkkaaGreat
namespace Go.Proofs.YtpfkjcjgdilkkaaGreat
open Go Go.Abs
theorem zJ {D:List Spx} {k:Nat} {v:Vtx} (hk:k < D.length) (hv:v ∈ D.getD k default):kf D D.length v ≠ []:=fun e=>by
 have:k ∈ kf D D.length v:=fZ.2 ⟨ju.2 hk,bk hv⟩;rw [e] at this; cases this
theorem ur {l:List Spx} {p:Spx→Bool} {k:Nat} (hk:k < l.length):(l.take (k + 1)).filter p=(l.take k).filter p ++ if p (l.getD k default)=true then [l.getD k default] else []:=by
 rw [bW hk,xB];cases h:p (l.getD k default)
 ·rw [vX (by rw [h]; decide),List.filter_nil,if_neg (by decide)]
 ·rw [uE h,List.filter_nil,if_pos rfl]
attribute [local irreducible] aW av bQ bO bl bB aU bx bT cK Go.Abs.Fn bL Go.Abs.Pure aS bg Yl
theorem Gb:Cmp Tryz.prog ar bJ (fun s=>Shn s) 49 [] where
 cells _:=rfl
 one _:=rfl
 dat x:=aA x
 dcaps x hx:=by cases hx
 run x y hx hy:=ig x y hx hy
 ord:=jT.ord
theorem vR (l:List Spx) (hl:l.length ≤ 100000) (hs:∀ s ∈ l,cb bE s∧s.length ≤ 1000∧s ≠ []):Pure Tryz.prog 33 [aE l] (d9 (dE l)):=by
 refine Pure.of_c2 follows Ho (ba rfl) ?_;simp only [b33,aK];have hn:f0 (aE l)=some l.length:=by unfold aE g9; simp [f0]
 have zz:=@an; repeat' (first|refine zW ?_|apply a_n|refine zO ?_|refine vY ?_|refine alY ?_|fail)
 refine aF ev0 ev0 (z7 _ l (by omega) _ _ hn (fun H' _=>EG)) ?_;rintro r H1 nx1 ⟨c1,c2,c3,c4⟩;have hD:∀ s ∈ fM bJ l,cb bE s∧s.length ≤ 1000∧s ≠ []:=fun s h=>hs s (eu.1 h);have hDl:(fM bJ l).length ≤ 100000:=eX jn hl;have g0:H1 0=some [.esl]:=(c3 0 (by omega)).trans aj
 have hsort:Abs.Fn Tryz.prog 76 [r,.func 49 []] H1 nx1 fun _ H' nx'=>nx1 ≤ nx'∧H' 0=some [.esl]∧((l=[]∧dK r=some (.int .i64 0)∧∀ H'',Snap H'' r (aE [])) ∨ (l ≠ []∧r=.msl 1 l.length 1 0 l.length∧2 ≤ nx'∧∃ L':List Spx,H' 1=some (L'.map ar)∧L'.Perm l∧aY bJ 0 l.length L')):=by
  by_cases h0:l=[]
  ·rw [if_pos h0] at c4;refine Abs.Fn.mono (rk c4.1) ?_;rintro _ _ _ ⟨rfl,rfl⟩;exact ⟨aO _,g0,.inl ⟨h0,c4⟩⟩
  ·rw [if_neg h0] at c4;obtain ⟨rfl,rfl,rfl⟩:=c4;have hpos:=pQ.2 h0;refine Abs.Fn.mono (yX Gb (L:=l) (b:=0 + 1) (n:=l.length) aj (by omega) rfl hpos (fun s h=>show s.length ≤ _ by have:=(hs s h).2.1; omega) (by omega)) ?_;rintro _ H' nx' ⟨L',ps,p1,p2⟩;exact ⟨ps.le,by rw [ps.fr 0 (by omega) (by omega)]; exact g0,.inr ⟨h0,rfl,ps.le,L',ps.at_,p1,p2⟩⟩
 have hnx1:1 ≤ nx1:=c2;clear zz;clear c4
 repeat' (first|refine zW ?_|apply a_n|refine zO ?_|refine vY ?_|fail)
 refine aF ev0 ev0 hsort ?_;rintro _ H2 nx2 ⟨d1,g2,d3⟩
 have hcmp:Abs.Fn Tryz.prog 77 [r,.func 20 []] H2 nx2 fun r' H' nx'=>nx2 ≤ nx'∧∃ Hf H3,Fz Hf H' H3∧Snap Hf r' (aE (fM bJ l))∧H3 0=some [.esl]:=by
  rcases d3 with ⟨h0,e1,e2⟩ | ⟨h0,rfl,e0,L',e1,e2,e3⟩
  ·refine Abs.Fn.mono (x9 e1) ?_;rintro _ _ _ ⟨rfl,rfl,rfl⟩;refine ⟨aO _,bK,_,Fz.none,?_,g2⟩;rw [h0]; exact e2 _
  ·have hlen:=e2.length_eq;have hL0:L' ≠ []:=fun e=>by rw [e] at hlen; simp at hlen; exact h0 (fE.1 hlen.symm)
   rw [← hlen];refine Abs.Fn.mono (v9 L' (show _ ≤ _ by omega) (fun s h=>show s.length ≤ _ by have:=(hs s (e2.mem_iff.1 h)).2.1; omega) hL0 H2 1 nx2 e1 (by omega)) ?_;rintro _ _ _ ⟨rfl,⟨C,rfl,f1,f2⟩,rfl⟩;have hd:ec L' L'.length=fM bJ l:=pd jT e2 (by rw [hlen]; exact e3);rw [hd] at f2;have hle:=rl L' L'.length;have hdl:=oP L' L'.length;rw [hd] at hdl;refine ⟨aO _,only 1 C,cw (ao H2 1 C) 1,Fz.one aj,?_,by rw [dX (by omega),ah (by omega)]; exact g2⟩;refine kH (l:=(fM bJ l).map ar) nG f1 (by omega) (by rw [cr]; exact hdl) (fun y hy=>?_) (fun i a c ha hc=>?_)
   ·obtain ⟨z,_,rfl⟩:=cL.1 hy; rfl
   ·rw [← f2,fX] at hc;split at hc
    ·rw [b0,hc] at ha; cases ha
     have hm:a ∈ (fM bJ l).map ar:=by
      rw [← f2];exact fx (i:=i) (by rw [fX,if_pos (by assumption)]; exact hc)
     obtain ⟨z,_,rfl⟩:=cL.1 hm;exact aA _ _
    ·cases hc
 clear d3 hsort
 repeat' (first|refine zW ?_|apply a_n|refine zO ?_|refine vY ?_|fail)
 refine aF ev0 ev0 hcmp ?_;rintro r2 H3 nx3 ⟨f1,Hf,H4,hfz,hsn,g4⟩;have hmx:dE l=(fM bJ l).filter fun s=>!bH (fM bJ l) s:=rfl;rw [hmx];have hasc:=gz jT l;generalize fM bJ l=D at *
 repeat' (first|apply a_n|refine zO ?_|refine vY ?_|fail)
 refine ef ?_;refine nM Hf H4 [(0,aE D),(2,.ptr 0 1 0)] hfz ⟨.inr hsn,.inl rfl,trivial⟩ ?_;clear hfz hsn
 repeat' (first|apply a_n|refine zO ?_|refine vY ?_|fail)
 refine aF ev0 ev0 (pF D hDl (fun s h=>⟨(hD s h).1,by have:=(hD s h).2.1; omega⟩) _ _) ?_;rintro _ H5 nx5 ⟨ks,vs,rfl,hinc,hsame,hlt⟩;have g5:H5 0=some [.esl]:=(hsame 0 (by omega)).trans g4;have hOk:OkS D:=⟨hDl,fun s h=>⟨(hD s h).1,(hD s h).2.1⟩⟩
 have zz:=@an; repeat' (first|refine zW ?_|apply a_n|refine zO ?_|refine vY ?_|refine alY ?_|fail)
 refine aZ (X:=Nat × AV) (fun x=>[(0,aE D),(2,.ptr 0 1 0),(3,.mp nx3),(4,.ptr nx5 1 0),(15,aE D),(16,.int .i64 D.length),(17,.int .i64 x.1)]) (fun x H' nx'=>x.1 ≤ D.length∧nx5 < nx'∧(∀ y,y < nx5→H' y=H5 y)∧H' nx5=some [x.2]∧Row H' 1 x.2 (((D.take x.1).filter fun s=>!bH D s).map ar)∧∀ B,dB x.2=some B→nx5 < B∧B < nx') (fun x=>D.length - x.1) (0,.esl) ⟨cq _,by omega,fun y hy=>ah (by omega),aj,Row.nil,fun B h=>(by cases h)⟩ (by (iterate 7 refine And.intro rfl ?_); trivial) ?_;rintro ⟨k,sv⟩ H' nx' ⟨h1,hnx',hsm,gb,hrow,hbd⟩;dsimp only at h1 gb hrow hbd ⊢;by_cases hk:k < D.length
 rotate_left
 ·rw [fq (by omega)] at hrow;obtain ⟨o1,o2⟩:=hrow.one;have g6:H' 0=some [.esl]:=(hsm 0 (by omega)).trans g5;clear zz;have zz:=aI @gb (aI @g6 (aI @o1 @o2)); repeat' (first|refine zW ?_|apply a_n|apply a_x|refine zO ?_|refine vY ?_|refine stY ?_|(refine zGY ?_ ?_ <;> (intro _hg; try (exfalso; omega)))|refine ak rfl ?_|refine r1Y ?_|fail)
  exact nO (aw (lm (hrow.same fun B hB=>ah (by have:=hbd B hB; omega))) ae)
 have ix:=fC hk;have hDk:=hD _ (a7 hk);have hpos:0 < (D.getD k default).length:=pQ.2 hDk.2.2;have hcv:=sW D (D.getD k default) hOk (hOk.2 _ (a7 hk)) hpos;have iy:=ix2 (l:=D.getD k default) (k:=0) hpos;rw [show ((0:Nat):Int)=0 from rfl] at iy;have hks:(D.getD k default).getD 0 default ∈ ks:=(hinc.dom _).2 (zJ hk (a7 hpos));have hmf:=nR ((D.getD k default).getD 0 default) ks;rw [if_pos hks] at hmf;obtain ⟨m1,m2⟩:=lG hks;have hr:=hinc.row _ m1;rw [m2] at hr;have hr':=hr.same (H':=H') (fun B hB=>hsm B (hinc.bnd _ B m1 hB).2.1);have hbox:=(hsm nx3 hinc.lt).trans hinc.box;have hft:=ur (p:=fun s=>!bH D s) hk
 have hfl:(((D.take k).filter fun s=>!bH D s).map ar).length ≤ 100000:=by
  rw [cr];have:=List.length_filter_le (fun s=>!bH D s) (D.take k);rw [go] at this; omega
 generalize hsk:D.getD k default=s at *;clear zz;have zz:=aI @ix @iy; repeat' (first|refine zW ?_|apply a_n|refine zO ?_|refine vY ?_|(refine zGY ?_ ?_ <;> (intro _hg; try (exfalso; omega)))|fail)
 refine kF ev0 hbox ev0 (mW _) hmf ?_;rw [show mget .esl false (some (ks.idxOf (s.getD 0 default))) vs=vs.getD (ks.idxOf (s.getD 0 default)) .undef from rfl]
 repeat' (first|apply a_n|refine zO ?_|refine vY ?_|fail)
 cases hb:bH D s
 ·rw [hb] at hcv hft;rw [if_pos (by decide)] at hft;refine dG ev0 ev0 hcv (af (aw (bi _ _) (aw (wn hr') (aw (aA _ _) ae))) rfl) ?_
  repeat' (first|apply a_n|refine zO ?_|refine vY ?_|refine cTY ?_|fail)
  refine ot nx5 gb fun S0 hS hsub=>?_;clear zz;have zz:=@hS; repeat' (first|apply a_n|refine zO ?_|refine nvY ?_|fail)
  refine ir ?_;refine uX ev0 ev0 (tn s (by omega)) (aw (aA _ _) ae) ?_;refine px ⟨hsub _ gb,?_⟩;refine ir ?_;clear zz;have zz:=aI @aQ @aG; repeat' (first|apply a_n|refine zO ?_|refine blY ?_|fail)
  refine ⟨hsub _ (by rw [ah (by omega)]; exact gb),?_⟩;refine jY ?_;refine jb rfl ev0 (hrow.same fun B hB=>?_) ev0 fl rfl rfl mi (by omega) (by omega) ?_
  ·have:=hbd B hB; rw [ah (by omega)]
  rintro s2 H2 nx2 hr2 i1 i2 i3 i4;have gb2:H2 nx5=some [sv]:=(i3 nx5 (by omega) (fun h=>by have:=hbd _ h; omega)).trans (by rw [ah (by omega)]; exact gb);obtain ⟨o1,o2⟩:=hr2.one;clear zz;have zz:=aI @gb2 (aI @o1 @o2); repeat' (first|apply a_n|refine zO ?_|refine vY ?_|refine nvY ?_|apply jY|refine stY ?_|fail)
  refine ⟨(k + 1,s2),by dsimp only; omega,⟨by dsimp only; omega,by omega,fun y hy=>?_,by rw [aj]; rfl,?_,fun B hB=>?_⟩,ag0⟩
  ·rw [ah (by omega),i3 y (by omega) (fun h=>by have:=hbd _ h; omega),ah (by omega)]; exact hsm y hy
  ·dsimp only;rw [hft,f9];refine hr2.same fun B hB=>ah ?_;rcases i4 B hB with h | h
   ·have:=hbd B h; omega
   ·omega
  ·rcases i4 B hB with h | h
   ·have:=hbd B h; omega
   ·omega
 ·rw [hb] at hcv hft;rw [if_neg (by decide),iJ] at hft;refine dG ev0 ev0 hcv (af (aw (bi _ _) (aw (wn hr') (aw (aA _ _) ae))) rfl) ?_
  repeat' (first|apply a_n|refine zO ?_|refine vY ?_|refine cFY ?_|fail)
  exact ⟨(k + 1,sv),by dsimp only; omega,⟨by dsimp only; omega,hnx',hsm,gb,by dsimp only; rw [hft]; exact hrow,hbd⟩,ag0⟩
theorem FF {H:Hp} {s:AV} {l:List Spx} (h:Row H 1 s (l.map ar)):∃ Hf H',Fz Hf H H'∧Snap Hf s (aE l)∧∀ x,dB s ≠ some x→H' x=H x:=by
 generalize hcs:l.map ar=cs at h;cases h with
 | nil=>exact ⟨bK,H,Fz.none,lm (by rw [hcs]; exact Row.nil),fun _ _=>rfl⟩
 | box b len cs g1 g2=>exact ⟨only b cs,cw H b,Fz.one g1,lm (by rw [hcs]; exact Row.box b len cs nG g2),fun x hx=>dX (fun e=>hx (by rw [e]; rfl))⟩
theorem GD (l:List Spx) (hl:l.length ≤ 4096) (hs:∀ s ∈ l,cm s=0):Pure Tryz.prog 28 [aE l] (.tup [d9 (dE l),.int .i64 0]):=by
 refine Pure.of_c2 follows Gc (ba rfl) ?_;simp only [b28,aK]
 have hc:=vR l (by omega) (fun s h=>by
  obtain ⟨p1,p2,p3,p4⟩:=cg (hs s h);exact ⟨p3,by omega,fun e=>by rw [e] at p1; simp at p1⟩)
 have z0:decide ((0:Int) ≠ 0)=false:=rfl;have z1:decide ((4096:Int) < l.length)=false:=bq (by omega);have zz:=aI @an @z1; repeat' (first|refine zW ?_|apply a_n|refine zO ?_|refine vY ?_|refine alY ?_|refine cFY ?_|fail)
 refine aZ (X:=Nat) (fun k=>[(0,aE l),(2,.ptr 0 1 0),(11,aE l),(12,.int .i64 l.length),(13,.int .i64 k)]) (fun k H nx=>k ≤ l.length∧H 0=some [.esl]) (fun k=>l.length - k) 0 ⟨cq _,aj⟩ (by (iterate 5 refine And.intro rfl ?_); trivial) ?_;rintro k H nx ⟨h1,g0⟩;by_cases hk:k < l.length
 rotate_left
 ·clear zz;have zz:=aI @g0 (aI @aD @au); repeat' (first|refine zW ?_|apply a_n|apply a_x|refine zO ?_|refine vY ?_|refine cY ?_ (hp:=hc) (hs:=by (first | refine af ?_ rfl | apply ag); (repeat' (first | exact ae | apply am | apply ai | exact bi _)); first | done | fail)|refine stY ?_|(refine zGY ?_ ?_ <;> (intro _hg; try (exfalso; omega)))|refine ak rfl ?_|refine r2Y ?_|fail)
  exact rQ (bi _).snap rfl
 have ix:=fC hk;have hx:=nJ (l.getD k default) (by have:=(cg (hs _ (a7 hk))).2.1; show _ ≤ _; omega);rw [hs _ (a7 hk)] at hx;clear zz;have zz:=aI @ix @z0; repeat' (first|refine zW ?_|apply a_n|refine zO ?_|refine vY ?_|refine cY ?_ (hp:=hx) (hs:=by (first | refine af ?_ rfl | apply ag); (repeat' (first | exact ae | apply am | apply ai | exact aA _)); first | done | fail)|refine cFY ?_|(refine zGY ?_ ?_ <;> (intro _hg; try (exfalso; omega)))|fail)
 exact ⟨k + 1,by omega,⟨by omega,g0⟩,ag0⟩
theorem uC (m:MapV) (c:List Spx) (hm:ShM m) (hc:Shn c) (hcs:∀ s ∈ c,Shn s):Pure Tryz.prog 8 [pT m,d9 c] (.tup [d9 (im m c).1,.int .i64 (im m c).2]):=by
 refine Pure.of_c2 follows is8 (ba rfl) ?_;simp only [b8,aK];have hcc:=jw c hc hcs;unfold im;have zz:=aI @aQ (aI @aG (aI @aD @au)); repeat' (first|refine zW ?_|apply a_n|refine zO ?_|refine vY ?_|refine alY ?_|refine bxY ?_|fail)
 refine aF ev0 ev0 (uk m hm _ _) ?_;rintro _ H1 nx1 ⟨hsm,hle,h⟩;have g1:H1 1=some [aE c]:=(hsm 1 (by omega)).trans (by rw [ah (by omega),aj]);have g2:H1 2=some [.esl]:=(hsm 2 (by omega)).trans aj;rcases h with ⟨he,B,rfl,hB1,hB2,hB3⟩ | ⟨he,zv,rfl⟩
 rotate_left
 ·rw [if_pos he];have z:decide (eb m ≠ 0)=true:=bk he;clear zz;have zz:=aI @g2 @z; repeat' (first|refine zW ?_|apply a_n|apply a_r|refine zO ?_|refine vY ?_|refine stY ?_|refine cTY ?_|refine ak rfl ?_|refine r2Y ?_|fail)
  exact rQ (.eslsl _) rfl
 rw [if_neg (fun h=>h he)];obtain ⟨q1,q2,q3,q4,q5⟩:=fT he;have z0:decide ((0:Int) ≠ 0)=false:=rfl;by_cases hes:aH c=0
 rotate_left
 ·rw [if_pos hes];have z:decide (aH c ≠ 0)=true:=bk hes;clear zz;have zz:=aI @g1 (aI @g2 (aI @z0 (aI @z (aI @aD @au)))); repeat' (first|refine zW ?_|apply a_n|apply a_r|refine zO ?_|refine vY ?_|refine cY ?_ (hp:=hcc) (hs:=by (first | refine af ?_ rfl | apply ag); (repeat' (first | exact ae | apply am | apply ai | exact bm _)); first | done | fail)|refine stY ?_|refine cTY ?_|refine cFY ?_|refine ak rfl ?_|refine r2Y ?_|fail)
  exact rQ (.eslsl _) rfl
 rw [if_neg (fun h=>h hes)];rw [hes] at hcc;obtain ⟨a1,a2,a3,a4⟩:=cA hes;clear zz;have zz:=aI @g1 (aI @g2 (aI @z0 (aI @aD @au))); repeat' (first|refine zW ?_|apply a_n|refine zO ?_|refine vY ?_|refine cY ?_ (hp:=hcc) (hs:=by (first | refine af ?_ rfl | apply ag); (repeat' (first | exact ae | apply am | apply ai | exact bm _)); first | done | fail)|refine cFY ?_|fail)
 refine aF ev0 ev0 (xa m c q2 (by omega) (fun s hs=>by obtain ⟨p1,p2,p3,p4⟩:=cg (a2 s hs); exact ⟨by omega,fun e=>by rw [e] at p1; simp at p1⟩) B H1 nx1 hB3 hB2) ?_;rintro _ H3 nx3 ⟨hle3,hsm3,h⟩;have g3:H3 2=some [.esl]:=(hsm3 2 (by omega)).trans g2;rcases h with ⟨ht,rfl⟩ | ⟨ht,sv,rfl,hrow,hbd⟩
 ·rw [if_pos ht];clear zz;have zz:=@g3; repeat' (first|refine zW ?_|apply a_n|apply a_r|refine zO ?_|refine vY ?_|refine stY ?_|refine cTY ?_|refine ak rfl ?_|refine r2Y ?_|fail)
  exact rQ (.eslsl _) rfl
 rw [if_neg (by rw [ht]; decide)];have htl:∀ s ∈ c,ci m s=true:=dL.1 ht
 have hof:=GD (c.map (bc m)) (by rw [cr]; exact a1) (fun t ht=>by
  obtain ⟨s,s1,rfl⟩:=cL.1 ht;exact sM he (a2 s s1) (htl s s1))
 obtain ⟨Hf,H4,hfz,hsn,hoth⟩:=FF hrow;have g4:H4 2=some [.esl]:=(hoth 2 (fun e=>by have:=hbd 2 e; omega)).trans g3
 repeat' (first|apply a_n|refine zO ?_|refine vY ?_|fail)
 refine ef (ef ?_);refine nM Hf H4 [(4,.ptr 2 1 0),(9,aE (c.map (bc m))),(10,.bool true)] hfz ⟨.inl rfl,.inr hsn,.inl rfl,trivial⟩ ?_;clear zz;have zz:=aI @g4 (aI @aD @au); repeat' (first|refine zW ?_|apply a_n|refine zO ?_|refine vY ?_|refine cY ?_ (hp:=hof) (hs:=by (first | refine af ?_ rfl | apply ag); (repeat' (first | exact ae | apply am | apply ai | exact bi _)); first | done | fail)|refine stY ?_|refine cFY ?_|refine ak rfl ?_|refine r2Y ?_|fail)
 exact rQ (bi _).snap rfl
def io (a b:MapV):MapV × Int:=if eb a ≠ 0 then (⟨[],[]⟩,eb a) else if eb b ≠ 0 then (⟨[],[]⟩,eb b) else if ci b a.to=false then (⟨[],[]⟩,6) else (⟨a.fr,a.to.map (dI b)⟩,0)
theorem sc {H:Hp} {s r:AV} {l n:Spx} {e f:Int} (h:Snap H s (ar l)) (h2:Snap H r (ar n)) (he:e=f):Snap H (.tup [.agg [s,r],.int .i64 e]) (.tup [pT ⟨l,n⟩,.int .i64 f]):=by
 subst he; exact eT (aw (nO (aw h (aw h2 ae))) (aw (.int _ _) ae))
theorem AF (a b:MapV) (ha:ShM a) (hb:ShM b):Pure Tryz.prog 13 [pT a,pT b] (.tup [pT (io a b).1,.int .i64 (io a b).2]):=by
 refine Pure.of_c2 follows HY (ba rfl) ?_;simp only [b13,aK];have hca:=wy a ha;unfold io;by_cases hea:eb a=0
 rotate_left
 ·rw [if_pos hea];have z:decide (eb a ≠ 0)=true:=bk hea;have zz:=aI @aQ (aI @aG @z); repeat' (first|refine zW ?_|apply a_n|apply a_r|refine zO ?_|refine vY ?_|refine cY ?_ (hp:=hca) (hs:=by (first | refine af ?_ rfl | apply ag); (repeat' (first | exact ae | apply am | apply ai | exact er _)); first | done | fail)|refine alY ?_|refine bxY ?_|refine stY ?_|refine cTY ?_|refine ak rfl ?_|refine r2Y ?_|fail)
  exact sc (.eslsl _) (.eslsl _) rfl
 rw [if_neg (fun h=>h hea)];rw [hea] at hca;have z0:decide ((0:Int) ≠ 0)=false:=rfl;obtain ⟨p1,p2,p3,p4,p5⟩:=fT hea;have zz:=aI @aQ (aI @aG @z0); repeat' (first|refine zW ?_|apply a_n|refine zO ?_|refine vY ?_|refine cY ?_ (hp:=hca) (hs:=by (first | refine af ?_ rfl | apply ag); (repeat' (first | exact ae | apply am | apply ai | exact er _)); first | done | fail)|refine alY ?_|refine bxY ?_|refine cFY ?_|fail)
 refine aF ev0 ev0 (uk b hb _ _) ?_;rintro _ H1 nx1 ⟨hsm,hle,h⟩;have g0:H1 0=some [ar a.fr,ar a.to]:=(hsm 0 (by omega)).trans (by rw [ah (by omega),ah (by omega),aj]);have g2:H1 2=some [.esl,.esl]:=(hsm 2 (by omega)).trans aj;rcases h with ⟨he,B,rfl,hB1,hB2,hB3⟩ | ⟨he,zv,rfl⟩
 rotate_left
 ·rw [if_pos he];have z:decide (eb b ≠ 0)=true:=bk he;clear zz;have zz:=aI @g2 @z; repeat' (first|refine zW ?_|apply a_n|apply a_r|refine zO ?_|refine vY ?_|refine stY ?_|refine cTY ?_|refine ak rfl ?_|refine r2Y ?_|fail)
  exact sc (.eslsl _) (.eslsl _) rfl
 rw [if_neg (fun h=>h he)];obtain ⟨q1,q2,q3,q4,q5⟩:=fT he;clear zz;have zz:=aI @g0 (aI @g2 @z0); repeat' (first|refine zW ?_|apply a_n|refine zO ?_|refine vY ?_|refine cFY ?_|fail)
 refine uX ev0 ev0 (tn a.fr (by omega)) (aw (aA _ _) ae) ?_;clear zz;have zz:=aI @g0 (aI @aQ (aI @aG @ap)); repeat' (first|refine zW ?_|apply a_n|refine zO ?_|refine vY ?_|refine alY ?_|refine stY ?_|fail)
 refine aZ (X:=Nat × AV) (fun x=>[(4,.ptr 2 2 0),(7,.mp B),(9,.ptr nx1 2 0),(34,ar a.to),(35,.int .i64 a.to.length),(36,.int .i64 x.1)]) (fun x H' nx'=>x.1 ≤ a.to.length∧nx1 < nx'∧(∀ y,y < nx1→H' y=H1 y)∧H' nx1=some [ar a.fr,x.2]∧Row H' 2 x.2 (cX ((a.to.take x.1).map (dI b)))∧(∀ C,dB x.2=some C→nx1 < C∧C < nx')∧∀ i,i < x.1→decide (a.to.getD i default ∈ b.fr)=true) (fun x=>a.to.length - x.1) (0,.esl) ⟨cq _,by omega,fun y hy=>by (repeat rw [ah (by omega)]),by rw [aj]; rfl,Row.nil,fun C h=>(by cases h),fun i h=>absurd h (by omega)⟩ (by (iterate 6 refine And.intro rfl ?_); trivial) ?_;rintro ⟨k,sv⟩ H' nx' ⟨h1,h2,h3,h4,hrow,hbd,hz⟩;dsimp only at h1 h4 hrow hbd hz ⊢;by_cases hk:k < a.to.length
 rotate_left
 ·rw [fq (by omega)] at hrow;have ht:ci b a.to=true:=jm fun i hi=>hz i (by omega);rw [if_neg (by rw [ht]; exact fun h=>by cases h)];obtain ⟨o1,o2⟩:=hrow.one;have g6:H' 2=some [.esl,.esl]:=(h3 2 (by omega)).trans g2;clear zz;have zz:=aI @h4 (aI @g6 (aI @o1 (aI @o2 (aI @aQ @aG)))); repeat' (first|refine zW ?_|apply a_n|apply a_x|refine zO ?_|refine vY ?_|refine stY ?_|(refine zGY ?_ ?_ <;> (intro _hg; try (exfalso; omega)))|refine ak rfl ?_|refine r2Y ?_|fail)
  exact sc (aA _).snap (sf (hrow.same fun C hC=>ah (by have:=hbd C hC; omega))) rfl
 have ix:=ix2 hk;have hb1:H' B=some [.omap (b.fr.map bG) (b.to.map bG)]:=(h3 B hB2).trans hB3;have hmf:=nR (a.to.getD k default) b.fr;have hcl:(cX ((a.to.take k).map (dI b))).length=k * 2:=by rw [eH,cr,go]; omega
 have e1:(a.to.take (k + 1)).map (dI b)=(a.to.take k).map (dI b) ++ [dI b (a.to.getD k default)]:=by rw [bW hk,f9]; rfl
 by_cases hv:a.to.getD k default ∈ b.fr
 rotate_left
 ·have ht:ci b a.to=false:=ib hk (bq hv);rw [if_pos ht];rw [if_neg hv] at hmf;have g6:H' 2=some [.esl,.esl]:=(h3 2 (by omega)).trans g2;generalize a.to.getD k default=v at *;clear zz;have zz:=@ix; repeat' (first|refine zW ?_|apply a_n|refine zO ?_|refine vY ?_|refine alY ?_|refine stY ?_|(refine zGY ?_ ?_ <;> (intro _hg; try (exfalso; omega)))|fail)
  refine kF ev0 (by (repeat rw [ah (by omega)]); exact hb1) ev0 (mW v) hmf ?_;rw [show mget (.agg [.int .i64 0,.int .i64 0]) true none (b.to.map bG)=.tup [.agg [.int .i64 0,.int .i64 0],.bool false] from rfl];clear zz;have zz:=@g6; repeat' (first|refine zW ?_|apply a_n|apply a_r|refine zO ?_|refine vY ?_|refine alY ?_|refine stY ?_|refine cTY ?_|refine ak rfl ?_|refine r2Y ?_|fail)
  exact sc (.eslsl _) (.eslsl _) rfl
 rw [if_pos hv] at hmf;have hmg:=vD q2 hv
 have hzz:∀ i,i < k + 1→decide (a.to.getD i default ∈ b.fr)=true:=fun i hi=>by
  rcases gI.1 hi with h' | rfl
  ·exact hz i h'
  ·exact bk hv
 generalize a.to.getD k default=v at *;generalize dI b v=w at *;clear zz;have zz:=@ix; repeat' (first|refine zW ?_|apply a_n|refine zO ?_|refine vY ?_|refine alY ?_|refine stY ?_|(refine zGY ?_ ?_ <;> (intro _hg; try (exfalso; omega)))|fail)
 refine kF ev0 (by (repeat rw [ah (by omega)]); exact hb1) ev0 (mW v) hmf ?_;rw [show mget (.agg [.int .i64 0,.int .i64 0]) true (some (b.fr.idxOf v)) (b.to.map bG)=.tup [(b.to.map bG).getD (b.fr.idxOf v) .undef,.bool true] from rfl,hmg];clear zz;have zz:=@h4; repeat' (first|refine zW ?_|apply a_n|refine zO ?_|refine vY ?_|refine alY ?_|refine stY ?_|refine blY ?_|refine cFY ?_|fail)
 refine jb rfl ev0 (hrow.same fun C hC=>?_) ev0 jt rfl rfl (by omega) (by omega) (by omega) ?_
 ·have:=hbd C hC; (repeat rw [ah (by omega)])
 rintro s2 H2 nx2 hr2 i1 i2 i3 i4;have h4':H2 nx1=some [ar a.fr,sv]:=(i3 nx1 (by omega) (fun h=>by have:=hbd _ h; omega)).trans (by (repeat rw [ah (by omega)]); exact h4);obtain ⟨o1,o2⟩:=hr2.one;clear zz;have zz:=aI @h4' (aI @o1 @o2); repeat' (first|apply a_n|refine zO ?_|refine vY ?_|refine stY ?_|fail)
 refine ⟨(k + 1,s2),by dsimp only; omega,⟨by dsimp only; omega,by omega,fun y hy=>?_,by rw [aj]; rfl,?_,fun C hC=>?_,hzz⟩,ag0⟩
 ·rw [ah (by omega),i3 y (by omega) (fun h=>by have:=hbd _ h; omega)]; (repeat rw [ah (by omega)]); exact h3 y hy
 ·dsimp only;rw [e1,f8];refine hr2.same fun C hC=>ah ?_;rcases i4 C hC with h | h
  ·have:=hbd C h; omega
  ·omega
 ·rcases i4 C hC with h | h
  ·have:=hbd C h; omega
  ·omega
theorem mc {L:List Spx} (hL:∀ s ∈ L,s.length ≤ 8):∀ (n:Nat) (s:Spx),s ∈ L→8 ≤ s.length + n→∃ t ∈ dE L,∀ v ∈ s,v ∈ t
 | n,s,hs,hn=>by
  cases h:bH L s
  ·exact ⟨s,lg.2 ⟨hs,h⟩,fun v hv=>hv⟩
  ·obtain ⟨t,t1,t2,t3⟩:=ca.1 h
   match n with
   | 0=>have:=hL t t1; omega
   | n + 1 =>
    obtain ⟨u,u1,u2⟩:=mc hL n t t1 (by omega);exact ⟨u,u1,fun v hv=>u2 v (t3 v hv)⟩
theorem yP {m:MapV} {a b:Spx} (h:∀ v ∈ a,v ∈ b):∀ w ∈ bc m a,w ∈ bc m b:=fun w hw=>by
 obtain ⟨v,v1,v2⟩:=cP.1 hw;exact cP.2 ⟨v,h v v1,v2⟩
theorem oA {m:MapV} {c:List Spx} (hc:aH c=0) {x y:Spx} (hx:x ∈ c) (hy:∀ v ∈ y,v ∈ x):((dE (c.map (bc m))).any fun t=>cT (bc m y) t)=true:=by
 obtain ⟨p1,p2,p3,p4⟩:=cA hc
 have h8:∀ s ∈ c.map (bc m),s.length ≤ 8:=fun s hs=>by
  obtain ⟨t,t1,rfl⟩:=cL.1 hs;exact eX gX (cg (p2 t t1)).2.1
 obtain ⟨t,t1,t2⟩:=mc h8 8 (bc m x) (cL.2 ⟨x,hx,rfl⟩) (by omega);exact kY.2 ⟨t,t1,dR.2 fun w hw=>t2 w (yP hy w hw)⟩
theorem xY {l:Spx} {k:Nat} (h:k ≤ l.length):iW 2 (ar l) (some (.int .i64 k)) none none=some (ar (l.drop k)):=jB h
def dp (c:List Spx) (k:Nat):List Spx:=fM bJ (c.flatMap fun s=>bV s k)
theorem Ak {c:List Spx} {k i:Nat} (hi:i < c.length):(c.take (i + 1)).flatMap (fun s=>bV s k)=(c.take i).flatMap (fun s=>bV s k) ++ bV (c.getD i default) k:=by
 rw [bW hi,List.flatMap_append]; simp
theorem mM {k:Nat}:∀ {c:List Spx},(∀ s ∈ c,s.length ≤ 8)→(c.flatMap fun s=>bV s k).length ≤ 70 * c.length
 | [],_=>by simp
 | s :: c,h=>by
  rw [rY,dl,cS];have:=yO (l:=s) (k:=k) (h s ko);have:=mM (k:=k) (c:=c) (fun t ht=>h t (rO _ ht));omega
theorem m8 {c:List Spx} {k:Nat} {s:Spx}:s ∈ c.flatMap (fun s=>bV s k) ↔ ∃ t ∈ c,s ∈ bV t k:=by rw [List.mem_flatMap]
def gc (c:List Spx) (k:Int):List Spx × Int:=if aH c ≠ 0 then ([],aH c) else if k < 1 ∨ 8 < k then ([],2) else (dp c k.toNat,0)
end Go.Proofs.YtpfkjcjgdilkkaaGreat
namespace Go.Proofs.YtpfkjcjgdilkkaaGreat
open Go Go.Abs
open Nat (reduceEqDiff reduceAdd reduceLeDiff)
def gB:Nat→Spx→List Int
 | 0,_=>[]
 | n + 1,[]=>(-1) :: 0 :: gB n []
 | n + 1,v :: l=>v.color :: v.label :: gB n l
theorem nF:∀ {n:Nat} {s:Spx},(gB n s).length=2 * n
 | 0,_=>rfl
 | n + 1,[]=>by show (gB n []).length + 1 + 1=_; rw [nF]; omega
 | n + 1,v :: l=>by show (gB n l).length + 1 + 1=_; rw [nF]; omega
theorem vb:∀ {n:Nat} {s t:Spx},s.length ≤ n→t.length ≤ n→(∀ v ∈ s,0 ≤ v.color)→(∀ v ∈ t,0 ≤ v.color)→gB n s=gB n t→s=t
 | 0,[],[],_,_,_,_,_=>rfl
 | 0,_ :: _,_,h,_,_,_,_=>absurd h (by simp)
 | 0,[],_ :: _,_,h,_,_,_=>absurd h (by simp)
 | n + 1,[],[],_,_,_,_,_=>rfl
 | n + 1,[],w :: m,_,_,_,h2,e=>by
  have:(-1:Int)=w.color:=(List.cons.inj e).1;have:=h2 w ko;omega
 | n + 1,v :: l,[],_,_,h1,_,e=>by
  have:v.color=(-1:Int):=(List.cons.inj e).1;have:=h1 v ko;omega
 | n + 1,v :: l,w :: m,hl,hm,h1,h2,e=>by
  obtain ⟨e1,e2⟩:=List.cons.inj e;obtain ⟨e2,e3⟩:=List.cons.inj e2;have:=vb (n:=n) (by simp at hl; omega) (by simp at hm; omega) (fun x hx=>h1 x (rO _ hx)) (fun x hx=>h2 x (rO _ hx)) e3;rw [this,pV.2 ⟨e1,e2⟩]
def CK (x:List Int):AV:=.agg (x.map (AV.int .i64))
theorem Ba (x:List Int):Dat (CK x):=Dat.agg (by
 induction x with
 | nil=>exact DatL.nil
 | cons a l ih=>exact DatL.cons .int ih)
theorem yI:∀ {n:Nat} {s:Spx},s.length ≤ n→cX s ++ ((gB n []).map (AV.int .i64)).drop (s.length * 2)=(gB n s).map (AV.int .i64)
 | n,[],_=>by simp [cX]
 | 0,_ :: _,h=>absurd h (by simp)
 | n + 1,v :: l,h=>by
  have:=yI (n:=n) (s:=l) (by simp at h; omega);show [AV.int .i64 v.color,AV.int .i64 v.label] ++ cX l ++ _=AV.int .i64 v.color :: AV.int .i64 v.label :: (gB n l).map (AV.int .i64);rw [← this,cS,show (l.length + 1) * 2=l.length * 2 + 1 + 1 by omega];rfl
def kc (k:Nat):List AV:=(gB k [] ++ List.replicate (2 * (8 - k)) 0).map (AV.int .i64)
attribute [local irreducible] aW av bQ bO bl bB aU bx bT cK Go.Abs.Fn bL Go.Abs.Pure aS bg Yl
theorem Dq (s:Spx) (h1:1 ≤ s.length) (hs:s.length ≤ 8):Pure Tryz.prog 107 [ar s] (CK (gB 8 s)):=by
 refine Pure.of_c2 follows GP (ba rfl) ?_;simp only [GW,aK];have hn:f0 (ar s)=some s.length:=by unfold ar g9; simp [f0]
 have hput:=yI (n:=8) (s:=s) hs
 repeat' (first|refine zW ?_|apply a_n|refine zO ?_|refine vY ?_|refine alY ?_|fail)
 refine aZ (X:=Nat) (fun k=>[(0,ar s),(2,.ptr 0 16 0),(3,.ptr 1 16 0),(5,.int .i64 k)]) (fun k H nx=>k ≤ 8∧H 0=some (kc 0)∧H 1=some (kc k)) (fun k=>8 - k) 0 ⟨cq _,by rw [ah (by omega),aj]; rfl,aj⟩ (by (iterate 4 refine And.intro rfl ?_); trivial) ?_;rintro k H nx ⟨hk,g0,g1⟩;rcases (by omega:k=8 ∨ k=0 ∨ k=1 ∨ k=2 ∨ k=3 ∨ k=4 ∨ k=5 ∨ k=6 ∨ k=7) with rfl | rfl | rfl | rfl | rfl | rfl | rfl | rfl | rfl
 ·have zz:=aI @g0 @g1; repeat' (first|refine zW ?_|apply a_n|apply a_x|refine zO ?_|refine vY ?_|(refine zGY ?_ ?_ <;> (intro _hg; try (exfalso; omega)))|fail)
  refine Hm rfl g1 rfl rfl ?_
  repeat' (first|apply a_n|refine zO ?_|refine vY ?_|fail)
  refine GX (n:=s.length) (H':=ao H 1 ((gB 8 s).map (AV.int .i64))) ?_ ?_
  ·((try simp only [dh,ZA,reduceEqDiff,↓reduceIte,reduceAdd,reduceLeDiff]); (try with_reducible rfl))
   have htr:yT s.length (ar s)=ar s:=by unfold ar g9; simp [yT]; exact fq (by simp)
   have hmin:min s.length 8=s.length:=Nat.min_eq_left hs;have hal:f0 (.msl 1 16 2 0 8)=some 8:=rfl;simp only [lV,hal,hn,hmin,if_neg (show ¬ s.length=0 by omega),g1,htr,vT];rw [if_pos (by refine ⟨?_,?_,?_,?_⟩ <;> first | rfl | trivial | omega | exact lq s)]
   have:bu (kc 8) 0 (cX s)=(gB 8 s).map (AV.int .i64):=by
    rw [← hput];simp only [bu,List.take_zero,List.nil_append,b0,eH];rfl
   rw [this]
  ·have hl:((gB 8 s).map (AV.int .i64)).length=16:=by rw [cr,nF]
   have g1':ao H 1 ((gB 8 s).map (AV.int .i64)) 1=some ((gB 8 s).map (AV.int .i64)):=aj;have g0':ao H 1 ((gB 8 s).map (AV.int .i64)) 0=some (kc 0):=by rw [ah (by omega)]; exact g0
   have hl0:(kc 0).length=16:=rfl;unfold CK;have ht:((gB 8 s).map (AV.int .i64)).take 16=(gB 8 s).map (AV.int .i64):=fq (by omega);have hd:=Ba (gB 8 s);unfold CK at hd
   have hfl:AV.ones ((gB 8 s).map (AV.int .i64))=true:=by
    unfold AV.ones;rw [dL];intro x hx;obtain ⟨y,_,rfl⟩:=cL.1 hx;rfl
   have hlp:bu (kc 0) 0 ((gB 8 s).map (AV.int .i64))=(gB 8 s).map (AV.int .i64):=by
    simp only [bu,List.take_zero,List.nil_append,b0,hl];rw [List.drop_of_length_le (by decide),iJ]
   generalize (gB 8 s).map (AV.int .i64)=K at *;clear zz;have zz:=aI @g0' (aI @g1' (aI @hl (aI @hl0 @ht))); repeat' (first|refine zW ?_|apply a_n|refine zO ?_|refine vY ?_|fail)
   refine Fw (v:=.agg K) (cs:=kc 0) (vs:=K) (b:=0) (n:=16) (off:=0) rfl ev0 ev0 g0' rfl hfl hl0 hl (by omega) ?_;rw [hlp];clear zz;have zz:=aI @hl @ht; repeat' (first|apply a_n|refine zO ?_|refine ak rfl ?_|refine r1Y ?_|fail)
   exact hd _
 ·have zz:=aI @g0 @g1; repeat' (first|refine zW ?_|apply a_n|refine zO ?_|refine vY ?_|(refine zGY ?_ ?_ <;> (intro _hg; try (exfalso; omega)))|fail)
  refine lZ (r:=.ptr 1 16 0) rfl rfl rfl ?_;have hl:(kc 0).length=16:=rfl;clear zz;have zz:=aI @g1 @hl; repeat' (first|apply a_n|refine zO ?_|refine vY ?_|refine stY ?_|fail)
  exact ⟨1,by omega,⟨by omega,by rw [ah (by omega)]; exact g0,by rw [aj]; rfl⟩,by (iterate 4 refine And.intro rfl ?_); trivial⟩
 ·have zz:=aI @g0 @g1; repeat' (first|refine zW ?_|apply a_n|refine zO ?_|refine vY ?_|(refine zGY ?_ ?_ <;> (intro _hg; try (exfalso; omega)))|fail)
  refine lZ (r:=.ptr 1 16 2) rfl rfl rfl ?_;have hl:(kc 1).length=16:=rfl;clear zz;have zz:=aI @g1 @hl; repeat' (first|apply a_n|refine zO ?_|refine vY ?_|refine stY ?_|fail)
  exact ⟨2,by omega,⟨by omega,by rw [ah (by omega)]; exact g0,by rw [aj]; rfl⟩,by (iterate 4 refine And.intro rfl ?_); trivial⟩
 ·have zz:=aI @g0 @g1; repeat' (first|refine zW ?_|apply a_n|refine zO ?_|refine vY ?_|(refine zGY ?_ ?_ <;> (intro _hg; try (exfalso; omega)))|fail)
  refine lZ (r:=.ptr 1 16 4) rfl rfl rfl ?_;have hl:(kc 2).length=16:=rfl;clear zz;have zz:=aI @g1 @hl; repeat' (first|apply a_n|refine zO ?_|refine vY ?_|refine stY ?_|fail)
  exact ⟨3,by omega,⟨by omega,by rw [ah (by omega)]; exact g0,by rw [aj]; rfl⟩,by (iterate 4 refine And.intro rfl ?_); trivial⟩
 ·have zz:=aI @g0 @g1; repeat' (first|refine zW ?_|apply a_n|refine zO ?_|refine vY ?_|(refine zGY ?_ ?_ <;> (intro _hg; try (exfalso; omega)))|fail)
  refine lZ (r:=.ptr 1 16 6) rfl rfl rfl ?_;have hl:(kc 3).length=16:=rfl;clear zz;have zz:=aI @g1 @hl; repeat' (first|apply a_n|refine zO ?_|refine vY ?_|refine stY ?_|fail)
  exact ⟨4,by omega,⟨by omega,by rw [ah (by omega)]; exact g0,by rw [aj]; rfl⟩,by (iterate 4 refine And.intro rfl ?_); trivial⟩
 ·have zz:=aI @g0 @g1; repeat' (first|refine zW ?_|apply a_n|refine zO ?_|refine vY ?_|(refine zGY ?_ ?_ <;> (intro _hg; try (exfalso; omega)))|fail)
  refine lZ (r:=.ptr 1 16 8) rfl rfl rfl ?_;have hl:(kc 4).length=16:=rfl;clear zz;have zz:=aI @g1 @hl; repeat' (first|apply a_n|refine zO ?_|refine vY ?_|refine stY ?_|fail)
  exact ⟨5,by omega,⟨by omega,by rw [ah (by omega)]; exact g0,by rw [aj]; rfl⟩,by (iterate 4 refine And.intro rfl ?_); trivial⟩
 ·have zz:=aI @g0 @g1; repeat' (first|refine zW ?_|apply a_n|refine zO ?_|refine vY ?_|(refine zGY ?_ ?_ <;> (intro _hg; try (exfalso; omega)))|fail)
  refine lZ (r:=.ptr 1 16 10) rfl rfl rfl ?_;have hl:(kc 5).length=16:=rfl;clear zz;have zz:=aI @g1 @hl; repeat' (first|apply a_n|refine zO ?_|refine vY ?_|refine stY ?_|fail)
  exact ⟨6,by omega,⟨by omega,by rw [ah (by omega)]; exact g0,by rw [aj]; rfl⟩,by (iterate 4 refine And.intro rfl ?_); trivial⟩
 ·have zz:=aI @g0 @g1; repeat' (first|refine zW ?_|apply a_n|refine zO ?_|refine vY ?_|(refine zGY ?_ ?_ <;> (intro _hg; try (exfalso; omega)))|fail)
  refine lZ (r:=.ptr 1 16 12) rfl rfl rfl ?_;have hl:(kc 6).length=16:=rfl;clear zz;have zz:=aI @g1 @hl; repeat' (first|apply a_n|refine zO ?_|refine vY ?_|refine stY ?_|fail)
  exact ⟨7,by omega,⟨by omega,by rw [ah (by omega)]; exact g0,by rw [aj]; rfl⟩,by (iterate 4 refine And.intro rfl ?_); trivial⟩
 ·have zz:=aI @g0 @g1; repeat' (first|refine zW ?_|apply a_n|refine zO ?_|refine vY ?_|(refine zGY ?_ ?_ <;> (intro _hg; try (exfalso; omega)))|fail)
  refine lZ (r:=.ptr 1 16 14) rfl rfl rfl ?_;have hl:(kc 7).length=16:=rfl;clear zz;have zz:=aI @g1 @hl; repeat' (first|apply a_n|refine zO ?_|refine vY ?_|refine stY ?_|fail)
  exact ⟨8,by omega,⟨by omega,by rw [ah (by omega)]; exact g0,by rw [aj]; rfl⟩,by (iterate 4 refine And.intro rfl ?_); trivial⟩
end Go.Proofs.YtpfkjcjgdilkkaaGreat
namespace Go.Proofs.YtpfkjcjgdilkkaaGreat
open Go Go.Abs
def K16:Type:={x:List Int // x.length=16}
instance:DecidableEq K16:=inferInstanceAs (DecidableEq {x:List Int // x.length=16})
def kK (s:Spx):K16:=⟨gB 8 s,by rw [nF]⟩
def eK (x:K16):AV:=CK x.1
theorem qf:∀ {n:Nat} {xs ys:List Int},xs.length=n→ys.length=n→dt (List.replicate n .int) (xs.map (AV.int .i64)) (ys.map (AV.int .i64))=some (decide (xs=ys))
 | 0,[],[],_,_=>rfl
 | 0,_ :: _,_,h,_=>absurd h (by simp)
 | 0,[],_ :: _,_,h=>absurd h (by simp)
 | n + 1,[],_,h,_=>absurd h (by simp)
 | n + 1,_ :: _,[],_,h=>absurd h (by simp)
 | n + 1,x :: xs,y :: ys,h1,h2=>by
  have ih:=qf (n:=n) (xs:=xs) (ys:=ys) (by simpa using h1) (by simpa using h2);have e:(x == y)=decide (x=y):=rfl;rw [List.replicate_succ,gv,gv];by_cases hxy:x=y
  ·subst hxy;simp only [dt,iw,if_true,e,decide_true,ih];simp
  ·simp only [dt,iw,if_true,e,bq hxy];simp [hxy]
theorem EI (a b:K16):nu (.st [.int,.int,.int,.int,.int,.int,.int,.int,.int,.int,.int,.int,.int,.int,.int,.int]) (eK a) (eK b)=some (decide (a=b)):=by
 show dt (List.replicate 16 .int) (a.1.map (AV.int .i64)) (b.1.map (AV.int .i64))=_;rw [qf a.2 b.2]
 congr 1
 exact decide_eq_decide.2 ⟨Subtype.ext,fun h=>congrArg Subtype.val h⟩
theorem F8 (v:K16) (ks:List K16):dv (.st [.int,.int,.int,.int,.int,.int,.int,.int,.int,.int,.int,.int,.int,.int,.int,.int]) (eK v) (ks.map eK)=some (if v ∈ ks then some (ks.idxOf v) else none):=ow _ eK EI v ks
theorem Ci (v:K16):i6 (.st [.int,.int,.int,.int,.int,.int,.int,.int,.int,.int,.int,.int,.int,.int,.int,.int]) (eK v)=true:=by
 show (16 == (v.1.map (AV.int .i64)).length)=true;rw [cr,v.2]; rfl
def kN (s:Spx):Prop:=1 ≤ s.length∧s.length ≤ 8∧∀ v ∈ s,0 ≤ v.color
theorem Fc {s t:Spx} (hs:kN s) (ht:kN t) (h:kK s=kK t):s=t:=vb hs.2.1 ht.2.1 hs.2.2 ht.2.2 (congrArg Subtype.val h)
theorem E6 {O:List Spx} {f:Spx} (hO:∀ s ∈ O,kN s) (hf:kN f):kK f ∈ O.map kK ↔ f ∈ O:=by
 rw [cL];exact ⟨fun ⟨s,h1,h2⟩=>by rw [← Fc (hO s h1) hf h2]; exact h1,fun h=>⟨f,h,rfl⟩⟩
theorem Df {s:Spx} (h:cm s=0):kN s:=by
 obtain ⟨p1,p2,p3,p4⟩:=cg h;refine ⟨p1,p2,fun v hv=>?_⟩;have:=p4 v hv;unfold b9 at this;simp only [eL,fN] at this;exact this.1.1
theorem B6 {s t:Spx} {k:Nat} (hs:kN s) (hk:1 ≤ k) (h:t ∈ bV s k):kN t:=by
 obtain ⟨h1,h2⟩:=bP.1 h;exact ⟨by omega,eX h1.length_le hs.2.1,fun v hv=>hs.2.2 v (h1.subset hv)⟩
theorem wP {O L P:List Spx} (hp:L.Perm O) (hs:aY bJ 0 L.length L) (hn:O.Nodup) (hm:∀ s,s ∈ O ↔ s ∈ P):L=fM bJ P:=by
 refine fh jT ?_ (gz jT P) fun s=>by rw [hp.mem_iff,hm,eu]
 unfold cb;rw [uR];intro i j hi hj hij;have h1:=hs i j (cq _) hij hj;rw [show L.getD i default=L[i] by simp [List.getD,hi],show L.getD j default=L[j] by simp [List.getD,hj]] at h1;rcases jT.tri L[i] L[j] with h | h | h
 ·exact h
 ·have:=(List.nodup_iff_pairwise_ne.1 (hp.nodup_iff.2 hn))
  exact absurd h ((uR.1 this) i j hi hj hij)
 ·exact absurd h h1
section
variable {α:Type} {K:α→α→Int}
end
def dj (s:Spx):List Spx:=if s.length < 2 then [] else bV s (s.length - 1)
theorem ym {s:Spx} (h:cb bE s):cb bJ (dj s):=by
 unfold dj; split
 ·exact cb.nil
 ·exact gC h
theorem qP {s f:Spx}:f ∈ dj s ↔ 2 ≤ s.length∧f.Sublist s∧f.length=s.length - 1:=by
 unfold dj; split
 ·exact ⟨fun h=>(by cases h),fun h=>absurd h.1 (by omega)⟩
 ·rw [bP]; exact ⟨fun h=>⟨by omega,h⟩,fun h=>h.2⟩
def fc0:Spx→List Spx
 | []=>[]
 | x :: s=>s :: (fc0 s).map (x :: ·)
theorem tE:∀ {s:Spx},bV s s.length=[s]
 | []=>rfl
 | x :: s=>by rw [cS,ik,tE,rB (by omega)]; rfl
theorem ww:∀ {s:Spx},s ≠ []→(bV s (s.length - 1)).Perm (fc0 s)
 | [],h=>absurd rfl h
 | [x],_=>by show (bV [x] 0).Perm _; rw [oF]; exact List.Perm.refl _
 | x :: y :: s,_=>by
  show (bV (x :: y :: s) (s.length + 1)).Perm _;rw [ik,show s.length + 1=(y :: s).length from rfl,tE];have ih:=ww (s:=y :: s) (by simp);show ((bV (y :: s) s.length).map (x :: ·) ++ [y :: s]).Perm ((y :: s) :: (fc0 (y :: s)).map (x :: ·));exact List.perm_append_comm.trans ((ih.map (x :: ·)).cons _)
theorem Bo {a:List Spx} (h:∀ s ∈ a,cm s=0):∀ s ∈ a,cb bE s:=fun s hs=>(cg (h s hs)).2.2.1
section
variable {α:Type} [DecidableEq α] {K:α→α→Int}
theorem zn (hK:LinK K) {a b:List α} (ha:cb K a) (hb:cb K b) (h:∀ x ∈ a,x ∈ b):a.Sublist b:=by
 have:a=b.filter fun x=>decide (x ∈ a):=by
  refine fh hK ha (List.Pairwise.sublist p9 hb) fun x=>?_;rw [fZ,fN];exact ⟨fun h'=>⟨h x h',h'⟩,And.right⟩
 rw [this];exact p9
theorem mL:∀ {L S:List α},S.Nodup→(∀ x,x ∈ S ↔ x ∈ L)→L.length ≤ S.length→L.Nodup
 | [],_,_,_,_=>List.nodup_nil
 | a :: L,S,hS,hm,hl=>by
  have ha:a ∉ L:=fun ha=>by
   have:=xR hS (l₂:=L) fun x hx=>by
    rcases e9.1 ((hm x).1 hx) with rfl | h
    ·exact ha
    ·exact h
   simp at hl; omega
  have haS:a ∈ S:=(hm a).2 ko;refine List.nodup_cons.2 ⟨ha,mL (S:=S.erase a) (hS.erase a) (fun x=>?_) ?_⟩
  ·rw [hS.mem_erase_iff,hm,e9];exact ⟨fun ⟨h1,h2⟩=>h2.resolve_left h1,fun h=>⟨fun e=>ha (e ▸ h),.inr h⟩⟩
  ·rw [BJ haS]; simp at hl; omega
theorem ri (hK:LinK K) {L:List α}:L.length ≤ (fM K L).length ↔ L.Nodup:=by
 constructor
 ·exact fun h=>mL ((gz hK L).nodup hK) (fun x=>eu) h
 ·intro h;exact xR h fun x hx=>eu.2 hx
end
section
variable {g:Vtx→Vtx}
theorem AP {l:Spx} (hn:l.Nodup) (h:∀ u ∈ l,∀ v ∈ l,g u=g v→u=v):(l.map g).Nodup:=by
 unfold List.Nodup;rw [List.pairwise_map];refine List.Pairwise.imp_of_mem (fun {a b} ha hb hab e=>hab (h a ha b hb e)) hn
theorem jC:∀ {l:Spx},(l.map g).Nodup→∀ u ∈ l,∀ v ∈ l,g u=g v→u=v
 | [],_,u,hu,_,_,_=>by cases hu
 | a :: l,h,u,hu,v,hv,e=>by
  rw [gv] at h;obtain ⟨h1,h2⟩:=List.nodup_cons.1 h;rcases e9.1 hu with h3 | h3
  ·rcases e9.1 hv with h4 | h4
   ·rw [h3,h4]
   ·exact absurd (cL.2 ⟨v,h4,by rw [← e,h3]⟩) h1
  ·rcases e9.1 hv with h4 | h4
   ·exact absurd (cL.2 ⟨u,h3,by rw [e,h4]⟩) h1
   ·exact jC h2 u h3 v h4 e
end
def fB (S:List Spx) (y:Spx):List Spx:=if y ∈ S then S.erase y else S ++ [y]
def qY (m:MapV) (S:List Spx) (x:Spx):List Spx:=if (bc m x).length < x.length then S else fB S (bc m x)
def dJ (m:MapV) (x:Spx):Bool:=decide (x.length ≤ (bc m x).length)
theorem jP {m:MapV}:∀ {L S:List Spx},L.foldl (qY m) S=((L.filter (dJ m)).map (bc m)).foldl fB S
 | [],S=>rfl
 | x :: L,S=>by
  rw [List.foldl_cons,jP];unfold qY;by_cases h:(bc m x).length < x.length
  ·rw [if_pos h,vX (by unfold dJ; simp; omega)]
  ·rw [if_neg h,uE (by unfold dJ; simp; omega),gv,List.foldl_cons]
theorem rL:∀ {Y S:List Spx},Y.Nodup→(∀ y ∈ Y,y ∉ S)→Y.foldl fB S=S ++ Y
 | [],S,_,_=>by simp
 | y :: Y,S,h,hd=>by
  obtain ⟨h1,h2⟩:=List.nodup_cons.1 h;rw [List.foldl_cons];have:fB S y=S ++ [y]:=by unfold fB; rw [if_neg (hd y ko)]
  rw [this,rL h2 fun z hz hm=>?_,nq]; rfl;rcases iH.1 hm with h' | h'
  ·exact hd z (rO _ hz) h'
  ·simp at h'; subst h'; exact h1 hz
theorem lJ {m:MapV} {x:Spx}:dJ m x=true ↔ (x.map (dI m)).Nodup:=by
 unfold dJ;rw [fN];have:=ri (K:=bE) gn (L:=x.map (dI m));rw [cr] at this;exact this
theorem xO {m:MapV} {l:Spx} (hl:cb bE l) (hk:dJ m l=true):((bV l (l.length - 1)).foldl (qY m) []).Nodup∧∀ y,y ∈ (bV l (l.length - 1)).foldl (qY m) [] ↔ y ∈ bV (bc m l) ((bc m l).length - 1):=by
 have hnd:=lJ.1 hk;have hinj:=jC hnd;have hln:=hl.nodup gn
 have hlen:(bc m l).length=l.length:=by
  have h1:=gX (m:=m) (l:=l);have h2:=o0 hk;omega
 have hkx:∀ x,x.Sublist l→dJ m x=true:=fun x hx=>lJ.2 (hnd.sublist (hx.map _))
 have hkl:∀ x,x.Sublist l→(bc m x).length=x.length:=fun x hx=>by
  have h1:=gX (m:=m) (l:=x);have h2:=o0 (hkx x hx);omega
 rw [jP,xx.2 fun x hx=>hkx x (bP.1 hx).1]
 have hY:((bV l (l.length - 1)).map (bc m)).Nodup:=by
  unfold List.Nodup;rw [List.pairwise_map];refine List.Pairwise.imp_of_mem (fun {a b} ha hb hab e=>hab ?_) ((gC hl).nodup jT);obtain ⟨a1,a2⟩:=bP.1 ha;obtain ⟨b1,b2⟩:=bP.1 hb;refine fh gn (qD hl ha) (qD hl hb) fun v=>?_;constructor
  ·intro hv;have:dI m v ∈ bc m b:=by rw [← e]; exact cP.2 ⟨v,hv,rfl⟩
   obtain ⟨w,w1,w2⟩:=cP.1 this;rw [← hinj w (b1.subset w1) v (a1.subset hv) w2]; exact w1
  ·intro hv;have:dI m v ∈ bc m a:=by rw [e]; exact cP.2 ⟨v,hv,rfl⟩
   obtain ⟨w,w1,w2⟩:=cP.1 this;rw [← hinj w (a1.subset w1) v (b1.subset hv) w2]; exact w1
 rw [rL hY (fun y _=>by simp),List.nil_append];refine ⟨hY,fun y=>?_⟩;rw [cL,bP];constructor
 ·rintro ⟨x,hx,rfl⟩;obtain ⟨x1,x2⟩:=bP.1 hx;refine ⟨zn gn eS eS fun w hw=>?_,by rw [hkl x x1,hlen]; exact x2⟩;obtain ⟨v,v1,v2⟩:=cP.1 hw;exact cP.2 ⟨v,x1.subset v1,v2⟩
 ·rintro ⟨y1,y2⟩;have hxs:(l.filter fun v=>decide (dI m v ∈ y)).Sublist l:=p9
  have hxy:bc m (l.filter fun v=>decide (dI m v ∈ y))=y:=by
   refine fh gn eS (List.Pairwise.sublist y1 eS) fun w=>?_;rw [cP];constructor
   ·rintro ⟨v,v1,rfl⟩;exact o0 (fZ.1 v1).2
   ·intro hw;obtain ⟨v,v1,rfl⟩:=cP.1 (y1.subset hw);exact ⟨v,fZ.2 ⟨v1,bk hw⟩,rfl⟩
  refine ⟨_,bP.2 ⟨hxs,?_⟩,hxy⟩;rw [← hkl _ hxs,hxy,y2,hlen]
theorem xG {m:MapV} {l:Spx} (hl:cb bE l) (h0:l ≠ []) (hk:dJ m l=false):(bV l (l.length - 1)).foldl (qY m) []=[]:=by
 have hln:=hl.nodup gn;have hpos:=pQ.2 h0
 obtain ⟨u,hu,v,hv,huv,hne⟩:∃ u,u ∈ l∧∃ v,v ∈ l∧dI m u=dI m v∧u ≠ v:=by
  refine Classical.byContradiction fun hn=>?_;have:dJ m l=true:=lJ.2 (AP hln fun u hu v hv e=>Classical.byContradiction fun hne=>hn ⟨u,hu,v,hv,e,hne⟩);rw [this] at hk; cases hk
 have hface:∀ z ∈ l,l.erase z ∈ bV l (l.length - 1):=fun z hz=>bP.2 ⟨List.erase_sublist,BJ hz⟩
 have hmiss:∀ x ∈ bV l (l.length - 1),∀ z ∈ l,z ∉ x→x=l.erase z:=fun x hx z hz hzx=>by
  obtain ⟨x1,x2⟩:=bP.1 hx;have hs:x.Sublist (l.erase z):=zn gn (qD hl hx) (List.Pairwise.sublist List.erase_sublist hl) fun w hw=>(hln.mem_erase_iff).2 ⟨fun e=>hzx (e ▸ hw),x1.subset hw⟩;exact hs.eq_of_length (by rw [BJ hz,x2])
 have himg:∀ z ∈ l,(∃ z' ∈ l,dI m z'=dI m z∧z' ≠ z)→bc m (l.erase z)=bc m l:=fun z hz ⟨z',h1,h2,h3⟩=>by
  refine fh gn eS eS fun w=>?_;rw [cP,cP];constructor
  ·rintro ⟨a,a1,a2⟩; exact ⟨a,List.mem_of_mem_erase a1,a2⟩
  ·rintro ⟨a,a1,a2⟩;by_cases e:a=z
   ·exact ⟨z',(hln.mem_erase_iff).2 ⟨h3,h1⟩,by rw [h2,← e]; exact a2⟩
   ·exact ⟨a,(hln.mem_erase_iff).2 ⟨e,a1⟩,a2⟩
 have iu:=himg u hu ⟨v,hv,huv.symm,fun e=>hne e.symm⟩;have iv:=himg v hv ⟨u,hu,huv,hne⟩
 have hxy:l.erase u ≠ l.erase v:=fun e=>by
  have:v ∈ l.erase u:=(hln.mem_erase_iff).2 ⟨fun e=>hne e.symm,hv⟩;rw [e] at this;exact ((hln.mem_erase_iff).1 this).1 rfl
 have honly:∀ x ∈ bV l (l.length - 1),dJ m x=true→x=l.erase u ∨ x=l.erase v:=fun x hx hkx=>by
  by_cases h1:u ∈ x
  ·by_cases h2:v ∈ x
   ·exact absurd (jC (lJ.1 hkx) u h1 v h2 huv) hne
   ·exact .inr (hmiss x hx v hv h2)
  ·exact .inl (hmiss x hx u hu h1)
 have hkk:dJ m (l.erase u)=dJ m (l.erase v):=by
  unfold dJ;rw [iu,iv,BJ hu,BJ hv]
 rw [jP];have hnd:((bV l (l.length - 1)).filter (dJ m)).Nodup:=List.Pairwise.sublist p9 ((gC hl).nodup jT);cases hb:dJ m (l.erase u)
 ·have:(bV l (l.length - 1)).filter (dJ m)=[]:=by
    rw [zX];intro x hx h;rcases honly x hx h with rfl | rfl
    ·rw [hb] at h; cases h
    ·rw [← hkk,hb] at h; cases h
  rw [this]; rfl
 ·have hp:((bV l (l.length - 1)).filter (dJ m)).Perm [l.erase u,l.erase v]:=by
    refine (List.perm_ext_iff_of_nodup hnd (by simp [hxy])).2 fun x=>?_;rw [fZ];constructor
    ·rintro ⟨x1,x2⟩;rcases honly x x1 x2 with rfl | rfl <;> simp
    ·intro hx;simp at hx;rcases hx with rfl | rfl
     ·exact ⟨hface u hu,hb⟩
     ·exact ⟨hface v hv,by rw [← hkk]; exact hb⟩
  have hlen:((bV l (l.length - 1)).filter (dJ m)).length=2:=hp.length_eq
  have hall:∀ x ∈ (bV l (l.length - 1)).filter (dJ m),bc m x=bc m l:=fun x hx=>by
   have:=hp.mem_iff.1 hx;simp at this;rcases this with rfl | rfl
   ·exact iu
   ·exact iv
  generalize (bV l (l.length - 1)).filter (dJ m)=F at hlen hall
  match F,hlen with
  | [a,b],_ =>
   rw [gv,gv,List.map_nil,hall a (by simp),hall b (by simp)];simp [fB]
end Go.Proofs.YtpfkjcjgdilkkaaGreat
namespace Go.Proofs.YtpfkjcjgdilkkaaGreat
open Go Go.Abs
open Nat (reduceEqDiff reduceAdd reduceLeDiff)
attribute [local irreducible] aW av bQ bO bl bB aU bx bT cK Go.Abs.Fn bL Go.Abs.Pure aS bg Yl
theorem CN (l:List Spx) (k:Nat) (hl:l.length ≤ 50) (hs:∀ s ∈ l,cm s=0) (hk:1 ≤ k∧k ≤ 8):Pure Tryz.prog 85 [aE l,.int .i64 k] (.tup [aE (dp l k),.int .i64 0]):=by
 refine Pure.of_c2 follows IH (ba rfl) ?_;simp only [b85,aK];have h8:∀ s ∈ l,s.length ≤ 8:=fun s h=>(cg (hs s h)).2.1
 have hgood:∀ s ∈ l.flatMap (fun s=>bV s k),kN s:=fun s h=>by
  obtain ⟨t,t1,t2⟩:=m8.1 h;exact B6 (Df (hs t t1)) hk.1 t2
 have hfl:=mM (k:=k) h8;have z0:decide ((0:Int) ≠ 0)=false:=rfl;have zz:=@an; repeat' (first|refine zW ?_|apply a_n|refine zO ?_|refine vY ?_|fail)
 refine Bq ?_;clear zz;have zz:=@an; repeat' (first|refine zW ?_|apply a_n|refine zO ?_|refine vY ?_|fail)
 refine aZ (X:=Nat × AV × List Spx) (fun x=>[(1,.int .i64 k),(6,.mp 0),(7,x.2.1),(15,aE l),(16,.int .i64 l.length),(17,.int .i64 x.1)]) (fun x H nx=>x.1 ≤ l.length∧1 ≤ nx∧H 0=some [.omap ((x.2.2.map kK).map eK) (x.2.2.map fun _=>.bool true)]∧Row H 1 x.2.1 (x.2.2.map ar)∧(∀ b,dB x.2.1=some b→1 ≤ b∧b < nx)∧x.2.2.Nodup∧∀ s,s ∈ x.2.2 ↔ s ∈ (l.take x.1).flatMap fun s=>bV s k) (fun x=>l.length - x.1) (0,.esl,[]) ⟨cq _,by omega,aj,Row.nil,fun b h=>(by cases h),List.nodup_nil,fun s=>by simp⟩ (by (iterate 6 refine And.intro rfl ?_); trivial) ?_;rintro ⟨i,sv,O⟩ H nx ⟨h1,hnx,g0,hrow,hbd,hnd,hmem⟩;dsimp only at h1 g0 hrow hbd hnd hmem ⊢;obtain ⟨o1,o2⟩:=hrow.one;by_cases hi:i < l.length
 rotate_left
 ·rw [fq (by omega)] at hmem
  have hOl:O.length ≤ 3500:=by
   have:=xR hnd (l₂:=l.flatMap fun s=>bV s k) (fun s h=>(hmem s).1 h);omega
  have hsort:Abs.Fn Tryz.prog 76 [sv,.func 49 []] H nx fun _ H' nx'=>Row H' 1 sv ((dp l k).map ar):=by
   generalize hcs:O.map ar=cs at hrow;cases hrow with
   | nil =>
    have hO0:O=[]:=List.map_eq_nil_iff.1 hcs;refine Abs.Fn.mono (rk rfl) ?_;rintro _ _ _ ⟨rfl,rfl⟩
    have:dp l k=[]:=by
     unfold dp;rw [qT,Cj];intro s h;have:=(hmem s).2 h;rw [hO0] at this; cases this
    rw [this]; exact Row.nil
   | box b len cs k1 k2 =>
    obtain rfl:len=O.length:=by rw [← hcs,cr] at k2; omega
    have hb:=hbd b rfl;subst hcs;by_cases h0:O.length=0
    ·have hO0:O=[]:=fE.1 h0;subst hO0;refine Abs.Fn.mono (rk rfl) ?_;rintro _ _ _ ⟨rfl,rfl⟩
     have:dp l k=[]:=by
      unfold dp;rw [qT,Cj];intro s h;have:=(hmem s).2 h;cases this
     rw [this]; exact Row.box b 0 _ k1 rfl
    ·have hg:∀ s ∈ O,Shn s:=fun s h=>show s.length ≤ _ by have:=(hgood s ((hmem s).1 h)).2.1; omega
     have hsf:=yX Gb (L:=O) (b:=b) (nx:=nx) (n:=O.length) k1 hb.2 rfl (by omega) hg (by omega);rw [Nat.mul_one];refine Abs.Fn.mono hsf ?_;rintro _ H' nx' ⟨L',ps,p1,p2⟩;have hlen:=p1.length_eq;have:=wP p1 (by rw [hlen]; exact p2) hnd hmem;unfold dp;rw [← this,← hlen];have:=Row.box (H:=H') (sz:=1) b L'.length (L'.map ar) ps.at_ (by simp)
     rwa [Nat.mul_one] at this
  repeat' (first|refine zW ?_|apply a_n|apply a_x|refine zO ?_|refine vY ?_|(refine zGY ?_ ?_ <;> (intro _hg; try (exfalso; omega)))|fail)
  refine aF ev0 ev0 hsort ?_;rintro r H' nx' hr;clear zz;have zz:=aI @o1 @o2; repeat' (first|refine zW ?_|apply a_n|refine zO ?_|refine vY ?_|refine ak rfl ?_|refine r2Y ?_|fail)
  exact jD (lm hr) rfl
 have ix:=fC hi;have hft:=Ak (k:=k) hi
 have hpm:∀ s ∈ (l.take (i + 1)).flatMap (fun s=>bV s k),s ∈ l.flatMap fun s=>bV s k:=fun s h=>by
  obtain ⟨t,t1,t2⟩:=m8.1 h;exact m8.2 ⟨t,sB t1,t2⟩
 have hsi:=hs _ (a7 hi);have h8i:=h8 _ (a7 hi);have hfx:=Bn (l.getD i default) k (show _ ≤ _ by omega)
 have hfe:(l.getD i default).length < k ∨ qm (l.getD i default) k=(bV (l.getD i default) k,0):=by
  by_cases h:(l.getD i default).length < k
  ·exact .inl h
  ·refine .inr ?_;unfold qm;rw [if_neg (fun h=>h hsi),if_neg (by omega),bz]
 have hcar:∀ s ∈ bV (l.getD i default) k,kN s:=fun s h=>hgood s (hpm s (by rw [hft]; exact so _ h));by_cases hlt:(l.getD i default).length < k
 ·have z:decide (((l.getD i default).length:Int) < k)=true:=bk (by omega);rw [rB hlt,iJ] at hft;generalize l.getD i default=s at *;clear zz;have zz:=aI @ap (aI @ix (aI @z (aI @o1 @o2))); repeat' (first|refine zW ?_|apply a_n|apply a_x|refine zO ?_|refine vY ?_|refine cTY ?_|(refine zGY ?_ ?_ <;> (intro _hg; try (exfalso; omega)))|fail)
  exact ⟨(i + 1,sv,O),by dsimp only; omega,⟨by dsimp only; omega,hnx,g0,hrow,hbd,hnd,by dsimp only; rw [hft]; exact hmem⟩,ag0⟩
 have z:decide (((l.getD i default).length:Int) < k)=false:=bq (by omega);rw [hfe.resolve_left hlt] at hfx;clear zz;clear hfe;have hgP:∀ s ∈ (l.take i).flatMap (fun s=>bV s k),kN s:=fun s h=>hgood s (hpm s (by rw [hft]; exact sC _ h))
 have hPl:((l.take i).flatMap (fun s=>bV s k) ++ bV (l.getD i default) k).length ≤ 3500:=by
  rw [← hft];have:=mM (k:=k) (c:=l.take (i + 1)) (fun s h=>h8 s (sB h));rw [go] at this; omega
 generalize l.getD i default=s at *;generalize bV s k=R at *;generalize (l.take i).flatMap (fun s=>bV s k)=P at *;have hRl:R.length ≤ 3500:=by rw [dl] at hPl; omega
 have zz:=aI @ap (aI @an (aI @ix (aI @z (aI @z0 (aI @o1 @o2))))); repeat' (first|refine zW ?_|apply a_n|refine zO ?_|refine vY ?_|refine cY ?_ (hp:=hfx) (hs:=by (first | refine af ?_ rfl | apply ag); (repeat' (first | exact ae | apply am | apply ai | exact aA _)); first | done | fail)|refine cFY ?_|(refine zGY ?_ ?_ <;> (intro _hg; try (exfalso; omega)))|fail)
 refine aZ (X:=Nat × AV × List Spx) (fun x=>[(1,.int .i64 k),(6,.mp 0),(7,x.2.1),(15,aE l),(16,.int .i64 l.length),(17,.int .i64 i),(34,aE R),(35,.int .i64 R.length),(36,.int .i64 x.1)]) (fun x H nx=>x.1 ≤ R.length∧1 ≤ nx∧H 0=some [.omap ((x.2.2.map kK).map eK) (x.2.2.map fun _=>.bool true)]∧Row H 1 x.2.1 (x.2.2.map ar)∧(∀ b,dB x.2.1=some b→1 ≤ b∧b < nx)∧x.2.2.Nodup∧∀ s,s ∈ x.2.2 ↔ s ∈ P ++ R.take x.1) (fun x=>R.length - x.1) (0,sv,O) ⟨cq _,hnx,g0,hrow,hbd,hnd,by dsimp only; rw [List.take_zero,iJ]; exact hmem⟩ ag0 ?_;clear zz;clear g0 hrow hbd hnd hmem hnx o1 o2;rintro ⟨j,sv,O⟩ H nx ⟨j1,hnx,g0,hrow,hbd,hnd,hmem⟩;dsimp only at j1 g0 hrow hbd hnd hmem ⊢;obtain ⟨o1,o2⟩:=hrow.one
 have hOl:O.length ≤ 3500:=by
  have:=xR hnd (l₂:=P ++ R.take j) (fun s h=>(hmem s).1 h);rw [dl,go] at this;rw [dl] at hPl;omega
 by_cases hj:j < R.length
 rotate_left
 ·rw [fq (by omega)] at hmem;have hls:dK sv=some (.int .i64 O.length):=hrow.lenS (by rw [cr,Nat.mul_one]) mi;have z1:decide ((4096:Int) < O.length)=false:=bq (by omega);have zz:=aI @hls (aI @z1 (aI @o1 @o2)); repeat' (first|refine zW ?_|apply a_n|apply a_x|refine zO ?_|refine vY ?_|refine cFY ?_|(refine zGY ?_ ?_ <;> (intro _hg; try (exfalso; omega)))|fail)
  exact ⟨(i + 1,sv,O),by dsimp only; omega,⟨by dsimp only; omega,hnx,g0,hrow,hbd,hnd,by dsimp only; rw [hft]; exact hmem⟩,ag0⟩
 have iy:=fC hj;have hgf:=hcar _ (a7 hj)
 have hgO:∀ s ∈ O,kN s:=fun s h=>by
  rcases iH.1 ((hmem s).1 h) with h | h
  ·exact hgP s h
  ·exact hcar s (sB h)
 have hkey:=Dq (R.getD j default) hgf.1 hgf.2.1;have hts:R.take (j + 1)=R.take j ++ [R.getD j default]:=bW hj;have hmf:=F8 (kK (R.getD j default)) (O.map kK);have hmk:=E6 hgO hgf;generalize R.getD j default=f at *;by_cases hf:f ∈ O
 ·rw [if_pos (hmk.2 hf)] at hmf;have hlt2:(O.map kK).idxOf (kK f) < (O.map kK).length:=BE.2 (hmk.2 hf)
  have hgv:mget (.bool false) false (some ((O.map kK).idxOf (kK f))) (O.map fun _=>AV.bool true)=.bool true:=by
   rw [cr] at hlt2;simp [mget,List.getD,hlt2]
  have zz:=aI @iy (aI @o1 @o2); repeat' (first|refine zW ?_|apply a_n|refine zO ?_|refine vY ?_|refine cY ?_ (hp:=hkey) (hs:=by (first | refine af ?_ rfl | apply ag); (repeat' (first | exact ae | apply am | apply ai | exact aA _)); first | done | fail)|(refine zGY ?_ ?_ <;> (intro _hg; try (exfalso; omega)))|fail)
  refine kF ev0 g0 (by ((try simp only [dh,ZA,reduceEqDiff,↓reduceIte,reduceAdd,reduceLeDiff]); (try with_reducible rfl)); rfl) (Ci (kK f)) hmf ?_;rw [hgv];clear zz;have zz:=aI @o1 @o2; repeat' (first|apply a_n|refine zO ?_|refine vY ?_|refine cFY ?_|fail)
  refine ⟨(j + 1,sv,O),by dsimp only; omega,⟨by dsimp only; omega,hnx,g0,hrow,hbd,hnd,fun s=>?_⟩,ag0⟩;dsimp only;rw [hts,← nq,iH,← hmem,fV];exact ⟨.inl,fun h=>h.elim id fun e=>by rw [e]; exact hf⟩
 ·rw [if_neg (fun h=>hf (hmk.1 h))] at hmf;have hgv:mget (.bool false) false none (O.map fun _=>AV.bool true)=.bool false:=rfl;have zz:=aI @iy (aI @o1 @o2); repeat' (first|refine zW ?_|apply a_n|refine zO ?_|refine vY ?_|refine cY ?_ (hp:=hkey) (hs:=by (first | refine af ?_ rfl | apply ag); (repeat' (first | exact ae | apply am | apply ai | exact aA _)); first | done | fail)|(refine zGY ?_ ?_ <;> (intro _hg; try (exfalso; omega)))|fail)
  refine kF ev0 g0 (by ((try simp only [dh,ZA,reduceEqDiff,↓reduceIte,reduceAdd,reduceLeDiff]); (try with_reducible rfl)); rfl) (Ci (kK f)) hmf ?_;rw [hgv];clear zz;have zz:=aI @o1 @o2; repeat' (first|refine zW ?_|apply a_n|refine zO ?_|refine vY ?_|refine cY ?_ (hp:=hkey) (hs:=by (first | refine af ?_ rfl | apply ag); (repeat' (first | exact ae | apply am | apply ai | exact aA _)); first | done | fail)|refine cTY ?_|fail)
  refine A9 ev0 g0 (by ((try simp only [dh,ZA,reduceEqDiff,↓reduceIte,reduceAdd,reduceLeDiff]); (try with_reducible rfl)); rfl) ev0 (Ci (kK f)) hmf ?_;clear zz;have zz:=aI @o1 (aI @o2 (aI @aQ @aG)); repeat' (first|apply a_n|refine zO ?_|refine vY ?_|refine blY ?_|fail)
  refine jb rfl ev0 (hrow.same fun b hb=>?_) ev0 fl rfl rfl mi (by rw [cr]; omega) (by rw [cr]; omega) ?_
  ·have:=hbd b hb;rw [ah (by omega),ah (by omega)]
  rintro s2 H2 nx2 hr2 i1 i2 i3 i4;obtain ⟨o3,o4⟩:=hr2.one;clear zz;have zz:=aI @o3 @o4; repeat' (first|apply a_n|refine zO ?_|refine vY ?_|fail)
  refine ⟨(j + 1,s2,O ++ [f]),by dsimp only; omega,⟨by dsimp only; omega,by omega,?_,?_,fun b hb=>?_,?_,fun s=>?_⟩,ag0⟩
  ·rw [i3 0 (by omega) (fun h=>by have:=hbd 0 h; omega),ah (by omega),aj];simp [cI,fU]
  ·dsimp only;rw [f9]; exact hr2
  ·rcases i4 b hb with h | h
   ·have:=hbd b h; omega
   ·omega
  ·exact yo.2 ⟨hnd,by simp,fun a ha c hc=>by simp at hc; subst hc; intro e; subst e; exact hf ha⟩
  ·dsimp only;rw [hts,← nq,iH,iH,← hmem]
end Go.Proofs.YtpfkjcjgdilkkaaGreat
namespace Go.Proofs.YtpfkjcjgdilkkaaGreat
open Go Go.Abs
theorem mt (K:Nat→Int):∀ n,(∀ i j,i < j→j < n→K j < 0→K i < 0)→∃ b,b ≤ n∧(∀ i,i < b→K i < 0)∧∀ i,b ≤ i→i < n→0 ≤ K i
 | 0,_=>⟨0,aO _,fun i h=>absurd h (by omega),fun i _ h=>absurd h (by omega)⟩
 | n + 1,hm=>by
  by_cases h:K n < 0
  ·refine ⟨n + 1,aO _,fun i hi=>?_,fun i h1 h2=>absurd h1 (by omega)⟩;by_cases e:i=n
   ·subst e; exact h
   ·exact hm i n (by omega) (by omega) h
  ·obtain ⟨b,h1,h2,h3⟩:=mt K n (fun i j hi hj=>hm i j hi (by omega));refine ⟨b,by omega,h2,fun i hi hi2=>?_⟩;by_cases e:i=n
   ·subst e; omega
   ·exact h3 i hi (by omega)
theorem Ef {tb tf:Bool} {i j:Nat}:bf .shr tb tf (.int .u64 ((i:Int) + (j:Int))) (.int .u64 1)=some (.int .u64 (((i + j) / 2:Nat):Int)):=by
 have:=t6 (k:=.u64) (a:=i + j) (b:=1) (tb:=tb) (tf:=tf) (k':=.u64) (by decide);simpa using this
attribute [local irreducible] aW av bQ bO bl bB aU bx bT cK Go.Abs.Fn bL Go.Abs.Pure aS bg Yl
theorem jM (c:List Spx) (k:Int) (hc:c.length ≤ 50) (hs:∀ s ∈ c,Shn s):Pure Tryz.prog 47 [d9 c,.int .i64 k] (.tup [aE (gc c k).1,.int .i64 (gc c k).2]):=by
 refine Pure.of_c2 follows IG (ba rfl) ?_;simp only [b47,aK];have hcc:=jw c (show _ ≤ _ by omega) hs;unfold gc;by_cases he:aH c=0
 rotate_left
 ·rw [if_pos he];have z:decide (aH c ≠ 0)=true:=bk he;have zz:=aI @aD (aI @au @z); repeat' (first|refine zW ?_|apply a_n|apply a_r|refine zO ?_|refine vY ?_|refine cY ?_ (hp:=hcc) (hs:=by (first | refine af ?_ rfl | apply ag); (repeat' (first | exact ae | apply am | apply ai | exact bm _)); first | done | fail)|refine bxY ?_|refine cTY ?_|refine ak rfl ?_|refine r2Y ?_|fail)
  exact jD (.eslsl _) rfl
 rw [if_neg (fun h=>h he)];rw [he] at hcc;have z0:decide ((0:Int) ≠ 0)=false:=rfl;obtain ⟨p1,p2,p3,p4⟩:=cA he;by_cases hk:k < 1 ∨ 8 < k
 ·rw [if_pos hk];have zz:=aI @aD (aI @au @z0); repeat' (first|refine zW ?_|apply a_n|apply a_r|refine zO ?_|refine vY ?_|refine cY ?_ (hp:=hcc) (hs:=by (first | refine af ?_ rfl | apply ag); (repeat' (first | exact ae | apply am | apply ai | exact bm _)); first | done | fail)|refine bxY ?_|refine gTY ?_|refine gFY ?_|refine cTY ?_|refine cFY ?_|(refine zGY ?_ ?_ <;> (intro _hg; try (exfalso; omega)))|refine ak rfl ?_|refine r2Y ?_|fail)
  all_goals first | exact jD (.eslsl _) rfl | (exfalso; omega)
 rw [if_neg hk];obtain ⟨n,rfl⟩:∃ n:Nat,k=n:=⟨k.toNat,by omega⟩
 rw [bz];have ha:=CN c n hc p2 ⟨by omega,by omega⟩;have zz:=aI @aD (aI @au (aI @an @z0)); repeat' (first|refine zW ?_|apply a_n|refine zO ?_|refine vY ?_|refine cY ?_ (hp:=by first | exact hcc | exact ha) (hs:=by (first | refine af ?_ rfl | apply ag); (repeat' (first | exact ae | apply am | apply ai | exact bm _ | exact bi _)); first | done | fail)|refine bxY ?_|refine gTY ?_|refine cFY ?_|(refine zGY ?_ ?_ <;> (intro _hg; try (exfalso; omega)))|refine ak rfl ?_|refine r2Y ?_|fail)
 exact jD (bi _).snap rfl
theorem qK (l:List Spx) (v:Spx) (hl:Shn l) (hs:∀ c ∈ l,Shn c) (hv:Shn v) {b:Nat} (hb:b ≤ l.length) (h1:∀ i,i < b→bJ (l.getD i default) v < 0) (h2:∀ i,b ≤ i→i < l.length→0 ≤ bJ (l.getD i default) v) :
    Pure Tryz.prog 86 [aE l,ar v,.func 49 []] (.tup [.int .i64 b,.bool (decide (b < l.length) && decide (bJ (l.getD b default) v=0))]):=by
 refine Pure.of_c2 follows HS (ba rfl) ?_;simp only [b86,aK];have hl':l.length ≤ 17592186044416:=hl;have zz:=aI @aQ (aI @aG @an); repeat' (first|refine zW ?_|apply a_n|refine zO ?_|refine vZ ?_|fail)
 refine pD (X:=Nat × Nat) (fun x=>[(0,aE l),(1,ar v),(2,.func 49 []),(8,.int .i64 l.length),(9,.int .i64 x.1),(10,.int .i64 x.2)]) (fun x=>x.1 ≤ b∧b ≤ x.2∧x.2 ≤ l.length) (fun x=>x.2 - x.1) (0,l.length) ⟨cq _,hb,aO _⟩ ag0 ?_;rintro ⟨i,j⟩ ⟨g1,g2,g3⟩;dsimp only at g1 g2 g3 ⊢;by_cases hij:i < j
 ·have hh:(i + j) / 2 < l.length:=by omega
  have hc:=ig (l.getD ((i + j) / 2) default) v (hs _ (a7 hh)) hv;have ix:=fC hh;by_cases hn:bJ (l.getD ((i + j) / 2) default) v < 0
  ·have hbb:(i + j) / 2 < b:=Nat.lt_of_not_le fun h=>by have:=h2 _ h hh; omega
   clear zz;have zz:=aI @aQ (aI @aG (aI @an (aI @fO (aI @Ef @ix)))); repeat' (first|refine zW ?_|apply a_n|refine zO ?_|refine vZ ?_|refine cZ ?_ (hp:=hc) (hs:=by (first | refine af ?_ rfl | apply ag); (repeat' (first | exact ae | apply am | apply ai | exact aA _)); first | done | fail)|(refine zGZ ?_ ?_ <;> (intro _hg; try (exfalso; omega)))|fail)
   exact ⟨((i + j) / 2 + 1,j),⟨by omega,by omega,by omega⟩,by dsimp only; omega,ag0,rfl,rfl⟩
  ·have hbb:b ≤ (i + j) / 2:=Nat.le_of_not_lt fun h=>hn (h1 _ h);clear zz;have zz:=aI @aQ (aI @aG (aI @an (aI @fO (aI @Ef @ix)))); repeat' (first|refine zW ?_|apply a_n|refine zO ?_|refine vZ ?_|refine cZ ?_ (hp:=hc) (hs:=by (first | refine af ?_ rfl | apply ag); (repeat' (first | exact ae | apply am | apply ai | exact aA _)); first | done | fail)|(refine zGZ ?_ ?_ <;> (intro _hg; try (exfalso; omega)))|fail)
   exact ⟨(i,(i + j) / 2),⟨by omega,by omega,by omega⟩,by dsimp only; omega,ag0,rfl,rfl⟩
 ·have ei:i=b:=by omega
  have ej:j=b:=by omega
  clear zz;clear hij g1 g2 g3;subst ei;by_cases hlt:i < l.length
  ·have hc:=ig (l.getD i default) v (hs _ (a7 hlt)) hv;have ix:=fC hlt;have dlt:decide ((i:Int) < (l.length:Int))=true:=bk (by omega);have dij:decide ((i:Int) < (j:Int))=false:=bq (by omega);have zz:=aI @aQ (aI @aG (aI @an (aI @ix (aI @dlt @dij)))); repeat' (first|refine zW ?_|apply a_n|apply a_x|refine zO ?_|refine vZ ?_|refine cZ ?_ (hp:=hc) (hs:=by (first | refine af ?_ rfl | apply ag); (repeat' (first | exact ae | apply am | apply ai | exact aA _)); first | done | fail)|refine gTZ ?_|refine cFZ ?_|refine ak rfl ?_|refine r2Z ?_|fail)
   refine eT (aw (.int _ _) (aw (bF ?_) ae));rw [bk hlt,Bool.true_and]
  ·have dlt:decide ((i:Int) < (l.length:Int))=false:=bq (by omega);have dij:decide ((i:Int) < (j:Int))=false:=bq (by omega);have zz:=aI @aQ (aI @aG (aI @an (aI @dlt @dij))); repeat' (first|refine zW ?_|apply a_n|apply a_x|refine zO ?_|refine vZ ?_|refine gFZ ?_|refine cFZ ?_|refine ak rfl ?_|refine r2Z ?_|fail)
   refine eT (aw (.int _ _) (aw (bF ?_) ae));rw [bq hlt,Bool.false_and]
theorem CQ (l:List Spx) (v:Spx) (hl:Shn l) (hs:∀ c ∈ l,Shn c) (hv:Shn v) (ha:cb bJ l):∃ b:Nat,Pure Tryz.prog 48 [aE l,ar v,.func 49 []] (.tup [.int .i64 b,.bool (decide (v ∈ l))])∧(v ∈ l→b < l.length∧l.getD b default=v):=by
 obtain ⟨b,hb,h1,h2⟩:=mt (fun i=>bJ (l.getD i default) v) l.length (fun i j hij hj h=>jT.trans (cE ha hij hj) h);have hc:=qK l v hl hs hv hb h1 h2
 have he:(decide (b < l.length) && decide (bJ (l.getD b default) v=0))=decide (v ∈ l)∧(v ∈ l→b < l.length∧l.getD b default=v):=by
  by_cases hm:v ∈ l
  ·obtain ⟨i,hi,e⟩:=jp hm;have e':l.getD i default=v:=by simp [List.getD,hi,e]
   have hbi:b=i:=by
    rcases rh b i with h | h | h
    ·have h3:=h2 b (aO _) (by omega);have h4:=cE ha h hi;rw [e'] at h4; omega
    ·exact h
    ·have h3:=h1 i h;rw [e',dN] at h3; omega
   subst hbi;rw [bk hi,bk hm,e',bk (dN v)];exact ⟨rfl,fun _=>⟨hi,rfl⟩⟩
  ·rw [bq hm];refine ⟨?_,fun h=>absurd h hm⟩;by_cases hlt:b < l.length
   ·rw [bk hlt,Bool.true_and,bq];intro h;exact hm (by rw [← nD h]; exact a7 hlt)
   ·rw [bq hlt,Bool.false_and]
 rw [he.1] at hc;refine ⟨b,?_,he.2⟩;refine Pure.of_c2 follows IL (ba rfl) ?_;simp only [b48,aK];have zz:=aI @aQ (aI @aG (aI @aD @au)); repeat' (first|refine zW ?_|apply a_n|refine zO ?_|refine vZ ?_|refine cZ ?_ (hp:=hc) (hs:=by (first | refine af ?_ rfl | apply ag); (repeat' (first | exact ae | apply am | apply ai | exact bi _ | exact aA _ | exact Dat.func DatL.nil)); first | done | fail)|refine ak rfl ?_|refine r2Z ?_|fail)
 exact eT (aw (.int _ _) (aw (.bool _) ae))
def eJ (m:MapV) (X Y:List Spx) (n i:Nat):List Nat:=(List.range n).filter fun k=>decide (bc m (X.getD k default)=Y.getD i default)
theorem A0 {m:MapV} {X Y:List Spx} {n i:Nat}:eJ m X Y (n + 1) i=eJ m X Y n i ++ if bc m (X.getD n default)=Y.getD i default then [n] else []:=by
 unfold eJ;rw [List.range_succ,xB];by_cases h:bc m (X.getD n default)=Y.getD i default
 ·rw [if_pos h,uE (by simpa using h),List.filter_nil]
 ·rw [if_neg h,vX (by simpa using h),List.filter_nil]
theorem wa {m:MapV} {X Y:List Spx} {n i:Nat}:(eJ m X Y n i).length ≤ n:=by
 unfold eJ;exact eX (List.length_filter_le _ _) (by simp)
def cp (l:List Nat):List Int:=l.map fun (n:Nat)=>(n:Int)
def cV (m:MapV) (X Y:List Spx):List (List Int):=(List.range Y.length).map fun i=>cp (eJ m X Y X.length i)
def i8 (c:Int) (rows:List (List Int)):AV:=.agg [.int .i64 c,co rows]
theorem dD (c:Int) (rows:List (List Int)):Dat (i8 c rows):=Dat.agg (DatL.cons .int (DatL.cons (nQ _) DatL.nil))
def ez (m:MapV) (a b:List Spx) (d:Int):(Int × List (List Int)) × Int:=if (eU m a b).2 ≠ 0 then ((0,[]),(eU m a b).2) else if (eU m a b).1=false then ((0,[]),22) else if d < 0 ∨ 8 ≤ d then ((0,[]),2) else ((((dp a (d + 1).toNat).length:Nat),cV m (dp a (d + 1).toNat) (dp b (d + 1).toNat)),0)
structure MatOk (H:Hp) (b lo hi n:Nat) (F:Nat→List Nat) (vs:List AV):Prop where
 box:H b=some vs
 len:vs.length=n
 row:∀ j,j < n→Row H 1 (vs.getD j .undef) ((F j).map xK)
 bnd:∀ j B,j < n→dB (vs.getD j .undef)=some B→lo ≤ B∧B < hi∧B ≠ b
 apart:∀ i j B,i < n→j < n→i ≠ j→dB (vs.getD i .undef)=some B→dB (vs.getD j .undef) ≠ some B
theorem MatOk.same {H H':Hp} {b lo hi hi' n:Nat} {F G:Nat→List Nat} {vs:List AV} (h:MatOk H b lo hi n F vs) (hb:H' b=H b) (hs:∀ x,lo ≤ x→x < hi→x ≠ b→H' x=H x) (hh:hi ≤ hi') (hG:∀ j,j < n→G j=F j):MatOk H' b lo hi' n G vs :=
 ⟨hb.trans h.box,h.len,fun j hj=>by rw [hG j hj]; exact (h.row j hj).same fun B hB=>by have:=h.bnd j B hj hB; exact hs B this.1 this.2.1 this.2.2,fun j B hj hB=>by have:=h.bnd j B hj hB; exact ⟨this.1,by omega,this.2.2⟩,h.apart⟩
theorem MatOk.put {H H':Hp} {b lo hi hi' n i x:Nat} {F G:Nat→List Nat} {vs:List AV} {sv:AV} (h:MatOk H b lo hi n F vs) (hin:i < n) (hG:∀ j,j < n→G j=if j=i then F j ++ [x] else F j) (hrow:Row H' 1 sv ((F i ++ [x]).map xK)) (hB:∀ B,dB sv=some B→dB (vs.getD i .undef)=some B ∨ hi ≤ B∧B < hi'∧B ≠ b) (hb:H' b=some (vs.set i sv))
    (hs:∀ x,lo ≤ x→x < hi→x ≠ b→dB (vs.getD i .undef) ≠ some x→H' x=H x) (hh:hi ≤ hi') (hlo:lo ≤ hi):MatOk H' b lo hi' n G (vs.set i sv):=by
 have hl:=h.len;have hg:∀ j,(vs.set i sv).getD j .undef=if i=j then sv else vs.getD j .undef:=fun j=>oZ (by omega)
 refine ⟨hb,by simp [hl],fun j hj=>?_,fun j B hj=>?_,fun p q B hp hq hpq=>?_⟩
 ·rw [hg,hG j hj];by_cases e:i=j
  ·rw [if_pos e,if_pos e.symm,← e]; exact hrow
  ·rw [if_neg e,if_neg (fun h=>e h.symm)]
   exact (h.row j hj).same fun B hB'=>by
    have:=h.bnd j B hj hB';exact hs B this.1 this.2.1 this.2.2 fun h'=>h.apart i j B hin hj e h' hB'
 ·rw [hg];by_cases e:i=j
  ·rw [if_pos e];intro hB';rcases hB B hB' with h' | h'
   ·have:=h.bnd _ B hin h'; exact ⟨this.1,by omega,this.2.2⟩
   ·exact ⟨by omega,h'.2⟩
  ·rw [if_neg e];intro hB';have:=h.bnd j B hj hB';exact ⟨this.1,by omega,this.2.2⟩
 ·rw [hg,hg];by_cases e1:i=p
  ·rw [if_pos e1,if_neg (by omega)];intro h1 h2;rcases hB B h1 with h' | h'
   ·exact h.apart i q B hin hq (by omega) h' h2
   ·have:=h.bnd q B hq h2; omega
  ·rw [if_neg e1];by_cases e2:i=q
   ·rw [if_pos e2];intro h1 h2;rcases hB B h2 with h' | h'
    ·exact h.apart p i B hp hin (by omega) h1 h'
    ·have:=h.bnd p B hp h1; omega
   ·rw [if_neg e2]; exact h.apart p q B hp hq hpq
theorem MatOk.snap {H:Hp} {b lo hi n:Nat} {F:Nat→List Nat} {vs:List AV} (h:MatOk H b lo hi n F vs):Snap H (.msl b n 1 0 n) (co ((List.range n).map fun i=>cp (F i))):=by
 refine kH (l:=((List.range n).map fun i=>cp (F i)).map cu) h.box h.len (by omega) (by simp) (fun y hy=>?_) (fun i a c ha hc=>?_)
 ·obtain ⟨z,_,rfl⟩:=cL.1 hy; rfl
 ·have hin:i < n:=by
    have:=(bD.1 hc).1;simpa using this
  have hr:=h.row i hin;rw [b0] at ha;have e1:vs.getD i .undef=a:=by rw [Be,ha]; rfl
  rw [e1] at hr
  have e2:c=cu (cp (F i)):=by
   rw [lK,lK,List.getElem?_range hin] at hc;simpa using hc.symm
  rw [e2];exact wn hr
theorem MatOk.new {H:Hp} {b lo hi n:Nat} {F:Nat→List Nat} (hb:H b=some (List.replicate n .esl)) (hF:∀ j,j < n→F j=[]):MatOk H b lo hi n F (List.replicate n .esl):=by
 have hg:∀ j,j < n→(List.replicate n AV.esl).getD j .undef=.esl:=fun j hj=>by simp [List.getD,List.getElem?_replicate,hj]
 refine ⟨hb,by simp,fun j hj=>?_,fun j B hj h=>?_,fun i j B hi hj _ h=>?_⟩
 ·rw [hg j hj,hF j hj]; exact Row.nil
 ·rw [hg j hj] at h; cases h
 ·rw [hg i hi] at h; cases h
theorem iU {H:Hp} {s:AV} {c:Int} {l:List (List Int)} {e f:Int} (h:Snap H s (co l)) (he:e=f):Snap H (.tup [.agg [.int .i64 c,s],.int .i64 e]) (.tup [i8 c l,.int .i64 f]):=by
 subst he; exact eT (aw (nO (aw (.int _ _) (aw h ae))) (aw (.int _ _) ae))
theorem CE {m:MapV} {a b:List Spx} (h:(eU m a b).2=0) (h2:(eU m a b).1=true):eb m=0∧aH a=0∧aH b=0∧a.all (ci m)=true∧((a.map (bc m)).all fun s=>b.any fun t=>cT s t)=true:=by
 unfold eU at h h2;split at h
 ·exact absurd h ‹_›
 split at h
 ·exact absurd h ‹_›
 split at h
 ·exact absurd h ‹_›
 split at h
 ·cases h
 rename_i g1 g2 g3 g4;rw [if_neg g1,if_neg g2,if_neg g3,if_neg g4] at h2;refine ⟨mF g1,mF g2,mF g3,by cases e:a.all (ci m) with | true=>rfl | false=>exact absurd e g4,?_⟩;exact h2
theorem gx {c:List Spx} {k:Nat} {s:Spx}:s ∈ dp c k ↔ ∃ t ∈ c,s ∈ bV t k:=by
 unfold dp; rw [eu,m8]
theorem kI {c:List Spx} {k:Nat}:cb bJ (dp c k):=gz jT _
theorem ja {c:List Spx} {k:Nat} (h:c.length ≤ 50) (h8:∀ s ∈ c,s.length ≤ 8):(dp c k).length ≤ 3500:=eX jn (eX (mM h8) (by omega))
theorem lz (m:MapV) (a b:List Spx) (d:Int) (hm:ShM m) (ha:a.length ≤ 50) (has:∀ s ∈ a,Shn s) (hb:b.length ≤ 50) (hbs:∀ s ∈ b,Shn s):Pure Tryz.prog 15 [pT m,d9 a,d9 b,.int .i64 d] (.tup [i8 (ez m a b d).1.1 (ez m a b d).1.2,.int .i64 (ez m a b d).2]):=by
 refine Pure.of_c2 follows HW (ba rfl) ?_;simp only [b15,aK];have hsm:=mS m a b hm (show _ ≤ _ by omega) has (show _ ≤ _ by omega) hbs;unfold ez;by_cases he:(eU m a b).2=0
 rotate_left
 ·rw [if_pos he];have z:decide ((eU m a b).2 ≠ 0)=true:=bk he;generalize eU m a b=q at *;obtain ⟨q1,q2⟩:=q;have zz:=aI @aQ (aI @aG (aI @aD (aI @au @z))); repeat' (first|refine zW ?_|apply a_n|apply a_r|refine zO ?_|refine vY ?_|refine cY ?_ (hp:=hsm) (hs:=by (first | refine af ?_ rfl | apply ag); (repeat' (first | exact ae | apply am | apply ai | exact er _ | exact bm _)); first | done | fail)|refine alY ?_|refine bxY ?_|refine stY ?_|refine cTY ?_|refine ak rfl ?_|refine r2Y ?_|fail)
  exact iU (.eslsl _) rfl
 rw [if_neg (fun h=>h he)];have z0:decide ((0:Int) ≠ 0)=false:=rfl;cases hs1:(eU m a b).1
 ·rw [if_pos rfl];rw [he,hs1] at hsm;have zz:=aI @aQ (aI @aG (aI @aD (aI @au @z0))); repeat' (first|refine zW ?_|apply a_n|apply a_r|refine zO ?_|refine vY ?_|refine cY ?_ (hp:=hsm) (hs:=by (first | refine af ?_ rfl | apply ag); (repeat' (first | exact ae | apply am | apply ai | exact er _ | exact bm _)); first | done | fail)|refine alY ?_|refine bxY ?_|refine stY ?_|refine cTY ?_|refine cFY ?_|refine ak rfl ?_|refine r2Y ?_|fail)
  exact iU (.eslsl _) rfl
 rw [if_neg (fun h=>by cases h)];obtain ⟨w1,w2,w3,w4,w5⟩:=CE he hs1;rw [he,hs1] at hsm;by_cases hd:d < 0 ∨ 8 ≤ d
 ·rw [if_pos hd];have zz:=aI @aQ (aI @aG (aI @aD (aI @au @z0))); repeat' (first|refine zW ?_|apply a_n|apply a_r|refine zO ?_|refine vY ?_|refine cY ?_ (hp:=hsm) (hs:=by (first | refine af ?_ rfl | apply ag); (repeat' (first | exact ae | apply am | apply ai | exact er _ | exact bm _)); first | done | fail)|refine alY ?_|refine bxY ?_|refine stY ?_|refine gTY ?_|refine gFY ?_|refine cTY ?_|refine cFY ?_|(refine zGY ?_ ?_ <;> (intro _hg; try (exfalso; omega)))|refine ak rfl ?_|refine r2Y ?_|fail)
  all_goals first | exact iU (.eslsl _) rfl | (exfalso; omega)
 rw [if_neg hd];obtain ⟨n,hn⟩:∃ n:Nat,d + 1=n:=⟨(d + 1).toNat,by omega⟩
 have hX:=jM a (d + 1) ha has;have hY:=jM b (d + 1) hb hbs;unfold gc at hX hY;rw [if_neg (fun h=>h w2),if_neg (by omega)] at hX;rw [if_neg (fun h=>h w3),if_neg (by omega)] at hY;obtain ⟨v1,v2,v3,v4⟩:=cA w2;obtain ⟨u1,u2,u3,u4⟩:=cA w3;have a8:∀ s ∈ a,s.length ≤ 8:=fun s h=>(cg (v2 s h)).2.1;have b8:∀ s ∈ b,s.length ≤ 8:=fun s h=>(cg (u2 s h)).2.1;rw [hn] at hX hY ⊢;rw [bz] at hX hY ⊢;have hXl:=ja (k:=n) ha a8;have hYl:=ja (k:=n) hb b8
 have hXm:∀ s ∈ dp a n,s ≠ []∧s.length ≤ 8∧ci m s=true:=fun s h=>by
  obtain ⟨t,t1,t2⟩:=gx.1 h;obtain ⟨g1,g2⟩:=bP.1 t2;refine ⟨fun e=>by rw [e] at g2; simp at g2; omega,eX g1.length_le (a8 t t1),cC.2 fun v hv=>cC.1 (dL.1 w4 t t1) v (g1.subset hv)⟩
 have hYm:∀ s ∈ dp b n,Shn s:=fun s h=>by
  obtain ⟨t,t1,t2⟩:=gx.1 h;have:=(bP.1 t2).1.length_le;have:=b8 t t1;show _ ≤ _; omega
 have hYa:=kI (c:=b) (k:=n);generalize dp a n=X at *;generalize dp b n=Y at *;have zz:=aI @aQ (aI @aG (aI @aD (aI @au (aI @z0 @hn)))); repeat' (first|refine zW ?_|apply a_n|refine zO ?_|refine vY ?_|refine cY ?_ (hp:=by first | exact hsm | exact hX | exact hY) (hs:=by (first | refine af ?_ rfl | apply ag); (repeat' (first | exact ae | apply am | apply ai | exact er _ | exact bm _)); first | done | fail)|refine alY ?_|refine bxY ?_|refine gTY ?_|refine cFY ?_|(refine zGY ?_ ?_ <;> (intro _hg; try (exfalso; omega)))|fail)
 refine aF ev0 ev0 (uk m hm _ _) ?_;rintro _ H1 nx1 ⟨hsm1,hle,h⟩;have gr:H1 3=some [.int .i64 0,.esl]:=(hsm1 3 (by omega)).trans aj;rcases h with ⟨-,B,rfl,hB1,hB2,hB3⟩ | ⟨he',-⟩
 rotate_left
 ·exact absurd w1 he'
 obtain ⟨q1,q2,q3,q4,q5⟩:=fT w1;have hzc:be (AV.agg [AV.esl]) Y.length=List.replicate Y.length .esl:=by simp [be,AV.cells]
 clear zz;have zz:=@an; repeat' (first|refine zW ?_|apply a_n|refine zO ?_|refine vY ?_|fail)
 refine yD (k1:=.i64) (k2:=.i64) (n:=Y.length) (m:=Y.length) rfl ev0 ev0 (by omega) (Int.le_refl _) (by omega) (by omega) ?_;rw [bz,hzc,Nat.mul_one];clear zz;have zz:=@an; repeat' (first|refine zW ?_|apply a_n|refine zO ?_|refine vY ?_|refine alY ?_|refine stY ?_|fail)
 refine aZ (X:=Nat × List AV) (fun x=>[(8,.ptr 3 2 0),(13,aE Y),(14,.mp B),(16,.ptr (nx1 + 1) 2 0),(80,aE X),(81,.int .i64 X.length),(82,.int .i64 x.1)]) (fun x H' nx'=>x.1 ≤ X.length∧nx1 + 2 ≤ nx'∧(∀ y,y < nx1→H' y=H1 y)∧H' (nx1 + 1)=some [.int .i64 X.length,.msl nx1 Y.length 1 0 Y.length]∧MatOk H' nx1 (nx1 + 2) nx' Y.length (eJ m X Y x.1) x.2) (fun x=>X.length - x.1) (0,List.replicate Y.length .esl) ⟨cq _,by omega,fun y hy=>by (repeat rw [ah (by omega)]),by rw [aj]; rfl,MatOk.new (by (repeat rw [ah (by omega)]); rw [aj]) (fun j _=>rfl)⟩ (by (iterate 7 refine And.intro rfl ?_); trivial) ?_;rintro ⟨k,vs⟩ H' nx' ⟨h1,h2,h3,h4,hmat⟩;dsimp only at h1 h2 h3 h4 hmat ⊢;by_cases hk:k < X.length
 rotate_left
 ·obtain rfl:k=X.length:=by omega
  have g6:H' 3=some [.int .i64 0,.esl]:=(h3 3 (by omega)).trans gr;have hst:Snap (ao H' 3 [.int .i64 X.length,.msl nx1 Y.length 1 0 Y.length]) (.msl nx1 Y.length 1 0 Y.length) (co (cV m X Y)):=(hmat.same (hi':=nx') (G:=eJ m X Y X.length) (ah (by omega)) (fun x x1 x2 x3=>ah (by omega)) (aO _) (fun j _=>rfl)).snap;clear zz;have zz:=aI @h4 @g6; repeat' (first|refine zW ?_|apply a_n|apply a_x|refine zO ?_|refine vY ?_|refine stY ?_|(refine zGY ?_ ?_ <;> (intro _hg; try (exfalso; omega)))|refine ak rfl ?_|refine r2Y ?_|fail)
  exact iU hst rfl
 have ix:=fC hk;obtain ⟨s1,s2,s3⟩:=hXm _ (a7 hk);have hof:=Gd m (X.getD k default) q2 (by omega) s1 B H' nx' ((h3 B hB2).trans hB3) (by omega);have hle8:=gX (m:=m) (l:=X.getD k default);obtain ⟨p,hpl,hpm⟩:=CQ Y (bc m (X.getD k default)) (show _ ≤ _ by omega) hYm (show _ ≤ _ by omega) hYa;have hF:∀ i,eJ m X Y (k + 1) i=eJ m X Y k i ++ if bc m (X.getD k default)=Y.getD i default then [k] else []:=fun i=>A0
 generalize X.getD k default=s at *;clear zz;have zz:=@ix; repeat' (first|refine zW ?_|apply a_n|refine zO ?_|refine vY ?_|(refine zGY ?_ ?_ <;> (intro _hg; try (exfalso; omega)))|fail)
 refine aF ev0 ev0 hof ?_;rintro _ H2 nx2 ⟨hle2,h⟩;rcases h with ⟨ht,-,-⟩ | ⟨-,sv,Hf,H3,rfl,hone,hfz,hsn,hsm3⟩
 ·rw [s3] at ht; cases ht
 generalize bc m s=t at *;clear zz;have zz:=@hone; repeat' (first|apply a_n|refine zO ?_|refine vY ?_|fail)
 refine ef ?_;refine nM Hf H3 [(8,.ptr 3 2 0),(13,aE Y),(14,.mp B),(16,.ptr (nx1 + 1) 2 0),(17,.int .i64 k),(19,ar t),(80,aE X),(81,.int .i64 X.length),(82,.int .i64 k)] hfz ⟨.inl rfl,.inl rfl,.inl rfl,.inl rfl,.inl rfl,.inr hsn,.inl rfl,.inl rfl,.inl rfl,trivial⟩ ?_;have m3:MatOk H3 nx1 (nx1 + 2) nx2 Y.length (eJ m X Y k) vs:=hmat.same (hsm3 _ (by omega)) (fun x x1 x2 x3=>hsm3 x x2) (by omega) (fun j _=>rfl);have h43:H3 (nx1 + 1)=some [.int .i64 X.length,.msl nx1 Y.length 1 0 Y.length]:=(hsm3 _ (by omega)).trans h4;have h33:∀ y,y < nx1→H3 y=H1 y:=fun y hy=>(hsm3 y (by omega)).trans (h3 y hy);clear zz;clear hmat h4 h3 hsm3 hfz hsn hof;by_cases hin:t ∈ Y
 rotate_left
 ·rw [bq hin] at hpl
  repeat' (first|refine zW ?_|apply a_n|refine zO ?_|refine vY ?_|refine cY ?_ (hp:=hpl) (hs:=by (first | refine af ?_ rfl | apply ag); (repeat' (first | exact ae | apply am | apply ai | exact bi _ | exact aA _ | exact Dat.func DatL.nil)); first | done | fail)|refine cFY ?_|fail)
  refine ⟨(k + 1,vs),by dsimp only; omega,⟨by dsimp only; omega,by omega,h33,h43,m3.same rfl (fun _ _ _ _=>rfl) (aO _) (fun j hj=>?_)⟩,ag0⟩;dsimp only;rw [hF,if_neg (fun e=>hin (by rw [e]; exact a7 hj)),iJ]
 rw [bk hin] at hpl;obtain ⟨p1,p2⟩:=hpm hin
 repeat' (first|refine zW ?_|apply a_n|refine zO ?_|refine vY ?_|refine cY ?_ (hp:=hpl) (hs:=by (first | refine af ?_ rfl | apply ag); (repeat' (first | exact ae | apply am | apply ai | exact bi _ | exact aA _ | exact Dat.func DatL.nil)); first | done | fail)|refine cTY ?_|fail)
 refine nW (nx1 + 1) nx1 h43 m3.box (by omega) fun S0 hS1 hS2 hsub=>?_;have hrow:=m3.row p p1
 have hvs:vs[p]?=some (vs.getD p .undef):=by
  have:=m3.len;simp [List.getD,show p < vs.length by omega]
 have hlen:=m3.len;generalize hrv:vs.getD p .undef=rv at *;have zz:=aI @hS1 (aI @hS2 (aI @hvs @hlen)); repeat' (first|apply a_n|refine zO ?_|refine nvY ?_|fail)
 have hFl:=wa (m:=m) (X:=X) (Y:=Y) (n:=k) (i:=p);have hb3:∀ b,dB rv=some b→nx1 + 2 ≤ b∧b < nx2∧b ≠ nx1:=fun b hb=>m3.bnd p b p1 (by rw [hrv]; exact hb);refine ir ?_
 repeat' (first|apply a_n|refine zO ?_|refine blY ?_|fail)
 refine ⟨hsub _ (by rw [ah (by omega)]; exact h43) (by rw [ah (by omega)]; exact m3.box),?_⟩;refine ir ?_;refine jb rfl ev0 (hrow.same fun b hb=>?_) ev0 fl rfl rfl mi (by rw [cr]; omega) (by rw [cr]; omega) ?_
 ·have:=hb3 b hb; rw [ah (by omega)]
 rintro s2 H4 nx4 hr2 i1 i2 i3 i4;have lo:∀ x,x < nx2→dB rv ≠ some x→H4 x=H3 x:=fun x x1 x2=>(i3 x (by omega) x2).trans (ah (by omega));have l1:H4 nx1=H3 nx1:=lo nx1 (by omega) (fun h=>by have:=hb3 _ h; omega);have l2:H4 (nx1 + 1)=H3 (nx1 + 1):=lo _ (by omega) (fun h=>by have:=hb3 _ h; omega);have g1:H4 nx1=some vs:=l1.trans m3.box;have g2:=l2.trans h43;obtain ⟨o1,o2⟩:=hr2.one;refine px ⟨hsub _ g2 g1,?_⟩
 have hlp:bu vs p [s2]=vs.set p s2:=by
  simp only [bu,cS,ew,b0];rw [B2,if_pos (by omega)]; simp
 clear zz;have zz:=aI @g1 (aI @o1 (aI @o2 (aI @hlen @hlp))); repeat' (first|apply a_n|refine zO ?_|refine vY ?_|refine nvY ?_|apply jY|refine stY ?_|fail)
 refine ⟨(k + 1,vs.set p s2),by dsimp only; omega,⟨by dsimp only; omega,by omega,fun y hy=>?_,?_,?_⟩,ag0⟩
 ·rw [ah (by omega),lo y (by omega) (fun h=>by have:=hb3 _ h; omega)]; exact h33 y hy
 ·rw [ah (by omega)]; exact g2
 ·dsimp only;refine m3.put (sv:=s2) (x:=k) p1 (fun j hj=>?_) ?_ (fun b hb=>?_) (by rw [aj,hlp]) (fun x x1 x2 x3 x4=>?_) (by omega) (by omega)
  ·rw [hF];by_cases e:j=p
   ·rw [if_pos e,if_pos (by rw [e,p2])]
   ·rw [if_neg e,if_neg (fun h=>e ?_),iJ];rcases rh j p with h' | h' | h'
    ·have:=cE hYa h' p1;rw [← h,p2,dN] at this; omega
    ·exact h'
    ·have:=cE hYa h' hj;rw [← h,p2,dN] at this; omega
  ·rw [f9]
   exact hr2.same fun b hb=>ah (by
    rcases i4 b hb with h | h
    ·have:=hb3 b h; omega
    ·omega)
  ·rw [hrv];rcases i4 b hb with h | h
   ·exact .inl h
   ·exact .inr ⟨by omega,by omega,by omega⟩
  ·rw [ah x3,lo x x2 (by rw [hrv] at x4; exact x4)]
def fcs (s:Spx):List Spx:=if s.length < 2 then [] else fc0 s
theorem vE {s:Spx}:(fcs s).Perm (dj s):=by
 unfold fcs dj;split
 ·exact List.Perm.refl _
 ·rename_i h;exact (ww fun e=>by rw [e] at h; simp at h).symm
theorem zq {s f:Spx}:f ∈ fcs s ↔ f ∈ dj s:=vE.mem_iff
theorem ul:∀ {s:Spx},(fc0 s).length=s.length
 | []=>rfl
 | x :: s=>by show ((fc0 s).map (x :: ·)).length + 1=_; rw [cr,ul]; rfl
theorem yZ:∀ {s:Spx} {i:Nat},i < s.length→(fc0 s).getD i default=s.take i ++ s.drop (i + 1)
 | [],_,h=>absurd h (by simp)
 | x :: s,0,_=>by simp [fc0]
 | x :: s,i + 1,h=>by
  have hi:i < s.length:=by simpa using h
  have:=yZ hi;show ((s :: (fc0 s).map (x :: ·)).getD (i + 1) default)=_;have hl:i < (fc0 s).length:=by rw [ul]; exact hi
  simp only [List.getD,wT,lK,rf hl,kj,vS,List.take_succ_cons,List.drop_succ_cons,List.cons_append] at this ⊢;rw [this]
theorem nC {s:Spx} (h:cb bE s):(dj s).Nodup:=(ym h).nodup jT
theorem AQ {s:Spx} (h:cb bE s):(fcs s).Nodup:=vE.nodup_iff.2 (nC h)
def fo (X Y:List Spx) (n i:Nat):List Nat:=(List.range n).filter fun k=>decide (Y.getD i default ∈ dj (X.getD k default))
theorem Aq {X Y:List Spx} {n i:Nat}:fo X Y (n + 1) i=fo X Y n i ++ if Y.getD i default ∈ dj (X.getD n default) then [n] else []:=by
 unfold fo;rw [List.range_succ,xB]
 congr 1
 by_cases h:Y.getD i default ∈ dj (X.getD n default)
 ·rw [if_pos h,uE (by simpa using h)]; rfl
 ·rw [if_neg h,vX (by simpa using h)]; rfl
theorem vn {X Y:List Spx} {n i:Nat}:(fo X Y n i).length ≤ n:=by
 unfold fo;exact eX (List.length_filter_le _ _) (by simp)
def gf (X Y:List Spx):List (List Int):=(List.range Y.length).map fun i=>cp (fo X Y X.length i)
end Go.Proofs.YtpfkjcjgdilkkaaGreat