/- Texts of this claim, one after the other: T109, T110, T111, T112, T113, T107, T114, T115, T116, T117, T119, T124, T125, T120, T123, T126, T127, T128, T129, T130, T131, T132, T134, T160, T161, A33, T122, T133, T162, T118, T121. -/
import Derived.Test.YtbgdcebmgjafjaaGreatXG4
import Derived.Test.YtbgdcebmgjafjaaGreatXG5
import Derived.Test.YtbgdcebmgjafjaaGreatXG3
import Derived.Test.YtbgdcebmgjafjaaGreatRows
import Derived.WalkKit
import Derived.ProofKit
import Derived.OpenShut

set_option linter.unusedSimpArgs false
set_option linter.unusedVariables false
namespace Go.Proofs.YtbgdcebmgjafjaaGreat
open Go Go.Abs
theorem w7 (a b:Vtx):kg (.st [.int,.int]) (bh a) (bh b)=some (decide (a=b)):=by
 show b8 [.int,.int] [.int .i64 a.color,.int .i64 a.label] [.int .i64 b.color,.int .i64 b.label]=_
 rw [rq,gV]
theorem kT (v:Vtx) (ks:List Vtx):bQ (.st [.int,.int]) (bh v) (ks.map bh)=some (if v ∈ ks then some (ks.idxOf v) else none):=m8 _ bh w7 v ks
theorem lJ (v:Vtx):fB (.st [.int,.int]) (bh v)=true:=rfl
def fZ (l:List Spx) (i:Nat) (v:Vtx):List Nat:=(List.range i).filter fun k=>decide (v ∈ l.getD k default)
def iU (l:List Spx) (i j:Nat) (v:Vtx):List Nat:=fZ l i v ++ if v ∈ (l.getD i default).take j then [i] else []
theorem sn {l:List Spx} {i:Nat} {v:Vtx}:fZ l (i + 1) v=iU l i (l.getD i default).length v:=by
 unfold fZ iU
 rw [List.range_succ,List.filter_append,List.take_length]
 congr 1
 by_cases h:v ∈ l.getD i default
 ·rw [if_pos h]; simp only [List.filter,h,decide_true]
 ·rw [if_neg h]; simp only [List.filter,h,decide_false]
theorem sT {l:List Spx} {i:Nat} {v:Vtx}:iU l i 0 v=fZ l i v:=by unfold iU; simp
theorem tB {l:List Spx} {i j:Nat} {v:Vtx} (hj:j < (l.getD i default).length) (ha:b6 bt (l.getD i default)):iU l i (j + 1) v=if v=(l.getD i default).getD j default then iU l i j v ++ [i] else iU l i j v:=by
 unfold iU
 generalize l.getD i default=s at *
 rw [bX hj]
 by_cases h:v=s.getD j default
 ·have hn:v ∉ s.take j:=fun hm=>by
    obtain ⟨k,hk,e⟩:=List.getElem_of_mem hm
    rw [List.length_take] at hk
    rw [List.getElem_take] at e
    have:=eJ ha (i:=k) (j:=j) (by omega) hj
    rw [← h,← e] at this
    have e2:s.getD k default=s[k]:=by simp [List.getD,show k < s.length by omega]
    rw [e2] at this
    exact oJ.ord.irr _ this
  rw [if_pos h,if_neg hn,if_pos (by rw [List.mem_append,h]; simp)]
  simp
 ·rw [if_neg h]
  congr 1
  have e:v ∈ s.take j ++ [s.getD j default] ↔ v ∈ s.take j:=by rw [List.mem_append,List.mem_singleton]; exact ⟨fun h'=>h'.resolve_right h,.inl⟩
  by_cases h2:v ∈ s.take j
  ·rw [if_pos (e.2 h2),if_pos h2]
  ·rw [if_neg (fun h=>h2 (e.1 h)),if_neg h2]
def vE (i:Nat):AV:=.int .i64 (i:Int)
structure IncOk (H:Hp) (b lo hi:Nat) (F:Vtx→List Nat) (ks:List Vtx) (vs:List AV):Prop where
 box:H b=some [.omap (ks.map bh) vs]
 len:vs.length=ks.length
 nodup:ks.Nodup
 dom:∀ v,v ∈ ks ↔ F v ≠ []
 row:∀ j,j < ks.length→Row H 1 (vs.getD j .undef) ((F (ks.getD j default)).map vE)
 bnd:∀ j B,j < ks.length→eB (vs.getD j .undef)=some B→lo ≤ B∧B < hi∧B ≠ b
 apart:∀ i j B,i < ks.length→j < ks.length→i ≠ j→eB (vs.getD i .undef)=some B→eB (vs.getD j .undef) ≠ some B
 lt:b < hi
theorem tC {l:List AV} {i j:Nat} {x:AV} (h:i < l.length):(l.set i x).getD j .undef=if i=j then x else l.getD j .undef:=by
 simp only [List.getD,List.getElem?_set]
 split
 ·rename_i e; subst e; simp [h]
 ·rfl
theorem o6 {α:Type} {l m:List α} {j:Nat} {d:α} (h:j < l.length):(l ++ m).getD j d=l.getD j d:=by
 simp [List.getD,List.getElem?_append_left h]
theorem nj {α:Type} {l:List α} {x d:α}:(l ++ [x]).getD l.length d=x:=by simp [List.getD]
theorem gS {l:List Vtx} {v:Vtx} (h:v ∈ l):l.idxOf v < l.length∧l.getD (l.idxOf v) default=v:=by
 have h1:=List.idxOf_lt_length_iff.2 h
 exact ⟨h1,by simp [List.getD,h1]⟩
theorem sZ {l:List Vtx} (h:l.Nodup) {i j:Nat} (hi:i < l.length) (hj:j < l.length) (e:l.getD i default=l.getD j default):i=j:=by
 have hp:=List.pairwise_iff_getElem.1 (List.nodup_iff_pairwise_ne.1 h)
 rw [show l.getD i default=l[i] by simp [List.getD,hi],show l.getD j default=l[j] by simp [List.getD,hj]] at e
 rcases Nat.lt_trichotomy i j with c | c | c
 ·exact absurd e (hp i j hi hj c)
 ·exact c
 ·exact absurd e.symm (hp j i hj hi c)
theorem IncOk.same {H H':Hp} {b lo hi hi':Nat} {F:Vtx→List Nat} {ks:List Vtx} {vs:List AV} (h:IncOk H b lo hi F ks vs) (hb:H' b=H b) (hs:∀ x,lo ≤ x→x < hi→x ≠ b→H' x=H x) (hh:hi ≤ hi'):IncOk H' b lo hi' F ks vs :=
 ⟨hb.trans h.box,h.len,h.nodup,h.dom,fun j hj=>(h.row j hj).same fun B hB=>by have:=h.bnd j B hj hB; exact hs B this.1 this.2.1 this.2.2,fun j B hj hB=>by have:=h.bnd j B hj hB; exact ⟨this.1,by omega,this.2.2⟩,h.apart,by have:=h.lt; omega⟩
theorem IncOk.put {H H':Hp} {b lo hi hi' i:Nat} {F G:Vtx→List Nat} {ks:List Vtx} {vs:List AV} {w:Vtx} {sv:AV} (h:IncOk H b lo hi F ks vs) (hw:w ∈ ks) (hG:∀ v,G v=if v=w then F v ++ [i] else F v) (hrow:Row H' 1 sv ((F w ++ [i]).map vE)) (hB:∀ B,eB sv=some B→eB (vs.getD (ks.idxOf w) .undef)=some B ∨ hi ≤ B∧B < hi'∧B ≠ b) (hb:H' b=some [.omap (ks.map bh) (vs.set (ks.idxOf w) sv)])
    (hs:∀ x,lo ≤ x→x < hi→x ≠ b→eB (vs.getD (ks.idxOf w) .undef) ≠ some x→H' x=H x) (hh:hi ≤ hi') (hlo:lo ≤ hi):IncOk H' b lo hi' G ks (vs.set (ks.idxOf w) sv):=by
 obtain ⟨k1,k2⟩:=gS hw
 have hl:=h.len
 have hg:∀ j,(vs.set (ks.idxOf w) sv).getD j .undef=if ks.idxOf w=j then sv else vs.getD j .undef:=fun j=>tC (by omega)
 have hne:∀ j,j < ks.length→ks.idxOf w ≠ j→ks.getD j default ≠ w:=fun j hj hn e=>hn (sZ h.nodup k1 hj (by rw [k2,e]))
 refine ⟨hb,by simp [hl],h.nodup,fun v=>?_,fun j hj=>?_,fun j B hj=>?_,fun p q B hp hq hpq=>?_,by have:=h.lt; omega⟩
 ·rw [hG,h.dom]
  by_cases e:v=w
  ·subst e
   rw [if_pos rfl]
   exact ⟨fun _=>by simp,fun _=>(h.dom v).1 hw⟩
  ·rw [if_neg e]
 ·rw [hg,hG]
  by_cases e:ks.idxOf w=j
  ·rw [if_pos e,if_pos (by rw [← e]; exact k2),← e,k2]; exact hrow
  ·rw [if_neg e,if_neg (hne j hj e)]
   exact (h.row j hj).same fun B hB'=>by
    have:=h.bnd j B hj hB'
    exact hs B this.1 this.2.1 this.2.2 fun h'=>h.apart (ks.idxOf w) j B k1 hj e h' hB'
 ·rw [hg]
  by_cases e:ks.idxOf w=j
  ·rw [if_pos e]
   intro hB'
   rcases hB B hB' with h' | h'
   ·have:=h.bnd _ B k1 h'; exact ⟨this.1,by omega,this.2.2⟩
   ·exact ⟨by omega,h'.2⟩
  ·rw [if_neg e]
   intro hB'
   have:=h.bnd j B hj hB'
   exact ⟨this.1,by omega,this.2.2⟩
 ·rw [hg,hg]
  by_cases e1:ks.idxOf w=p
  ·rw [if_pos e1,if_neg (by omega)]
   intro h1 h2
   rcases hB B h1 with h' | h'
   ·exact h.apart (ks.idxOf w) q B k1 hq (by omega) h' h2
   ·have:=h.bnd q B hq h2; omega
  ·rw [if_neg e1]
   by_cases e2:ks.idxOf w=q
   ·rw [if_pos e2]
    intro h1 h2
    rcases hB B h2 with h' | h'
    ·exact h.apart p (ks.idxOf w) B hp k1 (by omega) h1 h'
    ·have:=h.bnd p B hp h1; omega
   ·rw [if_neg e2]; exact h.apart p q B hp hq hpq
theorem IncOk.new {H H':Hp} {b lo hi hi' i:Nat} {F G:Vtx→List Nat} {ks:List Vtx} {vs:List AV} {w:Vtx} {sv:AV} (h:IncOk H b lo hi F ks vs) (hw:w ∉ ks) (hG:∀ v,G v=if v=w then F v ++ [i] else F v) (hrow:Row H' 1 sv ([i].map vE)) (hB:∀ B,eB sv=some B→hi ≤ B∧B < hi'∧B ≠ b) (hb:H' b=some [.omap ((ks ++ [w]).map bh) (vs ++ [sv])])
    (hs:∀ x,lo ≤ x→x < hi→x ≠ b→H' x=H x) (hh:hi ≤ hi') (hlo:lo ≤ hi):IncOk H' b lo hi' G (ks ++ [w]) (vs ++ [sv]):=by
 have hl:=h.len
 have hF:F w=[]:=by
  cases hf:F w with
  | nil=>rfl
  | cons a r=>exact absurd ((h.dom w).2 (by rw [hf]; simp)) hw
 have g1:∀ j,j < ks.length→(ks ++ [w]).getD j default=ks.getD j default∧(vs ++ [sv]).getD j .undef=vs.getD j .undef:=fun j hj=>⟨o6 hj,o6 (by omega)⟩
 have g2:(ks ++ [w]).getD ks.length default=w∧(vs ++ [sv]).getD ks.length .undef=sv:=⟨nj,by rw [← hl]; exact nj⟩
 refine ⟨hb,by simp [hl],?_,fun v=>?_,fun j hj=>?_,fun j B hj=>?_,fun p q B hp hq hpq=>?_,by have:=h.lt; omega⟩
 ·rw [List.nodup_append]
  exact ⟨h.nodup,by simp,fun a ha c hc e=>by rw [List.mem_singleton] at hc; exact hw (by rw [← hc,← e]; exact ha)⟩
 ·rw [hG,List.mem_append,List.mem_singleton]
  by_cases e:v=w
  ·subst e; rw [if_pos rfl]; simp
  ·rw [if_neg e,← h.dom]; simp [e]
 ·rw [List.length_append,List.length_singleton] at hj
  by_cases e:j=ks.length
  ·subst e
   rw [g2.1,g2.2,hG,if_pos rfl,hF]; exact hrow
  ·obtain ⟨e1,e2⟩:=g1 j (by omega)
   have hne:ks.getD j default ≠ w:=fun e'=>hw (e' ▸ bj (by omega))
   rw [e1,e2,hG,if_neg hne]
   exact (h.row j (by omega)).same fun B hB'=>by have:=h.bnd j B (by omega) hB'; exact hs B this.1 this.2.1 this.2.2
 ·rw [List.length_append,List.length_singleton] at hj
  by_cases e:j=ks.length
  ·subst e
   rw [g2.2]; intro hB'
   have:=hB B hB'; exact ⟨by omega,this.2⟩
  ·rw [(g1 j (by omega)).2]; intro hB'
   have:=h.bnd j B (by omega) hB'; exact ⟨this.1,by omega,this.2.2⟩
 ·rw [List.length_append,List.length_singleton] at hp hq
  by_cases e1:p=ks.length
  ·subst e1
   rw [g2.2,(g1 q (by omega)).2]
   intro h1 h2
   have:=hB B h1
   have:=h.bnd q B (by omega) h2
   omega
  ·rw [(g1 p (by omega)).2]
   by_cases e2:q=ks.length
   ·subst e2
    rw [g2.2]
    intro h1 h2
    have:=hB B h2
    have:=h.bnd p B (by omega) h1
    omega
   ·rw [(g1 q (by omega)).2]; exact h.apart p q B (by omega) (by omega) hpq
end Go.Proofs.YtbgdcebmgjafjaaGreat
namespace Go.Proofs.YtbgdcebmgjafjaaGreat
open Go Go.Abs
theorem gU {H:Hp} {d:Nat} {x:AV}:cR 1 (ah H d [x]) (.msl d 1 1 0 1)=some (1,[x]):=gA (n:=1) (len:=1) (off:=0) (cs:=[x]) ai rfl (by simp)
theorem oN {l:List Spx} {i:Nat} {v:Vtx}:(fZ l i v).length ≤ i:=by
 unfold fZ
 have:=List.length_filter_le (fun k=>decide (v ∈ l.getD k default)) (List.range i)
 rwa [List.length_range] at this
theorem u3 {l:List Spx} {i j:Nat} {v:Vtx}:(iU l i j v).length ≤ i + 1:=by
 unfold iU
 have:=oN (l:=l) (i:=i) (v:=v)
 rw [List.length_append]
 split <;> simp <;> omega
attribute [local irreducible] aC ak bb a8 aL aQ az aR ba br Go.Abs.Fn aZ Go.Abs.Pure ax aH Yl
set_option maxHeartbeats 2000000 in
theorem kp (l:List Spx) (hl:l.length ≤ 100000) (hs:∀ s ∈ l,b6 bt s∧s.length ≤ 1000000) (H:Hp) (nx:Nat):Abs.Fn Tryz.prog 69 [aD l] H nx fun r H' nx'=>∃ ks vs,r=.mp nx∧IncOk H' nx nx nx' (fZ l l.length) ks vs∧(∀ x,x < nx→H' x=H x)∧nx < nx':=by
 refine Abs.Fn.of_c2 follows z8 (Nat.le_of_ble_eq_true rfl) ?_
 simp only [b69,cO,cG,cN,cM,cD,cF,cB,aq,aG]
 refine ee ?_
 (have zz:=and_self; repeat' (first|apply a_n|refine zO ?_|refine vZ ?_|fail)) <;> (try clear zz)
 refine ee ?_
 (have zz:=and_self; repeat' (first|apply a_n|refine zO ?_|fail)) <;> (try clear zz)
 refine wz ?_
 (have zz:=@aK; repeat' (first|refine zW ?_|apply a_n|refine zO ?_|refine vY ?_|fail)) <;> (try clear zz)
 refine aS (X:=Nat × List Vtx × List AV) (fun x=>[(3,.mp nx),(9,aD l),(10,.int .i64 l.length),(11,.int .i64 x.1)]) (fun x H' nx'=>x.1 ≤ l.length∧IncOk H' nx nx nx' (fZ l x.1) x.2.1 x.2.2∧(∀ y,y < nx→H' y=H y)∧nx < nx') (fun x=>l.length - x.1) (0,[],[]) ⟨Nat.zero_le _,⟨ai,rfl,List.nodup_nil,fun v=>by simp [fZ],fun j h=>absurd h (by simp),fun j B h=>absurd h (by simp),fun i j B h=>absurd h (by simp),by omega⟩,fun y hy=>af (by omega),by omega⟩ ag0 ?_
 rintro ⟨i,ks,vs⟩ H1 nx1 ⟨h1,h2,h3,h4⟩
 dsimp only at h1 h2 ⊢
 by_cases hi:i < l.length
 rotate_left
 ·obtain rfl:i=l.length:=by omega
  (have zz:=and_self; repeat' (first|refine zW ?_|apply a_n|apply a_x|refine zO ?_|refine vY ?_|(refine zGY ?_ ?_ <;> (intro _hg; try (exfalso; omega)))|refine ag rfl ?_|refine r1Y ?_|fail)) <;> (try clear zz)
  exact ⟨ks,vs,rfl,h2,h3,h4⟩
 have ix:=iv hi
 obtain ⟨hsa,hsl⟩:=hs _ (bj hi)
 have hstep:=fun j v hj=>tB (l:=l) (i:=i) (j:=j) (v:=v) hj hsa
 have hend:=fun v=>sn (l:=l) (i:=i) (v:=v)
 have hlen:=fun j v=>u3 (l:=l) (i:=i) (j:=j) (v:=v)
 have h20:IncOk H1 nx nx nx1 (iU l i 0) ks vs:=by rw [show iU l i 0=fZ l i from funext fun v=>sT]; exact h2
 have hend':fZ l (i + 1)=iU l i (l.getD i default).length:=funext hend
 clear h2
 generalize l.getD i default=s at *
 (have zz:=aI @ix @ar; repeat' (first|refine zW ?_|apply a_n|refine zO ?_|refine vY ?_|(refine zGY ?_ ?_ <;> (intro _hg; try (exfalso; omega)))|fail)) <;> (try clear zz)
 refine aS (X:=Nat × List Vtx × List AV) (fun x=>[(3,.mp nx),(9,aD l),(10,.int .i64 l.length),(11,.int .i64 i),(4,.int .i64 i),(5,ap s),(16,ap s),(17,.int .i64 s.length),(18,.int .i64 x.1)]) (fun x H' nx'=>x.1 ≤ s.length∧IncOk H' nx nx nx' (iU l i x.1) x.2.1 x.2.2∧(∀ y,y < nx→H' y=H y)∧nx < nx') (fun x=>s.length - x.1) (0,ks,vs) ⟨Nat.zero_le _,h20,h3,h4⟩ ag0 ?_
 clear h20 h3 h4
 rintro ⟨j,ks,vs⟩ H2 nx2 ⟨k1,k2,k3,k4⟩
 dsimp only at k1 k2 ⊢
 by_cases hj:j < s.length
 rotate_left
 ·obtain rfl:j=s.length:=by omega
  (have zz:=and_self; repeat' (first|refine zW ?_|apply a_n|apply a_x|refine zO ?_|refine vY ?_|(refine zGY ?_ ?_ <;> (intro _hg; try (exfalso; omega)))|fail)) <;> (try clear zz)
  exact ⟨(i + 1,ks,vs),by dsimp only; omega,⟨by dsimp only; omega,by dsimp only; rw [hend']; exact k2,k3,k4⟩,ag0⟩
 have iy:=ix2 hj
 have hG:=fun v=>hstep j v hj
 have hcl:=hlen j (s.getD j default)
 generalize s.getD j default=w at *
 (have zz:=@iy; repeat' (first|refine zW ?_|apply a_n|refine zO ?_|refine vY ?_|refine alY ?_|refine stY ?_|refine blY ?_|(refine zGY ?_ ?_ <;> (intro _hg; try (exfalso; omega)))|fail)) <;> (try clear zz)
 have g3:∀ x,x < nx2→ah (ah (ah H2 nx2 [.int .i64 0,.int .i64 0]) nx2 (a9 [.int .i64 0,.int .i64 0] 0 [.int .i64 w.color,.int .i64 w.label])) (nx2 + 1) [.int .i64 i] x=H2 x:=fun x hx=>by rw [af (by omega),af (by omega),af (by omega)]
 have g4:ah (ah (ah H2 nx2 [.int .i64 0,.int .i64 0]) nx2 (a9 [.int .i64 0,.int .i64 0] 0 [.int .i64 w.color,.int .i64 w.label])) (nx2 + 1) [.int .i64 i] (nx2 + 1)=some [.int .i64 i]:=ai
 generalize ah (ah (ah H2 nx2 [.int .i64 0,.int .i64 0]) nx2 (a9 [.int .i64 0,.int .i64 0] 0 [.int .i64 w.color,.int .i64 w.label])) (nx2 + 1) [.int .i64 i]=H3 at *
 have hmf:=kT w ks
 have hkl:(ks.map bh).length=ks.length:=List.length_map ..
 by_cases hw:w ∈ ks
 ·rw [if_pos hw] at hmf
  obtain ⟨m1,m2⟩:=gS hw
  have hr:=k2.row (ks.idxOf w) m1
  rw [m2] at hr
  refine uP ev0 ((g3 nx (by omega)).trans k2.box) ev0 (lJ w) hmf ?_
  have g5:∀ x,x < nx2→x ≠ nx→ah H3 nx [.omap (bw (bh w) (some (ks.idxOf w)) (ks.map bh)) (gj .esl (some (ks.idxOf w)) vs)] x=H2 x:=fun x hx hn=>by rw [af hn,g3 x hx]
  have g6:ah H3 nx [.omap (bw (bh w) (some (ks.idxOf w)) (ks.map bh)) (gj .esl (some (ks.idxOf w)) vs)] nx=some [.omap (ks.map bh) vs]:=ai
  have g7:ah H3 nx [.omap (bw (bh w) (some (ks.idxOf w)) (ks.map bh)) (gj .esl (some (ks.idxOf w)) vs)] (nx2 + 1)=some [.int .i64 i]:=by rw [af (by omega)]; exact g4
  generalize ah H3 nx [.omap (bw (bh w) (some (ks.idxOf w)) (ks.map bh)) (gj .esl (some (ks.idxOf w)) vs)]=H4 at *
  rw [show qA .esl (some (ks.idxOf w)) vs=vs.getD (ks.idxOf w) .undef from rfl,show pe (some (ks.idxOf w)) (ks.map bh)=ks.idxOf w from rfl]
  (have zz:=and_self; repeat' (first|apply a_n|refine zO ?_|refine vY ?_|fail)) <;> (try clear zz)
  refine jX (k:=1) (new:=[.int .i64 i]) rfl ev0 (hr.same fun B hB=>?_) ev0 (gA (n:=1) (len:=1) (off:=0) g7 rfl (by omega)) rfl rfl Nat.one_pos (by rw [List.length_map]; omega) (by rw [List.length_map]; omega) ?_
  ·have:=k2.bnd _ B m1 hB
   exact g5 B this.2.1 this.2.2
  rintro s2 H5 nx5 hr5 i1 i2 i3 i4
  (have zz:=and_self; repeat' (first|apply a_n|refine zO ?_|refine vY ?_|fail)) <;> (try clear zz)
  refine tV ev0 ((i3 nx (by omega) (fun h=>(k2.bnd _ nx m1 h).2.2 rfl)).trans g6) ev0 (by rw [hkl]; exact m1) ev0 ?_
  (have zz:=and_self; repeat' (first|apply a_n|refine zO ?_|refine vY ?_|fail)) <;> (try clear zz)
  refine ⟨(j + 1,ks,vs.set (ks.idxOf w) s2),by dsimp only; omega,⟨by dsimp only; omega,IncOk.put k2 hw hG ?_ (fun B hB=>?_) ai (fun x hx hx2 hxn hxr=>?_) (by omega) (by omega),fun y hy=>?_,by omega⟩,ag0⟩
  ·rw [List.map_append]
   exact hr5.same fun B hB=>af fun e=>by
    rcases i4 B hB with h | h
    ·exact (k2.bnd _ B m1 h).2.2 e
    ·omega
  ·rcases i4 B hB with h | h
   ·exact .inl h
   ·exact .inr (by omega)
  ·rw [af hxn,i3 x (by omega) hxr,g5 x hx2 hxn]
  ·rw [af (by omega),i3 y (by omega) (fun h=>by have:=k2.bnd _ y m1 h; omega),g5 y (by omega) (by omega)]; exact k3 y hy
 ·rw [if_neg hw] at hmf
  refine uP ev0 ((g3 nx (by omega)).trans k2.box) ev0 (lJ w) hmf ?_
  have g5:∀ x,x < nx2→x ≠ nx→ah H3 nx [.omap (bw (bh w) none (ks.map bh)) (gj .esl none vs)] x=H2 x:=fun x hx hn=>by rw [af hn,g3 x hx]
  have g6:ah H3 nx [.omap (bw (bh w) none (ks.map bh)) (gj .esl none vs)] nx=some [.omap (ks.map bh ++ [bh w]) (vs ++ [.esl])]:=ai
  have g7:ah H3 nx [.omap (bw (bh w) none (ks.map bh)) (gj .esl none vs)] (nx2 + 1)=some [.int .i64 i]:=by rw [af (by omega)]; exact g4
  generalize ah H3 nx [.omap (bw (bh w) none (ks.map bh)) (gj .esl none vs)]=H4 at *
  rw [show qA .esl none vs=.esl from rfl,show pe none (ks.map bh)=ks.length from hkl]
  (have zz:=and_self; repeat' (first|apply a_n|refine zO ?_|refine vY ?_|fail)) <;> (try clear zz)
  refine jX (k:=1) (new:=[.int .i64 i]) (cs:=[]) rfl ev0 Row.nil ev0 (gA (n:=1) (len:=1) (off:=0) g7 rfl (by omega)) rfl rfl Nat.one_pos (by simp) (by simp) ?_
  rintro s2 H5 nx5 hr5 i1 i2 i3 i4
  have i4':∀ B,eB s2=some B→B=nx2 + 1 + 1∧nx5=nx2 + 1 + 1 + 1:=fun B hB=>(i4 B hB).elim (fun h=>by cases h) id
  (have zz:=and_self; repeat' (first|apply a_n|refine zO ?_|refine vY ?_|fail)) <;> (try clear zz)
  refine tV (i:=ks.length) ev0 ((i3 nx (by omega) (fun h=>by cases h)).trans g6) ev0 (by rw [List.length_append,hkl]; simp) ev0 ?_
  have hset:(vs ++ [AV.esl]).set ks.length s2=vs ++ [s2]:=by rw [← k2.len]; simp
  rw [hset]
  (have zz:=and_self; repeat' (first|apply a_n|refine zO ?_|refine vY ?_|fail)) <;> (try clear zz)
  refine ⟨(j + 1,ks ++ [w],vs ++ [s2]),by dsimp only; omega,⟨by dsimp only; omega,IncOk.new k2 hw hG ?_ (fun B hB=>?_) (by rw [List.map_append]; exact ai) (fun x hx hx2 hxn=>?_) (by omega) (by omega),fun y hy=>?_,by omega⟩,ag0⟩
  ·exact hr5.same fun B hB=>af (by have:=i4' B hB; omega)
  ·have:=i4' B hB; omega
  ·rw [af hxn,i3 x (by omega) (fun h=>by cases h),g5 x hx2 hxn]
  ·rw [af (by omega),i3 y (by omega) (fun h=>by cases h),g5 y (by omega) (by omega)]; exact k3 y hy
end Go.Proofs.YtbgdcebmgjafjaaGreat
namespace Go.Proofs.YtbgdcebmgjafjaaGreat
open Go Go.Abs
def bm (l:List Spx) (s:Spx):Bool:=l.any fun t=>decide (s.length < t.length) && bv s t
def lu (c:List Spx) (k:Nat):Int:=if bn (c.getD k default) ≠ 0 then bn (c.getD k default) else if 0 < k∧0 ≤ bK (c.getD (k - 1) default) (c.getD k default) then 14 else 0
def bc (c:List Spx):Int:=if 4096 < c.length then 5 else if cg (lu c) c.length ≠ 0 then cg (lu c) c.length else if c.any (bm c)=true then 7 else 0
theorem dW {a b:Spx}:bv a b=true ↔ ∀ v ∈ a,v ∈ b:=by
 unfold bv; rw [List.all_eq_true]
 exact ⟨fun h v hv=>of_decide_eq_true (h v hv),fun h v hv=>decide_eq_true (h v hv)⟩
theorem cu {l:List Spx} {s:Spx}:bm l s=true ↔ ∃ t ∈ l,s.length < t.length∧∀ v ∈ s,v ∈ t:=by
 unfold bm; rw [List.any_eq_true]
 constructor
 ·rintro ⟨t,ht,h⟩
  rw [Bool.and_eq_true,decide_eq_true_iff,dW] at h
  exact ⟨t,ht,h⟩
 ·rintro ⟨t,ht,h⟩
  exact ⟨t,ht,by rw [Bool.and_eq_true,decide_eq_true_iff,dW]; exact h⟩
theorem vo {c:List Spx} (h:cg (lu c) c.length=0):(∀ s ∈ c,bn s=0)∧b6 bK c:=by
 have hz:=eH h
 have h3:∀ k,k < c.length→bn (c.getD k default)=0∧(0 < k→bK (c.getD (k - 1) default) (c.getD k default) < 0):=fun k hk=>by
  have:=hz k hk
  unfold lu at this
  split at this
  ·exact absurd this ‹_›
  rename_i g1
  split at this
  ·exact absurd this (by decide)
  rename_i g2
  exact ⟨Decidable.of_not_not g1,fun h0=>by omega⟩
 constructor
 ·intro s hs
  obtain ⟨i,hi,rfl⟩:=List.getElem_of_mem hs
  have:=(h3 i hi).1
  rwa [show c.getD i default=c[i] by simp [List.getD,hi]] at this
 ·have step:∀ j i,i < j→j < c.length→bK (c.getD i default) (c.getD j default) < 0:=by
    intro j
    induction j with
    | zero=>intro i h; omega
    | succ j ih =>
     intro i hi hj
     have hs:=(h3 (j + 1) hj).2 (by omega)
     rw [Nat.add_sub_cancel] at hs
     by_cases e:i=j
     ·subst e; exact hs
     ·exact uZ.trans (ih i (by omega) (by omega)) hs
  unfold b6
  rw [List.pairwise_iff_getElem]
  intro i j hi hj hij
  have:=step j i hij hj
  simpa [List.getD,hi,hj] using this
theorem dx {c:List Spx} (h:bc c=0):c.length ≤ 4096∧(∀ s ∈ c,bn s=0)∧b6 bK c∧∀ s ∈ c,bm c s=false:=by
 unfold bc at h
 split at h
 ·exact absurd h (by decide)
 split at h
 ·exact absurd h ‹_›
 split at h
 ·exact absurd h (by decide)
 rename_i h1 h2 h3
 have:=vo (Decidable.of_not_not h2)
 refine ⟨by omega,this.1,this.2,fun s hs=>?_⟩
 cases hc:bm c s
 ·rfl
 ·exact absurd (List.any_eq_true.2 ⟨s,hs,hc⟩) h3
theorem pF {c:List Spx} (h1:c.length ≤ 4096) (h2:∀ s ∈ c,bn s=0) (h3:b6 bK c) (h4:∀ s ∈ c,bm c s=false):bc c=0:=by
 have hz:cg (lu c) c.length=0:=c6 fun k hk=>by
  unfold lu
  rw [h2 _ (bj hk),if_neg (by simp),if_neg]
  rintro ⟨h0,h5⟩
  have:=eJ h3 (i:=k - 1) (j:=k) (by omega) hk
  omega
 unfold bc
 rw [if_neg (by omega),hz,if_neg (by simp),if_neg]
 rw [List.any_eq_true]
 rintro ⟨s,hs,h⟩
 rw [h4 s hs] at h; cases h
theorem vX {l:List Spx} {s:Spx} {p:Spx→Bool} (h0:0 < s.length) (hp:∀ t,p t=true→s.getD 0 default ∈ t):((fZ l l.length (s.getD 0 default)).map fun (n:Nat)=>(n:Int)).any (fun i=>p (l.getD i.toNat default))=l.any p:=by
 rw [Bool.eq_iff_iff,List.any_eq_true,List.any_eq_true]
 constructor
 ·rintro ⟨x,hx,h⟩
  obtain ⟨n,hn,rfl⟩:=List.mem_map.1 hx
  unfold fZ at hn
  obtain ⟨h1,_⟩:=List.mem_filter.1 hn
  rw [Int.toNat_natCast] at h
  exact ⟨_,bj (List.mem_range.1 h1),h⟩
 ·rintro ⟨t,ht,h⟩
  obtain ⟨i,hi,rfl⟩:=List.getElem_of_mem ht
  have e:l.getD i default=l[i]:=by simp [List.getD,hi]
  refine ⟨(i:Int),List.mem_map.2 ⟨i,List.mem_filter.2 ⟨List.mem_range.2 hi,decide_eq_true ?_⟩,rfl⟩,?_⟩
  ·rw [e]; exact hp _ h
  ·rw [Int.toNat_natCast,e]; exact h
attribute [local irreducible] aC ak bb a8 aL aQ az aR ba br Go.Abs.Fn aZ Go.Abs.Pure ax aH Yl
theorem sY (l:List Int) (p:Int→Bool) (g:Nat) (caps:List AV) (hd:∀ x ∈ caps,Dat x) (hg:∀ x ∈ l,Pure Tryz.prog g (.int .i64 x :: caps) (.bool (p x))) (hl:Shn l):Pure Tryz.prog 127 [cQ l,.func g caps] (.int .i64 (if l.any p then (l.findIdx p:Nat) else -1)):=by
 refine Pure.of_c2 follows ww (Nat.le_of_ble_eq_true rfl) ?_
 simp only [xJ,cO,cG,cN,cM,cD,cF,cB,aq,aG]
 have hl':l.length ≤ 17592186044416:=hl
 (have zz:=and_self; repeat' (first|refine zW ?_|apply a_n|refine zO ?_|refine vZ ?_|fail)) <;> (try clear zz)
 refine aS (X:=Nat) (fun k=>[(0,cQ l),(1,.func g caps),(6,cQ l),(7,.int .i64 l.length),(8,.int .i64 k)]) (fun k H nx=>k ≤ l.length∧∀ i,i < k→p (l.getD i default)=false) (fun k=>l.length - k) 0 ⟨Nat.zero_le _,fun i h=>absurd h (by omega)⟩ ag0 ?_
 rintro k H nx ⟨hk,hz⟩
 by_cases hk2:k < l.length
 rotate_left
 ·rw [fE fun i hi=>hz i (by omega),if_neg (by decide)]
  (have zz:=and_self; repeat' (first|refine zW ?_|apply a_n|apply a_x|refine zO ?_|refine vY ?_|(refine zGY ?_ ?_ <;> (intro _hg; try (exfalso; omega)))|refine ag rfl ?_|refine r1Y ?_|fail)) <;> (try clear zz)
  exact cA rfl
 have hc:=hg _ (aw hk2)
 cases hp:p (l.getD k default)
 ·rw [hp] at hc
  (have zz:=and_self; repeat' (first|refine zW ?_|apply a_n|refine zO ?_|refine vY ?_|(refine zGY ?_ ?_ <;> (intro _hg; try (exfalso; omega)))|fail)) <;> (try clear zz)
  refine bL ev0 ev0 hc (ac (ao (.int _ _) (an hd))) ?_
  (have zz:=and_self; repeat' (first|apply a_n|refine zO ?_|refine vY ?_|refine cFY ?_|fail)) <;> (try clear zz)
  exact ⟨k + 1,by omega,⟨by omega,fun i hi=>by
   rcases Nat.lt_succ_iff_lt_or_eq.1 hi with h | rfl
   ·exact hz i h
   ·exact hp⟩,ag0⟩
 ·rw [hp] at hc
  obtain ⟨e1,e2⟩:=eS hk2 hz hp
  rw [e1,e2,if_pos rfl]
  (have zz:=and_self; repeat' (first|refine zW ?_|apply a_n|refine zO ?_|refine vY ?_|(refine zGY ?_ ?_ <;> (intro _hg; try (exfalso; omega)))|fail)) <;> (try clear zz)
  refine bL ev0 ev0 hc (ac (ao (.int _ _) (an hd))) ?_
  (have zz:=and_self; repeat' (first|refine zW ?_|apply a_n|apply a_r|refine zO ?_|refine vY ?_|refine cTY ?_|refine ag rfl ?_|refine r1Y ?_|fail)) <;> (try clear zz)
  exact .int _ _
theorem oH (l:List Int) (p:Int→Bool) (g:Nat) (caps:List AV) (hd:∀ x ∈ caps,Dat x) (hg:∀ x ∈ l,Pure Tryz.prog g (.int .i64 x :: caps) (.bool (p x))) (hl:Shn l):Pure Tryz.prog 103 [cQ l,.func g caps] (.bool (l.any p)):=by
 refine Pure.of_c2 follows wA (Nat.le_of_ble_eq_true rfl) ?_
 simp only [xt,cO,cG,cN,cM,cD,cF,cB,aq,aG]
 have h:=sY l p g caps hd hg hl
 (have zz:=and_self; repeat' (first|refine zW ?_|apply a_n|refine zO ?_|refine vZ ?_|refine cZ ?_ (hp:=h) (hs:=by (first | refine aa ?_ rfl | apply ac); (repeat' (first | exact ab | apply aj | apply ae | exact gw _ | exact Dat.func hd)); first | done | fail)|refine ag rfl ?_|refine r1Z ?_|fail)) <;> (try clear zz)
 cases hA:l.any p
 ·exact bA (by simp)
 ·exact bA (by simp)
def OkS (l:List Spx):Prop:=l.length ≤ 100000∧∀ s ∈ l,b6 bt s∧s.length ≤ 1000
theorem rb (l:List Spx) (s:Spx) (i:Nat) (hl:OkS l) (hs:b6 bt s∧s.length ≤ 1000) (hi:i < l.length):Pure Tryz.prog 104 [.int .i64 i,.iptr [aD l] 0,.iptr [ap s] 0] (.bool (decide (s.length < (l.getD i default).length) && bv s (l.getD i default))):=by
 refine Pure.of_c2 follows wD (Nat.le_of_ble_eq_true rfl) ?_
 simp only [xT,cO,cG,cN,cM,cD,cF,cB,aq,aG]
 have ix:=iv hi
 obtain ⟨t1,t2⟩:=hl.2 _ (bj hi)
 have hf:=uU s (l.getD i default) hs.1 t1 (by omega) (by omega)
 generalize l.getD i default=t at *
 by_cases h:s.length < t.length
 ·have z:decide ((s.length:Int) < t.length)=true:=decide_eq_true (by omega)
  rw [decide_eq_true h,Bool.true_and]
  (have zz:=aI @ar (aI @ix @z); repeat' (first|refine zW ?_|refine zM ?_|apply a_n|refine zO ?_|refine vZ ?_|refine cZ ?_ (hp:=hf) (hs:=by (first | refine aa ?_ rfl | apply ac); (repeat' (first | exact ab | apply aj | apply ae | exact au _)); first | done | fail)|refine gTZ ?_|refine ag rfl ?_|refine r1Z ?_|fail)) <;> (try clear zz)
  exact .bool _
 ·have z:decide ((s.length:Int) < t.length)=false:=decide_eq_false (by omega)
  rw [decide_eq_false h,Bool.false_and]
  (have zz:=aI @ar (aI @ix @z); repeat' (first|refine zW ?_|refine zM ?_|apply a_n|refine zO ?_|refine vZ ?_|refine gFZ ?_|refine ag rfl ?_|refine r1Z ?_|fail)) <;> (try clear zz)
  exact .bool _
theorem nf (l:List Spx) (s:Spx) (hl:OkS l) (hs:b6 bt s∧s.length ≤ 1000) (h0:0 < s.length):Pure Tryz.prog 70 [aD l,cQ ((fZ l l.length (s.getD 0 default)).map fun (n:Nat)=>(n:Int)),ap s] (.bool (bm l s)):=by
 refine Pure.of_c2 follows Ao (Nat.le_of_ble_eq_true rfl) ?_
 simp only [b70,cO,cG,cN,cM,cD,cF,cB,aq,aG]
 have hll:=hl.1
 have h:=oH ((fZ l l.length (s.getD 0 default)).map fun (n:Nat)=>(n:Int)) (fun i=>decide (s.length < (l.getD i.toNat default).length) && bv s (l.getD i.toNat default)) 104 [.iptr [aD l] 0,.iptr [ap s] 0] (DatL.cons (Dat.iptr (DatL.cons (bo _) DatL.nil)) (DatL.cons (Dat.iptr (DatL.cons (au _) DatL.nil)) DatL.nil)) (fun x hx=>by
  obtain ⟨n,hn,rfl⟩:=List.mem_map.1 hx
  have hn2:n < l.length:=List.mem_range.1 (List.mem_filter.1 hn).1
  rw [Int.toNat_natCast]
  exact rb l s n hl hs hn2) (by rw [Shn,List.length_map]; have:=oN (l:=l) (i:=l.length) (v:=s.getD 0 default); omega)
 rw [vX (p:=fun t=>decide (s.length < t.length) && bv s t) h0 (fun t ht=>by
  rw [Bool.and_eq_true,dW] at ht
  exact ht.2 _ (bj h0))] at h
 (have zz:=aI @aJ (aI @ay (aI @aP @aF)); repeat' (first|refine zW ?_|apply a_n|refine zO ?_|refine vZ ?_|refine bxZ ?_|fail)) <;> (try clear zz)
 refine bL (have zz:=aI @aJ (aI @ay (aI @aP @aF)); evZ) (have zz:=aI @aJ (aI @ay (aI @aP @aF)); evZ) h (aa (ao (gw _ _) (ao (gP (ao (dX rfl rfl (ao (bo _ _) ab)) (ao (dX rfl rfl (ao (au _ _) ab)) ab))) ab)) rfl) ?_
 (have zz:=and_self; repeat' (first|apply a_n|refine zO ?_|refine vZ ?_|refine ag rfl ?_|refine r1Z ?_|fail)) <;> (try clear zz)
 exact .bool _
end Go.Proofs.YtbgdcebmgjafjaaGreat
namespace Go.Proofs.YtbgdcebmgjafjaaGreat
open Go Go.Abs
theorem rP {H:Hp} {sv:AV} {F:List Nat} (h:Row H 1 sv (F.map vE)):Snap H sv (cQ (F.map fun (n:Nat)=>(n:Int))):=by
 refine Row.snapI ?_
 rw [List.map_map]; exact h
theorem rk {c:List Spx} {k:Nat}:lu c k=if bn (c.getD k default) ≠ 0 then bn (c.getD k default) else if 0 < k∧0 ≤ bK (c.getD (k - 1) default) (c.getD k default) then 14 else 0:=rfl
theorem xG {c:List Spx} (h1:c.length ≤ 4096) (h:∀ s ∈ c,bn s=0):OkS c:=⟨by omega,fun s hs=>by
 obtain ⟨a1,a2,a3,a4⟩:=bC (h s hs)
 exact ⟨a3,by omega⟩⟩
theorem oO {H:Hp} {b:Nat} {cs:List AV} (h:H b=some cs):Sub (only b cs) H:=fun x c hx=>by
 unfold only at hx
 split at hx
 ·rename_i e; rw [e,h]; exact hx
 ·cases hx
def on2 (b1:Nat) (c1:List AV) (b2:Nat) (c2:List AV):Hp:=fun x=>if x=b1 then some c1 else if x=b2 then some c2 else none
theorem yJ {b1 b2:Nat} {c1 c2:List AV}:on2 b1 c1 b2 c2 b1=some c1:=if_pos rfl
theorem yS {b1 b2:Nat} {c1 c2:List AV} (h:b2 ≠ b1):on2 b1 c1 b2 c2 b2=some c2:=by unfold on2; rw [if_neg h,if_pos rfl]
theorem rC {b1 b2:Nat} {c1 c2:List AV} {H:Hp} (h1:H b1=some c1) (h2:H b2=some c2):Sub (on2 b1 c1 b2 c2) H:=fun x cs h=>by
 unfold on2 at h
 split at h
 ·rename_i e; rw [e,h1]; exact h
 ·split at h
  ·rename_i e; rw [e,h2]; exact h
  ·cases h
theorem k9 {P:Program} {T:Tm} {H:Hp} {nx:Nat} (b1 b2:Nat) {c1 c2:List AV} {K:CP} {m:Nat} {l:List Op2} {C:List (Nat × Nat)} (h1:H b1=some c1) (h2:H b2=some c2) (hne:b2 ≠ b1) (k:∀ S:Hp,S b1=some c1→S b2=some c2→(∀ H':Hp,H' b1=some c1→H' b2=some c2→Sub S H')→aX P S (C.map fun k=>(l.getD k.1 ⟨none,none,.dead⟩,k.2)) T H nx fun T H nx=>K .normal T H nx):aC P (.mixS m l C) T H nx K :=
 um (on2 b1 c1 b2 c2) rfl (rC h1 h2) (k _ yJ (yS hne) fun _ a b=>rC a b)
theorem lL {P:Program} {T:Tm} {H:Hp} {nx:Nat} (b:Nat) {c:List AV} {K:CP} {m:Nat} {l:List Op2} {C:List (Nat × Nat)} (h:H b=some c) (k:∀ S:Hp,S b=some c→(∀ H':Hp,H' b=some c→Sub S H')→aX P S (C.map fun k=>(l.getD k.1 ⟨none,none,.dead⟩,k.2)) T H nx fun T H nx=>K .normal T H nx):aC P (.mixS m l C) T H nx K :=
 um (only b c) rfl (oO h) (k _ je fun _ h=>oO h)
attribute [local irreducible] aC ak bb a8 aL aQ az aR ba br Go.Abs.Fn aZ Go.Abs.Pure ax aH Yl
set_option maxHeartbeats 2000000 in
theorem gB (c:List Spx) (hc:Shn c) (hs:∀ s ∈ c,Shn s):Pure Tryz.prog 29 [d8 c] (.int .i64 (bc c)):=by
 refine Pure.of_c2 follows yz (Nat.le_of_ble_eq_true rfl) ?_
 simp only [b29,cO,cG,cN,cM,cD,cF,cB,aq,aG]
 have hc':c.length ≤ 17592186044416:=hc
 by_cases h0:4096 < c.length
 ·rw [show bc c=5 by unfold bc; rw [if_pos h0]]
  (have zz:=aI @aK (aI @aJ @ay); repeat' (first|refine zW ?_|apply a_n|apply a_r|refine zO ?_|refine vZ ?_|refine bxZ ?_|(refine zGZ ?_ ?_ <;> (intro _hg; try (exfalso; omega)))|refine ag rfl ?_|refine r1Z ?_|fail)) <;> (try clear zz)
  all_goals exact cA rfl
 rw [show bc c=if cg (lu c) c.length ≠ 0 then cg (lu c) c.length else if c.any (bm c)=true then 7 else 0 by unfold bc; rw [if_neg h0]]
 refine ee ?_
 (have zz:=aI @aK (aI @aJ @ay); repeat' (first|apply a_n|refine zO ?_|refine vZ ?_|refine bxZ ?_|fail)) <;> (try clear zz)
 refine ee (ee ?_)
 (have zz:=aI @aK (aI @aJ @ay); repeat' (first|apply a_n|refine zO ?_|refine vZ ?_|(refine zGZ ?_ ?_ <;> (intro _hg; try (exfalso; omega)))|fail)) <;> (try clear zz)
 by_cases hz:cg (lu c) c.length ≠ 0
 ·rw [if_pos hz]
  (have zz:=aI @aK (aI @aJ @ay); repeat' (first|refine zW ?_|apply a_n|refine zO ?_|refine vZ ?_|fail)) <;> (try clear zz)
  refine aS (X:=Nat) (fun k=>[(1,.ptr 0 1 0),(14,aD c),(15,.int .i64 c.length),(16,.int .i64 k)]) (fun k H nx=>k ≤ c.length∧H 0=some [aD c]∧∀ i,i < k→lu c i=0) (fun k=>c.length - k) 0 ⟨Nat.zero_le _,rfl,fun i h=>absurd h (by omega)⟩ (by (iterate 4 refine And.intro rfl ?_); trivial) ?_
  rintro k H nx ⟨h1,g0,h2⟩
  by_cases hk:k < c.length
  rotate_left
  ·exact absurd (c6 fun i hi=>h2 i (by omega)) hz
  have ix:=iv hk
  have hs1:=hs _ (bj hk)
  have hp:=d7 (c.getD k default) hs1
  have hsp:=rk (c:=c) (k:=k)
  by_cases he:bn (c.getD k default) ≠ 0
  ·rw [if_pos he] at hsp
   rw [cW hk h2 (by rw [hsp]; exact he),hsp]
   have z:decide (bn (c.getD k default) ≠ 0)=true:=decide_eq_true he
   (have zz:=aI @aK (aI @ix @z); repeat' (first|refine zW ?_|apply a_n|apply a_r|refine zO ?_|refine vY ?_|refine cY ?_ (hp:=hp) (hs:=by (first | refine aa ?_ rfl | apply ac); (repeat' (first | exact ab | apply aj | apply ae | exact au _)); first | done | fail)|refine cTY ?_|(refine zGY ?_ ?_ <;> (intro _hg; try (exfalso; omega)))|refine ag rfl ?_|refine r1Y ?_|fail)) <;> (try clear zz)
   exact .int _ _
  rw [if_neg he] at hsp
  have he:=Decidable.of_not_not he
  rw [he] at hp
  have z:decide ((0:Int) ≠ 0)=false:=rfl
  by_cases hk0:0 < k
  rotate_left
  ·rw [if_neg (fun h=>hk0 h.1)] at hsp
   have zk:decide (0 < (k:Int))=false:=decide_eq_false (by omega)
   (have zz:=aI @aK (aI @ix (aI @z @zk)); repeat' (first|refine zW ?_|apply a_n|refine zO ?_|refine vY ?_|refine cY ?_ (hp:=hp) (hs:=by (first | refine aa ?_ rfl | apply ac); (repeat' (first | exact ab | apply aj | apply ae | exact au _)); first | done | fail)|refine gFY ?_|refine cFY ?_|(refine zGY ?_ ?_ <;> (intro _hg; try (exfalso; omega)))|fail)) <;> (try clear zz)
   exact ⟨k + 1,by omega,⟨by omega,g0,fun i hi=>by
    rcases Nat.lt_succ_iff_lt_or_eq.1 hi with h' | rfl
    ·exact h2 i h'
    ·exact hsp⟩,ag0⟩
  have zk:decide (0 < (k:Int))=true:=decide_eq_true (by omega)
  have iy:d5 1 (aD c) (.int .i64 ((k:Int) - 1))=some (.iptr [ap (c.getD (k - 1) default)] 0):=by
   have:=iv (l:=c) (k:=k - 1) (by omega)
   rwa [show ((k - 1:Nat):Int)=(k:Int) - 1 by omega] at this
  have hcm:=jw (c.getD (k - 1) default) (c.getD k default) (hs _ (bj (by omega))) hs1
  by_cases hv:0 ≤ bK (c.getD (k - 1) default) (c.getD k default)
  ·have z2:decide (0 ≤ bK (c.getD (k - 1) default) (c.getD k default))=true:=decide_eq_true hv
   rw [if_pos ⟨hk0,hv⟩] at hsp
   rw [cW hk h2 (by rw [hsp]; decide),hsp]
   (have zz:=aI @aK (aI @ix (aI @iy (aI @z (aI @zk (aI @z2 @g0))))); repeat' (first|refine zW ?_|apply a_n|apply a_r|refine zO ?_|refine vY ?_|refine cY ?_ (hp:=by first | exact hp | exact hcm) (hs:=by (first | refine aa ?_ rfl | apply ac); (repeat' (first | exact ab | apply aj | apply ae | exact au _)); first | done | fail)|refine gTY ?_|refine cTY ?_|refine cFY ?_|(refine zGY ?_ ?_ <;> (intro _hg; try (exfalso; omega)))|refine ag rfl ?_|refine r1Y ?_|fail)) <;> (try clear zz)
   exact .int _ _
  ·have z2:decide (0 ≤ bK (c.getD (k - 1) default) (c.getD k default))=false:=decide_eq_false hv
   rw [if_neg (fun h=>hv h.2)] at hsp
   (have zz:=aI @aK (aI @ix (aI @iy (aI @z (aI @zk (aI @z2 @g0))))); repeat' (first|refine zW ?_|apply a_n|refine zO ?_|refine vY ?_|refine cY ?_ (hp:=by first | exact hp | exact hcm) (hs:=by (first | refine aa ?_ rfl | apply ac); (repeat' (first | exact ab | apply aj | apply ae | exact au _)); first | done | fail)|refine gTY ?_|refine cFY ?_|(refine zGY ?_ ?_ <;> (intro _hg; try (exfalso; omega)))|fail)) <;> (try clear zz)
   exact ⟨k + 1,by omega,⟨by omega,g0,fun i hi=>by
    rcases Nat.lt_succ_iff_lt_or_eq.1 hi with h' | rfl
    ·exact h2 i h'
    ·exact hsp⟩,ag0⟩
 have hz:=Decidable.of_not_not hz
 rw [if_neg (fun h=>h hz)]
 obtain ⟨a1,a2⟩:=vo hz
 have hall:=eH hz
 have hok:=xG (by omega) a1
 refine aN (fun T H nx=>T 1=.ptr 0 1 0∧H 0=some [aD c]∧1 ≤ nx) ?_ ?_
 ·(have zz:=aI @aK (aI @aJ @ay); repeat' (first|refine zW ?_|apply a_n|refine zO ?_|refine vZ ?_|fail)) <;> (try clear zz)
  refine aS (X:=Nat) (fun k=>[(1,.ptr 0 1 0),(14,aD c),(15,.int .i64 c.length),(16,.int .i64 k)]) (fun k H nx=>k ≤ c.length∧H 0=some [aD c]∧1 ≤ nx) (fun k=>c.length - k) 0 ⟨Nat.zero_le _,rfl,by omega⟩ (by (iterate 4 refine And.intro rfl ?_); trivial) ?_
  rintro k H nx ⟨h1,g0,hnx⟩
  by_cases hk:k < c.length
  rotate_left
  ·(have zz:=and_self; repeat' (first|refine zW ?_|apply a_n|apply a_x|refine zO ?_|refine vY ?_|(refine zGY ?_ ?_ <;> (intro _hg; try (exfalso; omega)))|fail)) <;> (try clear zz)
   exact ⟨rfl,g0,hnx⟩
  have ix:=iv hk
  have hs1:=hs _ (bj hk)
  have hp:=d7 (c.getD k default) hs1
  rw [a1 _ (bj hk)] at hp
  have z:decide ((0:Int) ≠ 0)=false:=rfl
  by_cases hk0:0 < k
  rotate_left
  ·have zk:decide (0 < (k:Int))=false:=decide_eq_false (by omega)
   (have zz:=aI @aK (aI @ix (aI @z @zk)); repeat' (first|refine zW ?_|apply a_n|refine zO ?_|refine vY ?_|refine cY ?_ (hp:=hp) (hs:=by (first | refine aa ?_ rfl | apply ac); (repeat' (first | exact ab | apply aj | apply ae | exact au _)); first | done | fail)|refine gFY ?_|refine cFY ?_|(refine zGY ?_ ?_ <;> (intro _hg; try (exfalso; omega)))|fail)) <;> (try clear zz)
   exact ⟨k + 1,by omega,⟨by omega,g0,hnx⟩,ag0⟩
  have zk:decide (0 < (k:Int))=true:=decide_eq_true (by omega)
  have iy:d5 1 (aD c) (.int .i64 ((k:Int) - 1))=some (.iptr [ap (c.getD (k - 1) default)] 0):=by
   have:=iv (l:=c) (k:=k - 1) (by omega)
   rwa [show ((k - 1:Nat):Int)=(k:Int) - 1 by omega] at this
  have hcm:=jw (c.getD (k - 1) default) (c.getD k default) (hs _ (bj (by omega))) hs1
  have z2:decide (0 ≤ bK (c.getD (k - 1) default) (c.getD k default))=false:=decide_eq_false (by have:=eJ a2 (i:=k - 1) (j:=k) (by omega) hk; omega)
  (have zz:=aI @aK (aI @ix (aI @iy (aI @z (aI @zk (aI @z2 @g0))))); repeat' (first|refine zW ?_|apply a_n|refine zO ?_|refine vY ?_|refine cY ?_ (hp:=by first | exact hp | exact hcm) (hs:=by (first | refine aa ?_ rfl | apply ac); (repeat' (first | exact ab | apply aj | apply ae | exact au _)); first | done | fail)|refine gTY ?_|refine cFY ?_|(refine zGY ?_ ?_ <;> (intro _hg; try (exfalso; omega)))|fail)) <;> (try clear zz)
  exact ⟨k + 1,by omega,⟨by omega,g0,hnx⟩,ag0⟩
 rintro T H nx ⟨t1,g0,hnx⟩
 (have zz:=aI @t1 @g0; repeat' (first|refine zW ?_|apply a_n|refine zO ?_|refine vY ?_|fail)) <;> (try clear zz)
 refine av ev0 (have zz:=@t1; evZ) (kp c hok.1 (fun s hs=>⟨(hok.2 s hs).1,by have:=(hok.2 s hs).2; omega⟩) _ _) ?_
 rintro _ H1 nx1 ⟨ks,vs,rfl,hinc,hsame,hlt⟩
 have g0':H1 0=some [aD c]:=(hsame 0 (by omega)).trans g0
 (have zz:=aI @t1 (aI @g0' @aK); repeat' (first|refine zW ?_|apply a_n|refine zO ?_|refine vY ?_|fail)) <;> (try clear zz)
 refine aS (X:=Nat) (fun k=>[(1,.ptr 0 1 0),(6,.mp nx),(44,aD c),(45,.int .i64 c.length),(46,.int .i64 k)]) (fun k H' nx'=>k ≤ c.length∧H'=H1∧nx'=nx1∧∀ i,i < k→bm c (c.getD i default)=false) (fun k=>c.length - k) 0 ⟨Nat.zero_le _,rfl,rfl,fun i h=>absurd h (by omega)⟩ (have zz:=@t1; agZ) ?_
 rintro k H' nx' ⟨h1,rfl,rfl,h2⟩
 by_cases hk:k < c.length
 rotate_left
 ·rw [fE fun i hi=>h2 i (by omega),if_neg (by decide)]
  (have zz:=and_self; repeat' (first|refine zW ?_|apply a_n|apply a_x|refine zO ?_|refine vY ?_|(refine zGY ?_ ?_ <;> (intro _hg; try (exfalso; omega)))|refine ag rfl ?_|refine r1Y ?_|fail)) <;> (try clear zz)
  exact .int _ _
 have ix:=iv hk
 obtain ⟨p1,p2,p3,p4⟩:=bC (a1 _ (bj hk))
 have hcv:=nf c (c.getD k default) hok (hok.2 _ (bj hk)) (by omega)
 have iy:=ix2 (l:=c.getD k default) (k:=0) (by omega)
 rw [show ((0:Nat):Int)=0 from rfl] at iy
 have hks:(c.getD k default).getD 0 default ∈ ks:=(hinc.dom _).2 fun e=>by
  have:k ∈ fZ c c.length ((c.getD k default).getD 0 default):=List.mem_filter.2 ⟨List.mem_range.2 hk,decide_eq_true (bj (by omega))⟩
  rw [e] at this; cases this
 have hmf:=kT ((c.getD k default).getD 0 default) ks
 rw [if_pos hks] at hmf
 obtain ⟨m1,m2⟩:=gS hks
 have hr:=hinc.row _ m1
 rw [m2] at hr
 have hcb:bm c (c.getD k default)=true→c.any (bm c)=true:=fun h=>List.any_eq_true.2 ⟨_,bj hk,h⟩
 generalize hsk:c.getD k default=s at *
 (have zz:=@ix; repeat' (first|refine zW ?_|apply a_n|refine zO ?_|refine vY ?_|(refine zGY ?_ ?_ <;> (intro _hg; try (exfalso; omega)))|fail)) <;> (try clear zz)
 refine lL 0 g0' fun S hS0 hsub'=>?_
 have hsub:=hsub' H' g0'
 (have zz:=aI @hS0 @iy; repeat' (first|apply a_n|refine zO ?_|refine nvY ?_|fail)) <;> (try clear zz)
 refine im ?_
 refine n6 ev0 hinc.box ev0 (lJ _) hmf ?_
 refine ng ⟨hsub,?_⟩
 rw [show mget .esl false (some (ks.idxOf (s.getD 0 default))) vs=vs.getD (ks.idxOf (s.getD 0 default)) .undef from rfl]
 refine jW ?_
 cases hb:bm c s
 ·rw [hb] at hcv
  refine bL ev0 ev0 hcv (aa (ao (bo _ _) (ao (rP hr) (ao (au _ _) ab))) rfl) ?_
  (have zz:=and_self; repeat' (first|apply a_n|refine zO ?_|refine vY ?_|refine cFY ?_|fail)) <;> (try clear zz)
  exact ⟨k + 1,by omega,⟨by omega,rfl,rfl,fun i hi=>by
   rcases Nat.lt_succ_iff_lt_or_eq.1 hi with h' | rfl
   ·exact h2 i h'
   ·rw [hsk]; exact hb⟩,ag0⟩
 ·rw [hb] at hcv
  rw [hcb hb,if_pos rfl]
  refine bL ev0 ev0 hcv (aa (ao (bo _ _) (ao (rP hr) (ao (au _ _) ab))) rfl) ?_
  (have zz:=and_self; repeat' (first|refine zW ?_|apply a_n|apply a_r|refine zO ?_|refine vY ?_|refine cTY ?_|refine ag rfl ?_|refine r1Y ?_|fail)) <;> (try clear zz)
  exact .int _ _
end Go.Proofs.YtbgdcebmgjafjaaGreat
namespace Go.Proofs.YtbgdcebmgjafjaaGreat
open Go Go.Abs
open Nat (reduceEqDiff reduceAdd reduceLeDiff)
attribute [local irreducible] aC ak bb a8 aL aQ az aR ba br Go.Abs.Fn aZ Go.Abs.Pure ax aH Yl
end Go.Proofs.YtbgdcebmgjafjaaGreat
namespace Go.Proofs.YtbgdcebmgjafjaaGreat
open Go Go.Abs
structure MapV where
 fr:Spx
 to:Spx
 deriving Inhabited,DecidableEq
abbrev mR (m:MapV):AV:=.agg [ap m.fr,ap m.to]
theorem cC (m:MapV):Dat (mR m):=Dat.agg (DatL.cons (au _) (DatL.cons (au _) DatL.nil))
instance datI_encM {m:MapV}:DatI (mR m):=⟨cC m⟩
abbrev ShM (m:MapV):Prop:=Shn m.fr∧Shn m.to
def qI (m:MapV) (k:Nat):Int:=if bD (m.fr.getD k default)=false ∨ bD (m.to.getD k default)=false then 2 else if 0 < k∧0 ≤ bt (m.fr.getD (k - 1) default) (m.fr.getD k default) then 14 else 0
def dL (m:MapV):Int:=if 4096 < m.fr.length then 5 else if m.to.length ≠ m.fr.length then 15 else cg (qI m) m.fr.length
theorem l4 {m:MapV} (h:dL m=0):m.fr.length ≤ 4096∧m.to.length=m.fr.length∧b6 bt m.fr∧(∀ v ∈ m.fr,bD v=true)∧∀ v ∈ m.to,bD v=true:=by
 unfold dL at h
 split at h
 ·exact absurd h (by decide)
 split at h
 ·exact absurd h (by decide)
 rename_i h1 h2
 have h2:=Decidable.of_not_not h2
 have hz:=eH h
 have h3:∀ k,k < m.fr.length→(bD (m.fr.getD k default)=true∧bD (m.to.getD k default)=true)∧(0 < k→bt (m.fr.getD (k - 1) default) (m.fr.getD k default) < 0):=fun k hk=>by
  have:=hz k hk
  unfold qI at this
  split at this
  ·exact absurd this (by decide)
  rename_i g1
  split at this
  ·exact absurd this (by decide)
  rename_i g2
  exact ⟨⟨by cases hr:bD (m.fr.getD k default) with
   | true=>rfl
   | false=>exact absurd (.inl hr) g1,by cases hr:bD (m.to.getD k default) with
   | true=>rfl
   | false=>exact absurd (.inr hr) g1⟩,fun h0=>by omega⟩
 refine ⟨by omega,h2,?_,fun v hv=>?_,fun v hv=>?_⟩
 ·have step:∀ j i,i < j→j < m.fr.length→bt (m.fr.getD i default) (m.fr.getD j default) < 0:=by
    intro j
    induction j with
    | zero=>intro i h; omega
    | succ j ih =>
     intro i hi hj
     have hs:=(h3 (j + 1) hj).2 (by omega)
     rw [Nat.add_sub_cancel] at hs
     by_cases e:i=j
     ·subst e; exact hs
     ·exact oJ.trans (ih i (by omega) (by omega)) hs
  unfold b6
  rw [List.pairwise_iff_getElem]
  intro i j hi hj hij
  have:=step j i hij hj
  simpa [List.getD,hi,hj] using this
 ·obtain ⟨i,hi,rfl⟩:=List.getElem_of_mem hv
  have:=(h3 i hi).1.1
  simpa [List.getD,hi] using this
 ·obtain ⟨i,hi,rfl⟩:=List.getElem_of_mem hv
  have:=(h3 i (by omega)).1.2
  simpa [List.getD,hi] using this
def iK (m:MapV) (v:Vtx):Vtx:=m.to.getD (m.fr.idxOf v) default
def uR (m:MapV):Bool:=decide (m.fr.length ≤ 40) && decide (m.to.length ≤ 40)
theorem qB {m:MapV} {k:Nat}:qI m k=if bD (m.fr.getD k default)=false ∨ bD (m.to.getD k default)=false then 2 else if 0 < k∧0 ≤ bt (m.fr.getD (k - 1) default) (m.fr.getD k default) then 14 else 0:=rfl
attribute [local irreducible] aC ak bb a8 aL aQ az aR ba br Go.Abs.Fn aZ Go.Abs.Pure ax aH Yl
theorem pM (m:MapV) (hm:ShM m):Pure Tryz.prog 34 [mR m] (.int .i64 (dL m)):=by
 refine Pure.of_c2 follows yt (Nat.le_of_ble_eq_true rfl) ?_
 simp only [b34,cO,cG,cN,cM,cD,cF,cB,aq,aG]
 obtain ⟨hm1,hm2⟩:=hm
 have hm1':m.fr.length ≤ 17592186044416:=hm1
 have hm2':m.to.length ≤ 17592186044416:=hm2
 by_cases h0:4096 < m.fr.length
 ·rw [show dL m=5 by unfold dL; rw [if_pos h0]]
  (have zz:=aI @ar (aI @aP @aF); repeat' (first|refine zW ?_|apply a_n|apply a_r|refine zO ?_|refine vZ ?_|refine bxZ ?_|(refine zGZ ?_ ?_ <;> (intro _hg; try (exfalso; omega)))|refine ag rfl ?_|refine r1Z ?_|fail)) <;> (try clear zz)
  all_goals exact cA rfl
 by_cases h8:m.to.length ≠ m.fr.length
 ·rw [show dL m=15 by unfold dL; rw [if_neg h0,if_pos h8]]
  have z:decide ((m.to.length:Int) ≠ m.fr.length)=true:=decide_eq_true (by omega)
  (have zz:=aI @ar (aI @aP (aI @aF @z)); repeat' (first|refine zW ?_|apply a_n|apply a_r|refine zO ?_|refine vZ ?_|refine bxZ ?_|refine cTZ ?_|(refine zGZ ?_ ?_ <;> (intro _hg; try (exfalso; omega)))|refine ag rfl ?_|refine r1Z ?_|fail)) <;> (try clear zz)
  all_goals exact cA rfl
 rw [show dL m=cg (qI m) m.fr.length by unfold dL; rw [if_neg h0,if_neg h8]]
 have h8':=Decidable.of_not_not h8
 have z:decide ((m.to.length:Int) ≠ m.fr.length)=false:=decide_eq_false (by omega)
 (have zz:=aI @ar (aI @aP (aI @aF @z)); repeat' (first|refine zW ?_|apply a_n|refine zO ?_|refine vZ ?_|refine bxZ ?_|refine cFZ ?_|(refine zGZ ?_ ?_ <;> (intro _hg; try (exfalso; omega)))|fail)) <;> (try clear zz)
 refine aS (X:=Nat) (fun k=>[(1,.ptr 0 2 0),(19,ap m.fr),(20,.int .i64 m.fr.length),(21,.int .i64 k)]) (fun k H nx=>k ≤ m.fr.length∧H 0=some [ap m.fr,ap m.to]∧1 ≤ nx∧∀ i,i < k→qI m i=0) (fun k=>m.fr.length - k) 0 ⟨Nat.zero_le _,rfl,by omega,fun i h=>absurd h (by omega)⟩ (by (iterate 4 refine And.intro rfl ?_); trivial) ?_
 rintro k H nx ⟨h1,g0,hnx,h2⟩
 by_cases hk:k < m.fr.length
 rotate_left
 ·rw [c6 fun i hi=>h2 i (by omega)]
  (have zz:=@ar; repeat' (first|refine zW ?_|apply a_n|apply a_x|refine zO ?_|refine vY ?_|(refine zGY ?_ ?_ <;> (intro _hg; try (exfalso; omega)))|refine ag rfl ?_|refine r1Y ?_|fail)) <;> (try clear zz)
  exact .int _ _
 have ix:=ix2 hk
 have it:=ix2 (l:=m.to) (k:=k) (by omega)
 have hp:=qj (m.fr.getD k default)
 have hq:=qj (m.to.getD k default)
 have hs:=qB (m:=m) (k:=k)
 have done:qI m k=0→∀ i,i < k + 1→qI m i=0:=fun h i hi=>by
  rcases Nat.lt_succ_iff_lt_or_eq.1 hi with h' | rfl
  ·exact h2 i h'
  ·exact h
 cases hr:bD (m.fr.getD k default)
 ·rw [hr] at hp
  rw [if_pos (.inl hr)] at hs
  rw [cW hk h2 (by rw [hs]; decide),hs]
  (have zz:=aI @ar (aI @ix (aI @it @g0)); repeat' (first|refine zW ?_|apply a_n|apply a_r|refine zO ?_|refine vY ?_|refine cY ?_ (hp:=hp) (hs:=by (first | refine aa ?_ rfl | apply ac); (repeat' (first | exact ab | apply aj | apply ae | exact bx _)); first | done | fail)|refine alY ?_|refine stY ?_|refine gFY ?_|refine cTY ?_|(refine zGY ?_ ?_ <;> (intro _hg; try (exfalso; omega)))|refine ag rfl ?_|refine r1Y ?_|fail)) <;> (try clear zz)
  exact .int _ _
 rw [hr] at hp
 cases hr2:bD (m.to.getD k default)
 ·rw [hr2] at hq
  rw [if_pos (.inr hr2)] at hs
  rw [cW hk h2 (by rw [hs]; decide),hs]
  (have zz:=aI @ar (aI @ix (aI @it @g0)); repeat' (first|refine zW ?_|apply a_n|apply a_r|refine zO ?_|refine vY ?_|refine cY ?_ (hp:=by first | exact hp | exact hq) (hs:=by (first | refine aa ?_ rfl | apply ac); (repeat' (first | exact ab | apply aj | apply ae | exact bx _)); first | done | fail)|refine alY ?_|refine stY ?_|refine gTY ?_|refine cTY ?_|(refine zGY ?_ ?_ <;> (intro _hg; try (exfalso; omega)))|refine ag rfl ?_|refine r1Y ?_|fail)) <;> (try clear zz)
  exact .int _ _
 rw [hr2] at hq
 rw [if_neg (by rw [hr,hr2]; rintro (h | h) <;> cases h)] at hs
 have gk:∀ {cs:List AV},ah H nx cs 0=some [ap m.fr,ap m.to]:=fun {cs}=>by rw [af (by omega)]; exact g0
 by_cases hk0:0 < k
 rotate_left
 ·rw [if_neg (fun h=>hk0 h.1)] at hs
  have zk:decide (0 < (k:Int))=false:=decide_eq_false (by omega)
  (have zz:=aI @ar (aI @ix (aI @it (aI @zk @g0))); repeat' (first|refine zW ?_|refine zM ?_|apply a_n|refine zO ?_|refine vY ?_|refine cY ?_ (hp:=by first | exact hp | exact hq) (hs:=by (first | refine aa ?_ rfl | apply ac); (repeat' (first | exact ab | apply aj | apply ae | exact bx _)); first | done | fail)|refine alY ?_|refine stY ?_|refine gTY ?_|refine gFY ?_|refine cFY ?_|(refine zGY ?_ ?_ <;> (intro _hg; try (exfalso; omega)))|fail)) <;> (try clear zz)
  exact ⟨k + 1,by omega,⟨by omega,by (repeat rw [af (by omega)]); exact g0,by omega,done hs⟩,ag0⟩
 have zk:decide (0 < (k:Int))=true:=decide_eq_true (by omega)
 have iy:d5 2 (ap m.fr) (.int .i64 ((k:Int) - 1))=some (.iptr [.int .i64 (m.fr.getD (k - 1) default).color,.int .i64 (m.fr.getD (k - 1) default).label] 0):=by
  have:=ix2 (l:=m.fr) (k:=k - 1) (by omega)
  rwa [show ((k - 1:Nat):Int)=(k:Int) - 1 by omega] at this
 have hc:=mC (m.fr.getD (k - 1) default) (m.fr.getD k default)
 by_cases hv:0 ≤ bt (m.fr.getD (k - 1) default) (m.fr.getD k default)
 ·have z:decide (0 ≤ bt (m.fr.getD (k - 1) default) (m.fr.getD k default))=true:=decide_eq_true hv
  rw [if_pos ⟨hk0,hv⟩] at hs
  rw [cW hk h2 (by rw [hs]; decide),hs]
  (have zz:=aI @ar (aI @ix (aI @it (aI @iy (aI @zk (aI @z @g0))))); repeat' (first|refine zW ?_|refine zM ?_|apply a_n|apply a_r|refine zO ?_|refine vY ?_|refine cY ?_ (hp:=by first | exact hp | exact hq | exact hc) (hs:=by (first | refine aa ?_ rfl | apply ac); (repeat' (first | exact ab | apply aj | apply ae | exact bx _)); first | done | fail)|refine alY ?_|refine stY ?_|refine gTY ?_|refine cTY ?_|refine cFY ?_|(refine zGY ?_ ?_ <;> (intro _hg; try (exfalso; omega)))|refine ag rfl ?_|refine r1Y ?_|fail)) <;> (try clear zz)
  exact .int _ _
 ·have z:decide (0 ≤ bt (m.fr.getD (k - 1) default) (m.fr.getD k default))=false:=decide_eq_false hv
  rw [if_neg (fun h=>hv h.2)] at hs
  (have zz:=aI @ar (aI @ix (aI @it (aI @iy (aI @zk (aI @z @g0))))); repeat' (first|refine zW ?_|refine zM ?_|apply a_n|refine zO ?_|refine vY ?_|refine cY ?_ (hp:=by first | exact hp | exact hq | exact hc) (hs:=by (first | refine aa ?_ rfl | apply ac); (repeat' (first | exact ab | apply aj | apply ae | exact bx _)); first | done | fail)|refine alY ?_|refine stY ?_|refine gTY ?_|refine cFY ?_|(refine zGY ?_ ?_ <;> (intro _hg; try (exfalso; omega)))|fail)) <;> (try clear zz)
  exact ⟨k + 1,by omega,⟨by omega,by (repeat rw [af (by omega)]); exact g0,by omega,done hs⟩,ag0⟩
theorem xN (m:MapV) (hm:ShM m):Pure Tryz.prog 9 [mR m] (.bool (uR m)):=by
 refine Pure.of_c2 follows is9 (Nat.le_of_ble_eq_true rfl) ?_
 simp only [b9,cO,cG,cN,cM,cD,cF,cB,aq,aG]
 unfold uR
 (have zz:=aI @ar (aI @aP @aF); repeat' (first|refine zW ?_|apply a_n|refine zO ?_|refine vZ ?_|refine bxZ ?_|refine gTZ ?_|refine gFZ ?_|(refine zGZ ?_ ?_ <;> (intro _hg; try (exfalso; omega)))|refine ag rfl ?_|refine r1Z ?_|fail)) <;> (try clear zz)
 all_goals (refine bA ?_; rw [Bool.eq_iff_iff]; simp only [Bool.and_eq_true,decide_eq_true_iff,Bool.false_eq_true,false_iff]; omega)
theorem ip {H:Hp} {a b:Bool} {e f:Int} (h1:a=b) (h2:e=f):Snap H (.tup [.bool a,.int .i64 e]) (.tup [.bool b,.int .i64 f]):=by
 subst h1 h2; exact jc (ao (.bool _) (ao (.int _ _) ab))
def bV (m:MapV) (l:Spx):Bool:=l.all fun v=>decide (v ∈ m.fr)
end Go.Proofs.YtbgdcebmgjafjaaGreat
namespace Go.Proofs.YtbgdcebmgjafjaaGreat
open Go Go.Abs
def bW (m:MapV) (l:Spx):Spx:=eI bt (l.map (iK m))
theorem uI {m:MapV} {v:Vtx} (h:m.to.length=m.fr.length) (hv:v ∈ m.fr):iK m v ∈ m.to:=by
 have:=(gS hv).1
 exact bj (by omega)
attribute [local irreducible] aC ak bb a8 aL aQ az aR ba br Go.Abs.Fn aZ Go.Abs.Pure ax aH Yl
end Go.Proofs.YtbgdcebmgjafjaaGreat
namespace Go.Proofs.YtbgdcebmgjafjaaGreat
open Go Go.Abs
open Nat (reduceEqDiff reduceAdd reduceLeDiff)
theorem uE {l:Spx} (ha:b6 bt l) {k:Nat} (hk:k < l.length):l.getD k default ∉ l.take k:=fun hm=>by
 obtain ⟨i,hi,e⟩:=List.getElem_of_mem hm
 rw [List.length_take] at hi
 rw [List.getElem_take] at e
 have:=eJ ha (i:=i) (j:=k) (by omega) hk
 rw [show l.getD i default=l[i] by simp [List.getD,show i < l.length by omega],e] at this
 exact oJ.ord.irr _ this
theorem tU {m:MapV} {v:Vtx} (h:m.to.length=m.fr.length) (hv:v ∈ m.fr):(m.to.map bh).getD (m.fr.idxOf v) .undef=bh (iK m v):=by
 have:=(gS hv).1
 unfold iK
 simp [List.getD,show m.fr.idxOf v < m.to.length by omega]
theorem qU {H:Hp} {B n len:Nat} {C:List AV} {l:Spx} (hB:H B=some C) (hn:C.length=n) (hf:len * 2 ≤ n) (hl:l.length=len) (ht:C.take (len * 2)=cX l):Snap H (.msl B n 2 0 len) (ap l):=by
 refine .msl B n 2 0 len C (l.map bh) hB hn (by omega) (by simp [hl]) (fun y hy=>?_) (fun i j y a c hy hc ha=>?_)
 ·obtain ⟨v,_,rfl⟩:=List.mem_map.1 hy; rfl
 ·have hi:i < l.length:=by
    have:=(List.getElem?_eq_some_iff.1 hy).1
    simpa using this
  have hy':y=bh (l.getD i default):=by
   rw [List.getElem?_map,List.getElem?_eq_getElem hi] at hy
   simp at hy
   rw [← hy]; simp [List.getD,hi]
  subst hy'
  have hj:j < 2:=(List.getElem?_eq_some_iff.1 hc).1
  have h1:C[0 + i * 2 + j]?=(cX l)[i * 2 + j]?:=by
   rw [← ht,List.getElem?_take,if_pos (by omega)]; congr 1; omega
  have h2:(cX l)[i * 2 + j]?=(((cX l).drop (i * 2)).take 2)[j]?:=by
   rw [List.getElem?_take,if_pos hj,List.getElem?_drop]
  rw [h1,h2,rdX hi] at ha
  have:[AV.int .i64 (l.getD i default).color,AV.int .i64 (l.getD i default).label][j]?=some c:=hc
  rw [this] at ha
  cases ha
  match j,hj with
  | 0,_=>cases this; exact .int _ _
  | 1,_=>cases this; exact .int _ _
attribute [local irreducible] aC ak bb a8 aL aQ az aR ba br Go.Abs.Fn aZ Go.Abs.Pure ax aH Yl
set_option maxHeartbeats 1000000 in
theorem qO (m:MapV) (hm:ShM m) (H:Hp) (nx:Nat):Abs.Fn Tryz.prog 41 [mR m] H nx fun r H' nx'=>(∀ x,x < nx→H' x=H x)∧nx ≤ nx'∧((dL m=0∧∃ b,r=.tup [.mp b,.int .i64 0]∧nx ≤ b∧b < nx'∧H' b=some [.omap (m.fr.map bh) (m.to.map bh)]) ∨ (dL m ≠ 0∧r=.tup [.undef,.int .i64 (dL m)])):=by
 refine Abs.Fn.of_c2 follows zI (Nat.le_of_ble_eq_true rfl) ?_
 simp only [b41,cO,cG,cN,cM,cD,cF,cB,aq,aG]
 have hc:=pM m hm
 have hm1':m.fr.length ≤ 17592186044416:=hm.1
 by_cases he:dL m=0
 rotate_left
 ·have z:decide (dL m ≠ 0)=true:=decide_eq_true he
  (have zz:=aI @ar (aI @aP (aI @aF @z)); repeat' (first|refine zW ?_|apply a_n|apply a_r|refine zO ?_|refine vY ?_|refine cY ?_ (hp:=hc) (hs:=by (first | refine aa ?_ rfl | apply ac); (repeat' (first | exact ab | apply aj | apply ae | exact cC _)); first | done | fail)|refine bxY ?_|refine cTY ?_|refine ag rfl ?_|refine r2Y ?_|fail)) <;> (try clear zz)
  exact ⟨fun x hx=>af (by omega),by omega,.inr ⟨he,rfl⟩⟩
 rw [he] at hc
 obtain ⟨q1,q2,q3,q4,q5⟩:=l4 he
 have z:decide ((0:Int) ≠ 0)=false:=rfl
 (have zz:=aI @ar (aI @aP (aI @aF @z)); repeat' (first|refine zW ?_|apply a_n|refine zO ?_|refine vY ?_|refine cY ?_ (hp:=hc) (hs:=by (first | refine aa ?_ rfl | apply ac); (repeat' (first | exact ab | apply aj | apply ae | exact cC _)); first | done | fail)|refine bxY ?_|refine cFY ?_|fail)) <;> (try clear zz)
 refine wz ?_
 (have zz:=@ar; repeat' (first|refine zW ?_|apply a_n|refine zO ?_|refine vY ?_|fail)) <;> (try clear zz)
 refine aS (X:=Nat) (fun k=>[(1,.ptr nx 2 0),(5,.mp (nx + 1)),(15,ap m.fr),(16,.int .i64 m.fr.length),(17,.int .i64 k)]) (fun k H' nx'=>k ≤ m.fr.length∧H' nx=some [ap m.fr,ap m.to]∧H' (nx + 1)=some [.omap ((m.fr.take k).map bh) ((m.to.take k).map bh)]∧(∀ x,x < nx→H' x=H x)∧nx + 2 ≤ nx') (fun k=>m.fr.length - k) 0 ⟨Nat.zero_le _,by rw [af (by omega),ai],ai,fun x hx=>by rw [af (by omega),af (by omega)],by omega⟩ (by simp (disch:=omega) only [agr,ZG,reduceEqDiff,↓reduceIte,List.length_cons,List.length_nil,Nat.zero_add,reduceAdd]) ?_
 rintro k H1 nx1 ⟨h1,g0,g1,h2,hnx⟩
 by_cases hk:k < m.fr.length
 rotate_left
 ·obtain rfl:k=m.fr.length:=by omega
  rw [List.take_length,List.take_of_length_le (by omega)] at g1
  (have zz:=and_self; repeat' (first|refine zW ?_|apply a_n|apply a_x|refine zO ?_|refine vY ?_|(refine zGY ?_ ?_ <;> (intro _hg; try (exfalso; omega)))|refine ag rfl ?_|refine r2Y ?_|fail)) <;> (try clear zz)
  exact ⟨h2,by omega,.inl ⟨he,nx + 1,rfl,by omega,by omega,g1⟩⟩
 have ix:=ix2 hk
 have it:=ix2 (l:=m.to) (k:=k) (by omega)
 have hnt:=uE q3 hk
 have hmf:=kT (m.fr.getD k default) (m.fr.take k)
 rw [if_neg hnt] at hmf
 have e1:(m.fr.take (k + 1)).map bh=(m.fr.take k).map bh ++ [bh (m.fr.getD k default)]:=by rw [bX hk,List.map_append]; rfl
 have e2:(m.to.take (k + 1)).map bh=(m.to.take k).map bh ++ [bh (m.to.getD k default)]:=by rw [bX (by omega),List.map_append]; rfl
 generalize m.fr.getD k default=v at *
 generalize m.to.getD k default=w at *
 (have zz:=@ix; repeat' (first|refine zW ?_|apply a_n|refine zO ?_|refine vY ?_|refine alY ?_|refine stY ?_|(refine zGY ?_ ?_ <;> (intro _hg; try (exfalso; omega)))|fail)) <;> (try clear zz)
 refine k9 (c2:=[.int .i64 v.color,.int .i64 v.label]) nx nx1 (by rw [af (by omega),af (by omega)]; exact g0) (by rw [ai]; rfl) (by omega) fun S hS0 hS1 _=>?_
 (have zz:=aI @hS0 (aI @hS1 @it); repeat' (first|apply a_n|refine zO ?_|refine nvY ?_|apply jW|fail)) <;> (try clear zz)
 refine w6 ev0 (by rw [af (by omega),af (by omega)]; exact g1) ev0 ev0 (lJ v) hmf ?_
 (have zz:=and_self; repeat' (first|apply a_n|refine zO ?_|refine vY ?_|fail)) <;> (try clear zz)
 refine ⟨k + 1,by omega,⟨by omega,by (repeat rw [af (by omega)]); exact g0,?_,fun x hx=>by (repeat rw [af (by omega)]); exact h2 x hx,by omega⟩,ag0⟩
 rw [ai,e1,e2]; rfl
theorem AZ:Cmp2 Tryz.prog bh bt (fun _=>True) 74 [] where
 len _:=rfl
 agg _:=rfl
 ones _:=rfl
 dat x:=bx x
 dcaps x hx:=by cases hx
 run x y _ _:=mC x y
 ord:=oJ.ord
theorem x9 (m:MapV) (l:Spx) (hlen:m.to.length=m.fr.length) (hl:l.length ≤ 100000) (hl0:l ≠ []) (b:Nat) (H:Hp) (nx:Nat) (hb:H b=some [.omap (m.fr.map bh) (m.to.map bh)]) (hbn:b < nx):Abs.Fn Tryz.prog 57 [.mp b,ap l] H nx fun r H' nx'=>nx ≤ nx'∧((bV m l=false∧r=.tup [.esl,.bool false]∧∀ x,x < nx→H' x=H x) ∨ (bV m l=true∧∃ sv Hf H2,r=.tup [sv,.bool true]∧sv.one=true∧Fz Hf H' H2∧Snap Hf sv (ap (bW m l))∧∀ x,x < nx→H2 x=H x)):=by
 refine Abs.Fn.of_c2 follows zP (Nat.le_of_ble_eq_true rfl) ?_
 simp only [b57,cO,cG,cN,cM,cD,cF,cB,aq,aG]
 (have zz:=@ar; repeat' (first|refine zW ?_|apply a_n|refine zO ?_|refine vY ?_|fail)) <;> (try clear zz)
 refine aS (X:=AV × Nat) (fun x=>[(0,.mp b),(6,x.1),(11,ap l),(12,.int .i64 l.length),(13,.int .i64 x.2)]) (fun x H' nx'=>x.2 ≤ l.length∧(∀ y,y < nx→H' y=H y)∧nx ≤ nx'∧Row H' 2 x.1 (cX ((l.take x.2).map (iK m)))∧(∀ B,eB x.1=some B→nx ≤ B∧B < nx')∧∀ i,i < x.2→decide (l.getD i default ∈ m.fr)=true) (fun x=>l.length - x.2) (.esl,0) ⟨Nat.zero_le _,fun _ _=>rfl,Nat.le_refl _,Row.nil,fun B h=>(by cases h),fun i h=>absurd h (by omega)⟩ ag0 ?_
 rintro ⟨sv,k⟩ H1 nx1 ⟨h1,h2,h3,hrow,hbd,hz⟩
 dsimp only at h1 hrow hbd hz ⊢
 by_cases hk:k < l.length
 rotate_left
 ·rw [List.take_of_length_le (by omega)] at hrow
  have ht:bV m l=true:=iS fun i hi=>hz i (by omega)
  have hpos:0 < l.length:=List.length_pos_iff.2 hl0
  generalize hM:l.map (iK m)=M at *
  have hMl:M.length=l.length:=by rw [← hM,List.length_map]
  have himg:bW m l=eI bt M:=by unfold bW; rw [hM]
  obtain ⟨B,rfl,hB⟩:∃ B,sv=.msl B (M.length * 2) 2 0 M.length∧H1 B=some (cX M):=by
   generalize hcs:cX M=cs at hrow
   have hcl:=ec M
   cases hrow with
   | nil=>rw [hcs] at hcl; simp at hcl; omega
   | box B len cs g1 g2 =>
    obtain rfl:len=M.length:=by rw [← hcs,hcl] at g2; omega
    exact ⟨B,rfl,g1⟩
  have hBb:=hbd B rfl
  (have zz:=and_self; repeat' (first|refine zW ?_|apply a_n|apply a_x|refine zO ?_|refine vY ?_|(refine zGY ?_ ?_ <;> (intro _hg; try (exfalso; omega)))|fail)) <;> (try clear zz)
  refine av ev0 ev0 (vv AZ (L:=M) (b:=B) (nx:=nx1) (n:=M.length) hB (by omega) rfl (by omega) (fun _ _=>trivial) (by omega)) ?_
  rintro _ H3 nx3 ⟨L,ps,hperm,hsort⟩
  have hLl:L.length=M.length:=hperm.length_eq
  have hL0:L ≠ []:=fun e=>by rw [e] at hLl; simp at hLl; omega
  have hB3:H3 B=some (cX L):=ps.at_
  rw [← hLl]
  (have zz:=and_self; repeat' (first|refine zW ?_|apply a_n|refine zO ?_|refine vY ?_|fail)) <;> (try clear zz)
  refine av ev0 ev0 (qF L (show _ ≤ _ by omega) hL0 H3 B nx3 hB3 (by have:=ps.le; omega)) ?_
  rintro _ H4 nx4 ⟨rfl,⟨C,rfl,c1,c2⟩,rfl⟩
  have hd:cE L L.length=eI bt M:=ny oJ hperm (by rw [hLl]; exact hsort)
  rw [hd] at c2
  have hle:=pR L L.length
  have hdl:=nk L L.length
  rw [hd] at hdl
  (have zz:=and_self; repeat' (first|apply a_n|refine zO ?_|refine vY ?_|refine ag rfl ?_|refine r2Y ?_|fail)) <;> (try clear zz)
  refine ⟨by have:=ps.le; omega,.inr ⟨ht,.msl B (L.length * 2) 2 0 (bi L L.length),only B C,bH (ah H3 B C) B,rfl,rfl,Fz.one ai,?_,fun x hx=>?_⟩⟩
  ·rw [himg]
   exact qU je c1 (by omega) hdl c2
  ·rw [e8 (by omega),af (by omega),ps.fr x (by omega) (by omega)]; exact h2 x hx
 have ix:=ix2 hk
 have hb1:H1 b=some [.omap (m.fr.map bh) (m.to.map bh)]:=(h2 b hbn).trans hb
 have hmf:=kT (l.getD k default) m.fr
 have hcl:(cX ((l.take k).map (iK m))).length=k * 2:=by rw [ec,List.length_map,List.length_take]; omega
 have e1:(l.take (k + 1)).map (iK m)=(l.take k).map (iK m) ++ [iK m (l.getD k default)]:=by rw [bX hk,List.map_append]; rfl
 by_cases hv:l.getD k default ∈ m.fr
 rotate_left
 ·have ht:bV m l=false:=gM hk (decide_eq_false hv)
  rw [if_neg hv] at hmf
  generalize l.getD k default=v at *
  (have zz:=@ix; repeat' (first|refine zW ?_|apply a_n|refine zO ?_|refine vY ?_|refine alY ?_|refine stY ?_|(refine zGY ?_ ?_ <;> (intro _hg; try (exfalso; omega)))|fail)) <;> (try clear zz)
  refine n6 ev0 (by rw [af (by omega),af (by omega)]; exact hb1) ev0 (lJ v) hmf ?_
  rw [show mget (.agg [.int .i64 0,.int .i64 0]) true none (m.to.map bh)=.tup [.agg [.int .i64 0,.int .i64 0],.bool false] from rfl]
  (have zz:=and_self; repeat' (first|refine zW ?_|apply a_n|apply a_r|refine zO ?_|refine vY ?_|refine alY ?_|refine stY ?_|refine cTY ?_|refine ag rfl ?_|refine r2Y ?_|fail)) <;> (try clear zz)
  exact ⟨by omega,.inl ⟨ht,rfl,fun x hx=>by (repeat rw [af (by omega)]); exact h2 x hx⟩⟩
 rw [if_pos hv] at hmf
 have hmg:=tU hlen hv
 have hzz:∀ i,i < k + 1→decide (l.getD i default ∈ m.fr)=true:=fun i hi=>by
  rcases Nat.lt_succ_iff_lt_or_eq.1 hi with h' | rfl
  ·exact hz i h'
  ·exact decide_eq_true hv
 generalize l.getD k default=v at *
 generalize iK m v=w at *
 (have zz:=@ix; repeat' (first|refine zW ?_|apply a_n|refine zO ?_|refine vY ?_|refine alY ?_|refine stY ?_|(refine zGY ?_ ?_ <;> (intro _hg; try (exfalso; omega)))|fail)) <;> (try clear zz)
 refine n6 ev0 (by rw [af (by omega),af (by omega)]; exact hb1) ev0 (lJ v) hmf ?_
 rw [show mget (.agg [.int .i64 0,.int .i64 0]) true (some (m.fr.idxOf v)) (m.to.map bh)=.tup [(m.to.map bh).getD (m.fr.idxOf v) .undef,.bool true] from rfl,hmg]
 (have zz:=and_self; repeat' (first|refine zW ?_|apply a_n|refine zO ?_|refine vY ?_|refine alY ?_|refine stY ?_|refine blY ?_|refine cFY ?_|fail)) <;> (try clear zz)
 refine jX rfl ev0 (hrow.same fun B hB=>?_) ev0 jL rfl rfl (by omega) (by omega) (by omega) ?_
 ·have:=hbd B hB; (repeat rw [af (by omega)])
 rintro s2 H2 nx2 hr2 i1 i2 i3 i4
 (have zz:=and_self; repeat' (first|apply a_n|refine zO ?_|refine vY ?_|fail)) <;> (try clear zz)
 refine ⟨(s2,k + 1),by dsimp only; omega,⟨by dsimp only; omega,fun y hy=>?_,by omega,?_,fun B hB=>?_,hzz⟩,ag0⟩
 ·rw [i3 y (by omega) (fun h=>by have:=hbd y h; omega)]
  (repeat rw [af (by omega)]); exact h2 y hy
 ·dsimp only
  rw [e1,gH]; exact hr2
 ·rcases i4 B hB with h | h
  ·have:=hbd B h; omega
  ·omega
end Go.Proofs.YtbgdcebmgjafjaaGreat
namespace Go.Proofs.YtbgdcebmgjafjaaGreat
open Go Go.Abs
def mq (m:MapV) (a b:List Spx):Bool × Int:=if dL m ≠ 0 then (false,dL m) else if bc a ≠ 0 then (false,bc a) else if bc b ≠ 0 then (false,bc b) else if a.all (bV m)=false then (false,6) else ((a.map (bW m)).all fun s=>b.any fun t=>bv s t,0)
theorem rX {α:Type} {l:List α} {p:α→Bool}:(!l.any fun x=>!p x)=l.all p:=by
 rw [List.any_eq_not_all_not]; simp
attribute [local irreducible] aC ak bb a8 aL aQ az aR ba br Go.Abs.Fn aZ Go.Abs.Pure ax aH Yl
set_option maxHeartbeats 1000000 in
theorem qg (m:MapV) (c:List Spx) (hlen:m.to.length=m.fr.length) (hc:c.length ≤ 5000) (hs:∀ s ∈ c,s.length ≤ 1000∧s ≠ []) (b:Nat) (H:Hp) (nx:Nat) (hb:H b=some [.omap (m.fr.map bh) (m.to.map bh)]) (hbn:b < nx):Abs.Fn Tryz.prog 42 [.mp b,d8 c] H nx fun r H' nx'=>nx ≤ nx'∧(∀ x,x < nx→H' x=H x)∧((c.all (bV m)=false∧r=.tup [.esl,.bool false]) ∨ (c.all (bV m)=true∧∃ sv,r=.tup [sv,.bool true]∧Row H' 1 sv ((c.map (bW m)).map ap)∧∀ B,eB sv=some B→nx ≤ B∧B < nx')):=by
 refine Abs.Fn.of_c2 follows z9 (Nat.le_of_ble_eq_true rfl) ?_
 simp only [b42,cO,cG,cN,cM,cD,cF,cB,aq,aG]
 (have zz:=aI @aK (aI @aJ @ay); repeat' (first|refine zW ?_|apply a_n|refine zO ?_|refine vY ?_|refine bxY ?_|fail)) <;> (try clear zz)
 refine aS (X:=AV × Nat) (fun x=>[(0,.mp b),(6,x.1),(12,aD c),(13,.int .i64 c.length),(14,.int .i64 x.2)]) (fun x H' nx'=>x.2 ≤ c.length∧(∀ y,y < nx→H' y=H y)∧nx ≤ nx'∧Row H' 1 x.1 (((c.take x.2).map (bW m)).map ap)∧(∀ B,eB x.1=some B→nx ≤ B∧B < nx')∧∀ i,i < x.2→bV m (c.getD i default)=true) (fun x=>c.length - x.2) (.esl,0) ⟨Nat.zero_le _,fun y hy=>af (by omega),by omega,Row.nil,fun B h=>(by cases h),fun i h=>absurd h (by omega)⟩ ag0 ?_
 rintro ⟨svo,k⟩ H1 nx1 ⟨h1,h2,h3,hrow,hbd,hz⟩
 dsimp only at h1 hrow hbd hz ⊢
 by_cases hk:k < c.length
 rotate_left
 ·rw [List.take_of_length_le (by omega)] at hrow
  (have zz:=and_self; repeat' (first|refine zW ?_|apply a_n|apply a_x|refine zO ?_|refine vY ?_|(refine zGY ?_ ?_ <;> (intro _hg; try (exfalso; omega)))|refine ag rfl ?_|refine r2Y ?_|fail)) <;> (try clear zz)
  exact ⟨h3,h2,.inr ⟨iS fun i hi=>hz i (by omega),svo,rfl,hrow,hbd⟩⟩
 have ix:=iv hk
 obtain ⟨s1,s2⟩:=hs _ (bj hk)
 have hcl:(((c.take k).map (bW m)).map ap).length=k:=by rw [List.length_map,List.length_map,List.length_take]; omega
 have e1:(c.take (k + 1)).map (bW m)=(c.take k).map (bW m) ++ [bW m (c.getD k default)]:=by rw [bX hk,List.map_append]; rfl
 have hall:bV m (c.getD k default)=false→c.all (bV m)=false:=fun h=>gM hk h
 have hzz:bV m (c.getD k default)=true→∀ i,i < k + 1→bV m (c.getD i default)=true:=fun h i hi=>by
  rcases Nat.lt_succ_iff_lt_or_eq.1 hi with h' | rfl
  ·exact hz i h'
  ·exact h
 have ho:=x9 m (c.getD k default) hlen (by omega) s2 b H1 nx1 ((h2 b hbn).trans hb) (by omega)
 obtain ⟨o1,o2⟩:=hrow.one
 generalize c.getD k default=s at *
 (have zz:=@ix; repeat' (first|refine zW ?_|apply a_n|refine zO ?_|refine vY ?_|(refine zGY ?_ ?_ <;> (intro _hg; try (exfalso; omega)))|fail)) <;> (try clear zz)
 refine av ev0 ev0 ho ?_
 rintro _ H2 nx2 ⟨hle,h⟩
 rcases h with ⟨ht,rfl,hsm⟩ | ⟨ht,sv2,Hf,H3,rfl,hone,hfz,hsn,hsm⟩
 ·(have zz:=and_self; repeat' (first|refine zW ?_|apply a_n|apply a_r|refine zO ?_|refine vY ?_|refine cTY ?_|refine ag rfl ?_|refine r2Y ?_|fail)) <;> (try clear zz)
  exact ⟨by omega,fun x hx=>(hsm x (by omega)).trans (h2 x hx),.inl ⟨hall ht,rfl⟩⟩
 (have zz:=and_self; repeat' (first|apply a_n|refine zO ?_|refine vY ?_|fail)) <;> (try clear zz)
 refine ee (ee ?_)
 refine kO Hf H3 [(0,.mp b),(6,svo),(9,ap (bW m s)),(10,.bool true),(12,aD c),(13,.int .i64 c.length),(14,.int .i64 k)] hfz ⟨.inl rfl,.inl rfl,.inr hsn,.inl rfl,.inl rfl,.inl rfl,.inl rfl,trivial⟩ ?_
 (have zz:=aI @aP @aF; repeat' (first|apply a_n|refine zO ?_|refine vY ?_|refine blY ?_|refine cFY ?_|fail)) <;> (try clear zz)
 refine jX rfl ev0 (hrow.same fun B hB=>?_) ev0 gU rfl rfl Nat.one_pos (by omega) (by omega) ?_
 ·have:=hbd B hB; rw [af (by omega)]; exact hsm B (by omega)
 rintro s3 H4 nx4 hr4 i1 i2 i3 i4
 (have zz:=and_self; repeat' (first|apply a_n|refine zO ?_|refine vY ?_|fail)) <;> (try clear zz)
 refine ⟨(s3,k + 1),by dsimp only; omega,⟨by dsimp only; omega,fun y hy=>?_,by omega,?_,fun B hB=>?_,hzz ht⟩,ag0⟩
 ·rw [i3 y (by omega) (fun h=>by have:=hbd y h; omega),af (by omega),hsm y (by omega)]; exact h2 y hy
 ·dsimp only
  rw [e1,List.map_append]; exact hr4
 ·rcases i4 B hB with h | h
  ·have:=hbd B h; omega
  ·omega
theorem xU (v:Vtx) (t:Spx) (ht:Shn t):Pure Tryz.prog 45 [bh v,.iptr [ap t] 0] (.bool (!decide (v ∈ t))):=by
 refine Pure.of_c2 follows yc (Nat.le_of_ble_eq_true rfl) ?_
 simp only [b45,cO,cG,cN,cM,cD,cF,cB,aq,aG]
 have h:=kr t v ht
 (have zz:=and_self; repeat' (first|refine zW ?_|apply a_n|refine zO ?_|refine vZ ?_|refine cZ ?_ (hp:=h) (hs:=by (first | refine aa ?_ rfl | apply ac); (repeat' (first | exact ab | apply aj | apply ae | exact au _ | exact bx _)); first | done | fail)|refine bxZ ?_|refine ag rfl ?_|refine r1Z ?_|fail)) <;> (try clear zz)
 exact .bool _
theorem Av (s t:Spx) (hs:Shn s) (ht:Shn t):Pure Tryz.prog 43 [ap s,ap t] (.bool (bv s t)):=by
 refine Pure.of_c2 follows yx (Nat.le_of_ble_eq_true rfl) ?_
 simp only [b43,cO,cG,cN,cM,cD,cF,cB,aq,aG]
 have h:=oA s (fun v=>!decide (v ∈ t)) 45 [.iptr [ap t] 0] (DatL.cons (Dat.iptr (DatL.cons (au _) DatL.nil)) DatL.nil) (fun v _=>xU v t ht) hs
 (have zz:=aI @aP @aF; repeat' (first|refine zW ?_|apply a_n|refine zO ?_|refine vZ ?_|refine bxZ ?_|fail)) <;> (try clear zz)
 refine bL ev0 ev0 h (aa (ao (au _ _) (ao (gP (ao (dX rfl rfl (ao (au _ _) ab)) ab)) ab)) rfl) ?_
 (have zz:=and_self; repeat' (first|apply a_n|refine zO ?_|refine vZ ?_|refine ag rfl ?_|refine r1Z ?_|fail)) <;> (try clear zz)
 exact bA rX
theorem xA (s t:Spx) (hs:Shn s) (ht:Shn t):Pure Tryz.prog 49 [ap t,.iptr [.func 43 []] 0,.iptr [ap s] 0] (.bool (bv s t)):=by
 refine Pure.of_c2 follows zR (Nat.le_of_ble_eq_true rfl) ?_
 simp only [b49,cO,cG,cN,cM,cD,cF,cB,aq,aG]
 have h:=Av s t hs ht
 (have zz:=and_self; repeat' (first|refine zW ?_|apply a_n|refine zO ?_|refine vZ ?_|refine cZ ?_ (hp:=h) (hs:=by (first | refine aa ?_ rfl | apply ac); (repeat' (first | exact ab | apply aj | apply ae | exact au _)); first | done | fail)|refine ag rfl ?_|refine r1Z ?_|fail)) <;> (try clear zz)
 exact .bool _
theorem yu (b:List Spx) (s:Spx) (hb:Shn b) (hbs:∀ t ∈ b,Shn t) (hs:Shn s):Pure Tryz.prog 48 [ap s,.iptr [aD b] 0,.iptr [.func 43 []] 0] (.bool (!b.any fun t=>bv s t)):=by
 refine Pure.of_c2 follows Ax (Nat.le_of_ble_eq_true rfl) ?_
 simp only [b48,cO,cG,cN,cM,cD,cF,cB,aq,aG]
 have h:=jd b (fun t=>bv s t) 49 [.iptr [.func 43 []] 0,.iptr [ap s] 0] (DatL.cons (Dat.iptr (DatL.cons (Dat.func DatL.nil) DatL.nil)) (DatL.cons (Dat.iptr (DatL.cons (au _) DatL.nil)) DatL.nil)) (fun t ht=>xA s t hs (hbs t ht)) hb
 (have zz:=aI @aP @aF; repeat' (first|refine zW ?_|apply a_n|refine zO ?_|refine vZ ?_|refine bxZ ?_|fail)) <;> (try clear zz)
 refine bL ev0 ev0 h (aa (ao (bo _ _) (ao (gP (ao (Dat.iptr (DatL.cons (Dat.func DatL.nil) DatL.nil) _) (ao (dX rfl rfl (ao (au _ _) ab)) ab))) ab)) rfl) ?_
 (have zz:=and_self; repeat' (first|apply a_n|refine zO ?_|refine vZ ?_|refine ag rfl ?_|refine r1Z ?_|fail)) <;> (try clear zz)
 exact .bool _
set_option maxHeartbeats 2000000 in
theorem nT (m:MapV) (a b:List Spx) (hm:ShM m) (ha:Shn a) (has:∀ s ∈ a,Shn s) (hb:Shn b) (hbs:∀ s ∈ b,Shn s):Pure Tryz.prog 12 [mR m,d8 a,d8 b] (.tup [.bool (mq m a b).1,.int .i64 (mq m a b).2]):=by
 refine Pure.of_c2 follows zT (Nat.le_of_ble_eq_true rfl) ?_
 simp only [b12,cO,cG,cN,cM,cD,cF,cB,aq,aG]
 have hca:=gB a ha has
 have hcb:=gB b hb hbs
 unfold mq
 (have zz:=aI @aP (aI @aF (aI @aJ @ay)); repeat' (first|refine zW ?_|apply a_n|refine zO ?_|refine vZ ?_|refine bxZ ?_|fail)) <;> (try clear zz)
 refine av ev0 ev0 (qO m hm _ _) ?_
 rintro _ H1 nx1 ⟨hsm,hle,h⟩
 rcases h with ⟨he,B,rfl,hB1,hB2,hB3⟩ | ⟨he,rfl⟩
 rotate_left
 ·rw [if_pos he]
  have z:decide (dL m ≠ 0)=true:=decide_eq_true he
  (have zz:=@z; repeat' (first|refine zW ?_|apply a_n|apply a_r|refine zO ?_|refine vY ?_|refine cTY ?_|refine ag rfl ?_|refine r2Y ?_|fail)) <;> (try clear zz)
  exact ip rfl rfl
 rw [if_neg (fun h=>h he)]
 obtain ⟨q1,q2,q3,q4,q5⟩:=l4 he
 have g1:H1 1=some [aD a]:=hsm 1 (by omega)
 have g2:H1 2=some [aD b]:=hsm 2 (by omega)
 have z0:decide ((0:Int) ≠ 0)=false:=rfl
 (have zz:=aI @g1 (aI @g2 @z0); repeat' (first|apply a_n|refine zO ?_|refine vY ?_|fail)) <;> (try clear zz)
 refine ee (ee ?_)
 (have zz:=aI @g1 (aI @g2 @z0); repeat' (first|apply a_n|refine zO ?_|refine vY ?_|refine cFY ?_|fail)) <;> (try clear zz)
 by_cases hea:bc a=0
 rotate_left
 ·rw [if_pos hea]
  have z:decide (bc a ≠ 0)=true:=decide_eq_true hea
  (have zz:=aI @g1 (aI @g2 (aI @aJ @ay)); repeat' (first|refine zW ?_|apply a_n|refine zO ?_|refine vY ?_|refine blY ?_|fail)) <;> (try clear zz)
  refine aS (X:=Nat) (fun k=>[(4,.ptr 1 1 0),(26,.msl nx1 2 1 0 2),(27,.int .i64 2),(28,.int .i64 k)]) (fun k H nx=>k=0∧H nx1=some [aD a,aD b]) (fun _=>0) 0 ⟨rfl,ai⟩ (by (iterate 4 refine And.intro rfl ?_); trivial) ?_
  rintro k H nx ⟨rfl,g⟩
  (have zz:=aI @g (aI @z (aI @Nat.zero_mul (aI @aJ @ay))); repeat' (first|refine zW ?_|apply a_n|apply a_r|refine zO ?_|refine vY ?_|refine cY ?_ (hp:=hca) (hs:=by (first | refine aa ?_ rfl | apply ac); (repeat' (first | exact ab | apply aj | apply ae | exact bz _)); first | done | fail)|refine alY ?_|refine stY ?_|refine cTY ?_|(refine zGY ?_ ?_ <;> (intro _hg; try (exfalso; omega)))|refine ag rfl ?_|refine r2Y ?_|fail)) <;> (try clear zz)
  exact ip rfl rfl
 rw [if_neg (fun h=>h hea)]
 rw [hea] at hca
 by_cases heb:bc b=0
 rotate_left
 ·rw [if_pos heb]
  have z:decide (bc b ≠ 0)=true:=decide_eq_true heb
  (have zz:=aI @g1 (aI @g2 (aI @aJ @ay)); repeat' (first|refine zW ?_|apply a_n|refine zO ?_|refine vY ?_|refine blY ?_|fail)) <;> (try clear zz)
  refine aS (X:=Nat) (fun k=>[(26,.msl nx1 2 1 0 2),(27,.int .i64 2),(28,.int .i64 k)]) (fun k H nx=>k ≤ 1∧H nx1=some [aD a,aD b]∧nx1 < nx) (fun k=>2 - k) 0 ⟨by omega,ai,by omega⟩ (by (iterate 3 refine And.intro rfl ?_); trivial) ?_
  rintro k H nx ⟨hk,g,hnx⟩
  rcases (by omega:k=0 ∨ k=1) with rfl | rfl
  ·(have zz:=aI @g (aI @z0 (aI @Nat.zero_mul (aI @aJ @ay))); repeat' (first|refine zW ?_|apply a_n|refine zO ?_|refine vY ?_|refine cY ?_ (hp:=hca) (hs:=by (first | refine aa ?_ rfl | apply ac); (repeat' (first | exact ab | apply aj | apply ae | exact bz _)); first | done | fail)|refine alY ?_|refine stY ?_|refine cFY ?_|(refine zGY ?_ ?_ <;> (intro _hg; try (exfalso; omega)))|fail)) <;> (try clear zz)
   exact ⟨1,by omega,⟨by omega,by (repeat rw [af (by omega)]); exact g,by omega⟩,by (iterate 3 refine And.intro rfl ?_); trivial⟩
  ·(have zz:=aI @g (aI @z (aI @Nat.one_mul (aI @aJ @ay))); repeat' (first|refine zW ?_|apply a_n|apply a_r|refine zO ?_|refine vY ?_|refine cY ?_ (hp:=hcb) (hs:=by (first | refine aa ?_ rfl | apply ac); (repeat' (first | exact ab | apply aj | apply ae | exact bz _)); first | done | fail)|refine alY ?_|refine stY ?_|refine cTY ?_|(refine zGY ?_ ?_ <;> (intro _hg; try (exfalso; omega)))|refine ag rfl ?_|refine r2Y ?_|fail)) <;> (try clear zz)
   exact ip rfl rfl
 rw [if_neg (fun h=>h heb)]
 rw [heb] at hcb
 obtain ⟨a1,a2,a3,a4⟩:=dx hea
 refine aN (fun T H nx=>T 4=.ptr 1 1 0∧T 5=.ptr 2 1 0∧T 8=.mp B∧H 1=some [aD a]∧H 2=some [aD b]∧H B=some [.omap (m.fr.map bh) (m.to.map bh)]∧B < nx∧3 ≤ nx) ?_ ?_
 ·(have zz:=aI @g1 (aI @g2 (aI @aJ @ay)); repeat' (first|refine zW ?_|apply a_n|refine zO ?_|refine vY ?_|refine blY ?_|fail)) <;> (try clear zz)
  refine aS (X:=Nat) (fun k=>[(4,.ptr 1 1 0),(5,.ptr 2 1 0),(8,.mp B),(26,.msl nx1 2 1 0 2),(27,.int .i64 2),(28,.int .i64 k)]) (fun k H nx=>k ≤ 2∧H nx1=some [aD a,aD b]∧nx1 < nx∧H 1=some [aD a]∧H 2=some [aD b]∧H B=some [.omap (m.fr.map bh) (m.to.map bh)]) (fun k=>2 - k) 0 ⟨by omega,ai,by omega,by rw [af (by omega)]; exact g1,by rw [af (by omega)]; exact g2,by rw [af (by omega)]; exact hB3⟩ (by (iterate 6 refine And.intro rfl ?_); trivial) ?_
  rintro k H nx ⟨hk,g,hnx,g1,g2,g3⟩
  rcases (by omega:k=0 ∨ k=1 ∨ k=2) with rfl | rfl | rfl
  ·(have zz:=aI @g (aI @z0 (aI @Nat.zero_mul (aI @aJ @ay))); repeat' (first|refine zW ?_|apply a_n|refine zO ?_|refine vY ?_|refine cY ?_ (hp:=hca) (hs:=by (first | refine aa ?_ rfl | apply ac); (repeat' (first | exact ab | apply aj | apply ae | exact bz _)); first | done | fail)|refine alY ?_|refine stY ?_|refine cFY ?_|(refine zGY ?_ ?_ <;> (intro _hg; try (exfalso; omega)))|fail)) <;> (try clear zz)
   exact ⟨1,by omega,⟨by omega,by (repeat rw [af (by omega)]); exact g,by omega,by (repeat rw [af (by omega)]); exact g1,by (repeat rw [af (by omega)]); exact g2,by (repeat rw [af (by omega)]); exact g3⟩,by (iterate 6 refine And.intro rfl ?_); trivial⟩
  ·(have zz:=aI @g (aI @z0 (aI @Nat.one_mul (aI @aJ @ay))); repeat' (first|refine zW ?_|apply a_n|refine zO ?_|refine vY ?_|refine cY ?_ (hp:=hcb) (hs:=by (first | refine aa ?_ rfl | apply ac); (repeat' (first | exact ab | apply aj | apply ae | exact bz _)); first | done | fail)|refine alY ?_|refine stY ?_|refine cFY ?_|(refine zGY ?_ ?_ <;> (intro _hg; try (exfalso; omega)))|fail)) <;> (try clear zz)
   exact ⟨2,by omega,⟨by omega,by (repeat rw [af (by omega)]); exact g,by omega,by (repeat rw [af (by omega)]); exact g1,by (repeat rw [af (by omega)]); exact g2,by (repeat rw [af (by omega)]); exact g3⟩,by (iterate 6 refine And.intro rfl ?_); trivial⟩
  ·(have zz:=and_self; repeat' (first|refine zW ?_|apply a_n|apply a_x|refine zO ?_|refine vY ?_|(refine zGY ?_ ?_ <;> (intro _hg; try (exfalso; omega)))|fail)) <;> (try clear zz)
   exact ⟨rfl,rfl,rfl,g1,g2,g3,by omega,by omega⟩
 clear g1 g2 hB3 hsm
 rintro T H nx ⟨t4,t5,t8,g1,g2,g3,hBn,hnx⟩
 (have zz:=aI @t4 (aI @t5 (aI @t8 @g1)); repeat' (first|refine zW ?_|apply a_n|refine zO ?_|refine vY ?_|fail)) <;> (try clear zz)
 refine av ev0 (have zz:=@t8; evZ) (qg m a q2 (by omega) (fun s hs=>by obtain ⟨p1,p2,p3,p4⟩:=bC (a2 s hs); exact ⟨by omega,fun e=>by rw [e] at p1; simp at p1⟩) B H nx g3 hBn) ?_
 rintro _ H3 nx3 ⟨hle3,hsm3,h⟩
 rcases h with ⟨ht,rfl⟩ | ⟨ht,sv,rfl,hrow,hbd⟩
 ·rw [if_pos ht]
  (have zz:=and_self; repeat' (first|refine zW ?_|apply a_n|apply a_r|refine zO ?_|refine vY ?_|refine cTY ?_|refine ag rfl ?_|refine r2Y ?_|fail)) <;> (try clear zz)
  exact ip rfl rfl
 rw [if_neg (by rw [ht]; decide)]
 have g2':H3 2=some [aD b]:=(hsm3 2 (by omega)).trans g2
 have hcs:=jd (a.map (bW m)) (fun s=>!b.any fun t=>bv s t) 48 [.iptr [aD b] 0,.iptr [.func 43 []] 0] (DatL.cons (Dat.iptr (DatL.cons (bo _) DatL.nil)) (DatL.cons (Dat.iptr (DatL.cons (Dat.func DatL.nil) DatL.nil)) DatL.nil)) (fun s hs=>by
  obtain ⟨s0,hs0,rfl⟩:=List.mem_map.1 hs
  refine yu b _ hb hbs ?_
  obtain ⟨p1,p2,p3,p4⟩:=bC (a2 s0 hs0)
  have:=iW (K:=bt) (l:=s0.map (iK m))
  rw [List.length_map] at this
  show (bW m s0).length ≤ _
  unfold bW; omega) (by show _ ≤ _; rw [List.length_map]; omega)
 (have zz:=@t5; repeat' (first|refine zW ?_|apply a_n|refine zO ?_|refine vY ?_|refine alY ?_|refine stY ?_|refine cFY ?_|fail)) <;> (try clear zz)
 refine bL ev0 (have zz:=@t5; evZ) hcs (aa (ao (iG (hrow.same fun B hB=>by have:=hbd B hB; (repeat rw [af (by omega)]))) (ao (gP (ao (dX (by (repeat rw [af (by omega)]); exact g2') rfl (ao (bo _ _) ab)) (ao (dX (by rw [ai]; rfl) rfl (ao (Dat.func DatL.nil _) ab)) ab))) ab)) rfl) ?_
 (have zz:=and_self; repeat' (first|apply a_n|refine zO ?_|refine vY ?_|refine ag rfl ?_|refine r2Y ?_|fail)) <;> (try clear zz)
 exact ip rX rfl
end Go.Proofs.YtbgdcebmgjafjaaGreat
namespace Go.Proofs.YtbgdcebmgjafjaaGreat
open Go Go.Abs
theorem qP {c:List Spx}:gL c=true ↔ c.length ≤ 30∧∀ s ∈ c,s.length ≤ 10:=by
 unfold gL
 rw [Bool.and_eq_true,decide_eq_true_iff,List.all_eq_true]
 simp only [decide_eq_true_iff]
attribute [local irreducible] aC ak bb a8 aL aQ az aR ba br Go.Abs.Fn aZ Go.Abs.Pure ax aH Yl
end Go.Proofs.YtbgdcebmgjafjaaGreat
namespace Go.Proofs.YtbgdcebmgjafjaaGreat
open Go Go.Abs
def dz:Spx→Nat→List Spx
 | _,0=>[[]]
 | [],_ + 1=>[]
 | x :: l,k + 1=>(dz l k).map (x :: ·) ++ dz l (k + 1)
theorem oo {l:Spx}:dz l 0=[[]]:=by cases l <;> rfl
theorem pP {k:Nat}:dz [] (k + 1)=[]:=rfl
theorem jM {x:Vtx} {l:Spx} {k:Nat}:dz (x :: l) (k + 1)=(dz l k).map (x :: ·) ++ dz l (k + 1):=rfl
theorem fD:∀ {l:Spx} {k:Nat} {s:Spx},s ∈ dz l k ↔ s.Sublist l∧s.length=k
 | l,0,s=>by
  rw [oo,List.mem_singleton]
  exact ⟨fun h=>by subst h; exact ⟨List.nil_sublist _,rfl⟩,fun h=>List.length_eq_zero_iff.1 h.2⟩
 | [],k + 1,s=>by
  rw [pP]
  refine ⟨fun h=>(by cases h),fun ⟨h1,h2⟩=>?_⟩
  rw [List.sublist_nil] at h1
  subst h1; simp at h2
 | x :: l,k + 1,s=>by
  rw [jM,List.mem_append,List.mem_map,fD]
  constructor
  ·rintro (⟨t,ht,rfl⟩ | ⟨h1,h2⟩)
   ·have:=fD.1 ht
    exact ⟨this.1.cons_cons x,by simp [this.2]⟩
   ·exact ⟨h1.cons x,h2⟩
  ·rintro ⟨h1,h2⟩
   cases h1 with
   | cons _ h=>exact .inr ⟨h,h2⟩
   | cons_cons _ h=>exact .inl ⟨_,fD.2 ⟨h,by simpa using h2⟩,rfl⟩
def chK:Nat→Nat→Nat
 | _,0=>1
 | 0,_ + 1=>0
 | n + 1,k + 1=>chK n k + chK n (k + 1)
theorem yI {n:Nat}:chK n 0=1:=by cases n <;> rfl
theorem mD:∀ {l:Spx} {k:Nat},(dz l k).length=chK l.length k
 | l,0=>by rw [oo,yI]; rfl
 | [],k + 1=>rfl
 | x :: l,k + 1=>by
  rw [jM,List.length_append,List.length_map,mD,mD]; rfl
theorem xi {n k:Nat} (hn:n ≤ 8):chK n k ≤ 70:=by
 by_cases hk:k ≤ 8
 ·have:∀ n,n < 9→∀ k,k < 9→chK n k ≤ 70:=by decide
  exact this n (by omega) k (by omega)
 ·have:∀ n k,n < k→chK n k=0:=by
    intro n
    induction n with
    | zero=>intro k h; match k,h with | k + 1,_=>rfl
    | succ n ih=>intro k h; match k,h with | k + 1,h=>show chK n k + chK n (k + 1)=0; rw [ih k (by omega),ih (k + 1) (by omega)]
  rw [this n k (by omega)]; omega
theorem rG {l:Spx} {k:Nat} (h:l.length ≤ 8):(dz l k).length ≤ 70:=by rw [mD]; exact xi h
theorem t7 {l s:Spx} {k:Nat} (hl:b6 bt l) (hs:s ∈ dz l k):b6 bt s:=hl.sublist (fD.1 hs).1
theorem sj {l:Spx} {i k:Nat} (hi:i < l.length):dz (l.drop i) (k + 1)=(dz (l.drop (i + 1)) k).map (l.getD i default :: ·) ++ dz (l.drop (i + 1)) (k + 1):=by
 rw [List.drop_eq_getElem_cons hi,jM]
 simp [List.getD,hi]
end Go.Proofs.YtbgdcebmgjafjaaGreat
namespace Go.Proofs.YtbgdcebmgjafjaaGreat
open Go Go.Abs
open Nat (reduceEqDiff reduceAdd reduceLeDiff)
attribute [local irreducible] aC ak bb a8 aL aQ az aR ba br Go.Abs.Fn aZ Go.Abs.Pure ax aH Yl
theorem tT (s:AV) (l:Spx) (hl:l.length ≤ 1000000) (h0:l ≠ []) (H:Hp) (nx:Nat) (hn:eG s=some l.length) (hs:∀ H',(∀ x,x < nx→H' x=H x)→cR 2 H' s=some (l.length,cX l)):Abs.Fn Tryz.prog 31 [s] H nx fun r H' nx'=>r=.msl nx (l.length * 2) 2 0 l.length∧H'=ah H nx (cX l)∧nx'=nx + 1:=by
 have hpos:=List.length_pos_iff.2 h0
 refine Abs.Fn.of_c2 follows xR (Nat.le_of_ble_eq_true rfl) ?_
 simp only [b31,cO,cG,cN,cM,cD,cF,cB,aq,aG]
 (have zz:=and_self; repeat' (first|refine zW ?_|apply a_n|refine zO ?_|refine vY ?_|fail)) <;> (try clear zz)
 refine qE (k:=l.length) (by ((try simp only [bU,ZA,reduceEqDiff,↓reduceIte,reduceAdd,reduceLeDiff]); (try with_reducible rfl)); exact hn) (fun h=>?_) (fun h=>by omega) (fun h=>by omega)
 (have zz:=and_self; repeat' (first|refine zW ?_|apply a_n|refine zO ?_|refine vY ?_|refine b0Y ?_|refine cFY ?_|fail)) <;> (try clear zz)
 refine jA rfl ev0 ev0 (hs _ fun x _=>rfl) (nN _) (by omega) (by omega) ?_
 (have zz:=and_self; repeat' (first|apply a_n|refine zO ?_|refine vY ?_|refine ag rfl ?_|refine r1Y ?_|fail)) <;> (try clear zz)
 exact ⟨rfl,rfl,rfl⟩
theorem xW {y lo kb sb k N:Nat} {s:Spx} (hs:s.length ≤ 1000) (hk:k ≤ 1000) (I:List Spx→Hp→Nat→Prop)
    (hp:∀ S H nx,I S H nx→H kb=some [.int .i64 k]∧H sb=some [ap s]∧lo + 3 ≤ nx∧kb < lo∧sb < lo)
    (stab:∀ S H H' nx nx',I S H nx→nx ≤ nx'→(∀ i,i < nx→¬ (lo ≤ i∧i < lo + 3)→H' i=H i)→I S H' nx')
    (rnd:∀ S f H nx,I S H nx→f.length=k→f ≠ []→S.length < N→Yl Tryz.prog y [.msl nx (k * 2) 2 0 k] (ah H nx (cX f)) (nx + 1) fun r H' nx'=>r=.bool true∧I (S ++ [f]) H' nx'∧nx ≤ nx'∧∀ i,lo ≤ i→i < lo + 3→H' i=H i) :
    ∀ (j:Nat) (ch:Spx) (at_:Nat) (S:List Spx) (H:Hp) (nx:Nat),0 < k→ch.length + j=k→S.length + (dz (s.drop at_) j).length ≤ N→at_ ≤ s.length→I S H nx→H lo=some [.yld y]→H (lo + 1)=some [.func 114 [.ptr kb 1 0,.ptr lo 1 0,.ptr sb 1 0,.ptr (lo + 1) 1 0]]→(∃ C,H (lo + 2)=some C∧C.length=k * 2∧C.take (ch.length * 2)=cX ch) →
     Abs.Fn Tryz.prog 114 [.int .i64 at_,.msl (lo + 2) (k * 2) 2 0 ch.length,.ptr kb 1 0,.ptr lo 1 0,.ptr sb 1 0,.ptr (lo + 1) 1 0] H nx fun r H' nx'=>r=.bool true∧I (S ++ (dz (s.drop at_) j).map (ch ++ ·)) H' nx'∧nx ≤ nx'∧H' lo=H lo∧H' (lo + 1)=H (lo + 1)∧∃ C,H' (lo + 2)=some C∧C.length=k * 2∧C.take (ch.length * 2)=cX ch:=by
 intro j
 induction j with
 | zero =>
  intro ch at_ S H nx hk0 hj hN hat hI h1 h2 ⟨C,h3,hc1,hc2⟩
  obtain ⟨g1,g2,g3,g4,g5⟩:=hp _ _ _ hI
  have hlen:ch.length=k:=by omega
  have hne:ch ≠ []:=fun e=>by rw [e] at hlen; simp at hlen; omega
  obtain rfl:C=cX ch:=by rw [← hc2,List.take_of_length_le (by omega)]
  refine Abs.Fn.of_c2 follows u4 (Nat.le_of_ble_eq_true rfl) ?_
  simp only [vW,cO,cG,cN,cM,cD,cF,cB,aq,aG]
  have hcl:=tT (.msl (lo + 2) (k * 2) 2 0 k) ch (by omega) hne H nx (by rw [hlen]; rfl) (fun H' hH'=>by rw [hlen]; exact (gA (n:=k * 2) (off:=0) (len:=k) ((hH' (lo + 2) (by omega)).trans h3) hc1 (by omega)).trans (by rw [List.drop_zero,List.take_of_length_le (by omega)]))
  rw [hlen] at hcl
  rw [hlen]
  have z:decide ((k:Int)=k)=true:=decide_eq_true rfl
  (have zz:=aI @g1 (aI @g2 (aI @h1 (aI @h2 @z))); repeat' (first|refine zW ?_|apply a_n|refine zO ?_|refine vY ?_|(refine zGY ?_ ?_ <;> (intro _hg; try (exfalso; omega)))|fail)) <;> (try clear zz)
  refine lL lo h1 fun S0 hS hsub=>?_
  (have zz:=@hS; repeat' (first|apply a_n|refine zO ?_|refine nvY ?_|fail)) <;> (try clear zz)
  refine im ?_
  refine av ev0 ev0 hcl ?_
  rintro _ H2 nx2 ⟨rfl,rfl,rfl⟩
  refine ng ⟨hsub _ (by rw [af (by omega)]; exact h1),?_⟩
  refine jW ?_
  refine v6 ev0 ev0 (Yl.mono (rnd S ch H nx hI hlen hne (by rw [oo] at hN; exact hN)) ?_)
  rintro r H3 nx3 ⟨rfl,e1,e2,e3⟩
  (have zz:=and_self; repeat' (first|apply a_n|apply a_r|refine zO ?_|refine nvY ?_|refine ag rfl ?_|refine r1Y ?_|fail)) <;> (try clear zz)
  refine ⟨rfl,?_,e2,e3 _ (by omega) (by omega),e3 _ (by omega) (by omega),cX ch,(e3 _ (by omega) (by omega)).trans h3,hc1,by rw [← hlen]; exact hc2⟩
  rw [oo,List.map_cons,List.map_nil,List.append_nil]
  exact e1
 | succ j ih =>
  intro ch at_ S H nx hk0 hj hN hat hI h1 h2 ⟨C,h3,hc1,hc2⟩
  obtain ⟨g1,g2,g3,g4,g5⟩:=hp _ _ _ hI
  refine Abs.Fn.of_c2 follows u4 (Nat.le_of_ble_eq_true rfl) ?_
  simp only [vW,cO,cG,cN,cM,cD,cF,cB,aq,aG]
  have z:decide ((ch.length:Int)=k)=false:=decide_eq_false (by omega)
  (have zz:=aI @g1 (aI @g2 (aI @h1 (aI @h2 @z))); repeat' (first|refine zW ?_|apply a_n|refine zO ?_|refine vY ?_|refine cFY ?_|fail)) <;> (try clear zz)
  refine aS (X:=Nat × List Spx) (fun x=>[(1,.msl (lo + 2) (k * 2) 2 0 ch.length),(4,.ptr sb 1 0),(5,.ptr (lo + 1) 1 0),(9,.int .i64 x.1)]) (fun x H' nx'=>x.1 ≤ s.length∧I x.2 H' nx'∧nx ≤ nx'∧H' lo=H lo∧H' (lo + 1)=H (lo + 1)∧(∃ C,H' (lo + 2)=some C∧C.length=k * 2∧C.take (ch.length * 2)=cX ch)∧x.2 ++ (dz (s.drop x.1) (j + 1)).map (ch ++ ·)=S ++ (dz (s.drop at_) (j + 1)).map (ch ++ ·)) (fun x=>s.length - x.1) (at_,S) ⟨hat,hI,Nat.le_refl _,rfl,rfl,⟨C,h3,hc1,hc2⟩,rfl⟩ ag0 ?_
  rintro ⟨i,S1⟩ H1 nx1 ⟨i1,hI1,i2,i3,i4,⟨C1,k3,d1,d2⟩,htot⟩
  dsimp only at i1 hI1 htot ⊢
  obtain ⟨q1,q2,q3,q4,q5⟩:=hp _ _ _ hI1
  have w1:=i3.trans h1
  have w2:=i4.trans h2
  by_cases hi:i < s.length
  rotate_left
  ·(have zz:=aI @q1 (aI @q2 @ar); repeat' (first|refine zW ?_|apply a_n|apply a_x|refine zO ?_|refine vY ?_|(refine zGY ?_ ?_ <;> (intro _hg; try (exfalso; omega)))|refine ag rfl ?_|refine r1Y ?_|fail)) <;> (try clear zz)
   rw [show s.drop i=[] from List.drop_eq_nil_of_le (by omega),pP,List.map_nil,List.append_nil] at htot
   exact ⟨rfl,by rw [← htot]; exact hI1,i2,i3,i4,C1,k3,d1,d2⟩
  have ix:=ix2 hi
  rw [sj hi,List.map_append,List.map_map,← List.append_assoc] at htot
  have hmm:(dz (s.drop (i + 1)) j).map ((fun x=>ch ++ x) ∘ fun x=>s.getD i default :: x)=(dz (s.drop (i + 1)) j).map ((ch ++ [s.getD i default]) ++ ·):=List.map_congr_left fun x _=>by simp
  rw [hmm] at htot
  generalize s.getD i default=v at *
  (have zz:=aI @q1 (aI @q2 @ar); repeat' (first|refine zW ?_|apply a_n|refine zO ?_|refine vY ?_|(refine zGY ?_ ?_ <;> (intro _hg; try (exfalso; omega)))|fail)) <;> (try clear zz)
  refine k9 sb (lo + 1) q2 w2 (by omega) fun S0 hS1 hS2 hsub=>?_
  (have zz:=aI @hS1 (aI @hS2 @ix); repeat' (first|apply a_n|refine zO ?_|refine nvY ?_|fail)) <;> (try clear zz)
  refine im ?_
  (have zz:=and_self; repeat' (first|apply a_n|refine zO ?_|refine blY ?_|fail)) <;> (try clear zz)
  refine ⟨hsub _ (by rw [af (by omega)]; exact q2) (by rw [af (by omega)]; exact w2),?_⟩
  refine im ?_
  refine xE (b:=lo + 2) (m:=k * 2) (off:=0) (len:=ch.length) (n:=1) rfl ev0 (by rw [af (by omega)]; exact k3) ev0 jL rfl d1 (fun _=>by omega) (by omega) (by omega) ?_
  refine ng ⟨hsub _ (by rw [af (by omega),af (by omega)]; exact q2) (by rw [af (by omega),af (by omega)]; exact w2),?_⟩
  refine jW ?_
  have hl1:(ch ++ [v]).length=ch.length + 1:=by simp
  have hcc:=ec ch
  have hput:(a9 C1 (0 + ch.length * 2) [.int .i64 v.color,.int .i64 v.label]).length=k * 2∧(a9 C1 (0 + ch.length * 2) [.int .i64 v.color,.int .i64 v.label]).take ((ch.length + 1) * 2)=cX (ch ++ [v]):=by
   rw [Nat.zero_add]
   simp only [a9]
   refine ⟨by simp [d1]; omega,?_⟩
   rw [d2,gH,xc,List.take_append_of_le_length (by simp [hcc]; omega),List.take_of_length_le (by simp [hcc]; omega)]
  have hN1:S1.length + (dz (s.drop (i + 1)) j).length ≤ N:=by
   have:=congrArg List.length htot
   simp only [List.length_append,List.length_map] at this
   omega
  have hih:=ih (ch ++ [v]) (i + 1) S1 (ah (ah H1 nx1 [.int .i64 v.color,.int .i64 v.label]) (lo + 2) (a9 C1 (0 + ch.length * 2) [.int .i64 v.color,.int .i64 v.label])) (nx1 + 1) hk0 (by omega) hN1 (by omega) (stab _ _ _ _ _ hI1 (by omega) (fun x hx hn=>by rw [af (by omega),af (by omega)])) (by rw [af (by omega),af (by omega)]; exact w1) (by rw [af (by omega),af (by omega)]; exact w2) ⟨_,ai,hput.1,by rw [hl1]; exact hput.2⟩
  rw [hl1,show ((i + 1:Nat):Int)=(i:Int) + 1 by omega] at hih
  refine av ev0 ev0 hih ?_
  rintro r H4 nx4 ⟨rfl,f1,f2,f3,f4,C4,f5,f6,f7⟩
  (have zz:=and_self; repeat' (first|apply a_n|refine zO ?_|refine vY ?_|refine nvY ?_|refine cFY ?_|fail)) <;> (try clear zz)
  refine ⟨(i + 1,S1 ++ (dz (s.drop (i + 1)) j).map ((ch ++ [v]) ++ ·)),by dsimp only; omega,⟨by dsimp only; omega,f1,by omega,f3.trans ?_,f4.trans ?_,⟨C4,f5,f6,?_⟩,htot⟩,ag0⟩
  ·rw [af (by omega),af (by omega)]; exact i3
  ·rw [af (by omega),af (by omega)]; exact i4
  ·have:=congrArg (List.take (ch.length * 2)) f7
   rw [List.take_take,Nat.min_eq_left (by omega),gH,List.take_append_of_le_length (by omega)] at this
   rw [this]
   exact List.take_of_length_le (by omega)
end Go.Proofs.YtbgdcebmgjafjaaGreat
namespace Go.Proofs.YtbgdcebmgjafjaaGreat
open Go Go.Abs
open Nat (reduceEqDiff reduceAdd reduceLeDiff)
attribute [local irreducible] aC ak bb a8 aL aQ az aR ba br Go.Abs.Fn aZ Go.Abs.Pure ax aH Yl
theorem ui {y kb sb k:Nat} {s:Spx} {H:Hp} {nx:Nat} (hs:s.length ≤ 1000) (hk0:0 < k) (hk:k ≤ 1000) (I:List Spx→Hp→Nat→Prop)
    (hp:∀ S H nx',I S H nx'→H kb=some [.int .i64 k]∧H sb=some [ap s]∧nx + 3 ≤ nx'∧kb < nx∧sb < nx)
    (stab:∀ S H H' nx1 nx',I S H nx1→nx1 ≤ nx'→(∀ i,i < nx1→¬ (nx ≤ i∧i < nx + 3)→H' i=H i)→I S H' nx')
    (rnd:∀ S f H nx1,I S H nx1→f.length=k→f ≠ []→S.length < (dz s k).length→Yl Tryz.prog y [.msl nx1 (k * 2) 2 0 k] (ah H nx1 (cX f)) (nx1 + 1) fun r H' nx'=>r=.bool true∧I (S ++ [f]) H' nx'∧nx1 ≤ nx'∧∀ i,nx ≤ i→i < nx + 3→H' i=H i)
    (gk:H kb=some [.int .i64 k]) (lk:kb < nx) (h0:∀ H',(∀ i,i < nx→H' i=H i)→I [] H' (nx + 3)) :
    Abs.Fn Tryz.prog 113 [.yld y,.ptr kb 1 0,.ptr sb 1 0] H nx fun _ H' nx'=>I (dz s k) H' nx':=by
 refine Abs.Fn.of_c2 follows wX (Nat.le_of_ble_eq_true rfl) ?_
 simp only [xj,cO,cG,cN,cM,cD,cF,cB,aq,aG]
 (have zz:=@gk; repeat' (first|refine zW ?_|apply a_n|refine zO ?_|refine vY ?_|refine alY ?_|refine bxY ?_|refine stY ?_|fail)) <;> (try clear zz)
 generalize hH:ah (ah (ah H nx [.yld y]) (nx + 1) [.nilf]) (nx + 1) (a9 [.nilf] 0 [.func 114 [.ptr kb 1 0,.ptr nx 1 0,.ptr sb 1 0,.ptr (nx + 1) 1 0]])=H1
 have hfn:H1 (nx + 1)=some [.func 114 [.ptr kb 1 0,.ptr nx 1 0,.ptr sb 1 0,.ptr (nx + 1) 1 0]]:=by rw [← hH,ai]; rfl
 have hfk:H1 kb=some [.int .i64 k]:=by rw [← hH,af (by omega),af (by omega),af (by omega)]; exact gk
 have hfy:H1 nx=some [.yld y]:=by rw [← hH,af (by omega),af (by omega),ai]
 have hfo:∀ i,i < nx→H1 i=H i:=fun i hi=>by rw [← hH,af (by omega),af (by omega),af (by omega)]
 clear hH
 refine k9 kb (nx + 1) hfk hfn (by omega) fun S0 hS1 hS2 hsub=>?_
 (have zz:=aI @hS1 @hS2; repeat' (first|apply a_n|refine zO ?_|refine nvY ?_|fail)) <;> (try clear zz)
 refine im ?_
 refine x5 (k1:=.i64) (k2:=.i64) (n:=0) (m:=k) rfl ev0 ev0 (Int.le_refl _) (by omega) (by omega) (by omega) ?_
 refine ng ⟨hsub _ (by rw [af (by omega)]; exact hfk) (by rw [af (by omega)]; exact hfn),?_⟩
 refine jW ?_
 have hz:(aV (AV.agg [AV.int .i64 0,AV.int .i64 0]) k).length=k * 2:=by simp [aV,AV.cells]
 have hih:=xW (y:=y) (N:=(dz s k).length) (lo:=nx) (kb:=kb) (sb:=sb) (k:=k) (s:=s) hs hk I hp stab rnd k [] 0 [] (ah H1 (nx + 2) (aV (AV.agg [AV.int .i64 0,AV.int .i64 0]) k)) (nx + 3) hk0 (by simp) (by simp) (Nat.zero_le _) (h0 _ (fun i hi=>by rw [af (by omega)]; exact hfo i hi)) (by rw [af (by omega)]; exact hfy) (by rw [af (by omega)]; exact hfn) ⟨_,ai,hz,rfl⟩
 refine av ev0 (by ((try simp only [bU,ZA,reduceEqDiff,↓reduceIte,reduceAdd,reduceLeDiff]); (try with_reducible rfl)); rfl) hih ?_
 rintro r H4 nx4 ⟨rfl,f1,-⟩
 (have zz:=and_self; repeat' (first|apply a_n|refine zO ?_|apply wx|refine ag rfl ?_|fail)) <;> (try clear zz)
 rw [List.drop_zero,List.nil_append,show (fun x:Spx=>([]:Spx) ++ x)=id from rfl,List.map_id] at f1
 exact f1
theorem p6 {kb sb k:Nat} {s:Spx} {H:Hp} {nx:Nat} (hs:s.length ≤ 8) (hk0:0 < k) (hk:k ≤ 1000) (gk:H kb=some [.int .i64 k]) (gs:H sb=some [ap s]) (lk:kb < nx) (ls:sb < nx) :
    Abs.Fn Tryz.prog 112 [.esl,.func 113 [.ptr kb 1 0,.ptr sb 1 0]] H nx fun r H' nx'=>Row H' 1 r ((dz s k).map ap)∧nx ≤ nx'∧∀ b',eB r=some b'→nx ≤ b'∧b' < nx':=by
 refine Abs.Fn.of_c2 follows wH (Nat.le_of_ble_eq_true rfl) ?_
 simp only [xu,cO,cG,cN,cM,cD,cF,cB,aq,aG]
 (have zz:=and_self; repeat' (first|refine zW ?_|apply a_n|refine zO ?_|refine vY ?_|refine bxY ?_|fail)) <;> (try clear zz)
 refine sV (nx + 1) (nx + 2) rfl rfl ev0 (fun c0 cj hy=>?_)
 refine Abs.Fn.mono (ui (nx:=nx + 2) (kb:=kb) (sb:=sb) (k:=k) (s:=s) (by omega) hk0 hk (fun S H' nx'=>nx + 5 ≤ nx'∧H' kb=some [.int .i64 k]∧H' sb=some [ap s]∧H' (nx + 1)=some [c0]∧∃ sv,H' nx=some [sv]∧Row H' 1 sv (S.map ap)∧∀ b',eB sv=some b'→nx + 5 ≤ b'∧b' < nx') ?_ ?_ ?_ ?_ ?_ ?_) ?_
 ·rintro S H' nx' ⟨h1,h2,h3,h4,h5⟩
  exact ⟨h2,h3,by omega,by omega,by omega⟩
 ·rintro S H1 H2 a c ⟨h1,h2,h3,h4,sv,h5,h6,h7⟩ hac hs'
  refine ⟨by omega,(hs' _ (by omega) (by omega)).trans h2,(hs' _ (by omega) (by omega)).trans h3,(hs' _ (by omega) (by omega)).trans h4,sv,(hs' _ (by omega) (by omega)).trans h5,h6.same (fun b' hb'=>hs' _ (h7 b' hb').2 (by have:=h7 b' hb'; omega)),fun b' hb'=>⟨(h7 b' hb').1,by have:=h7 b' hb'; omega⟩⟩
 ·rintro S f H' nx' ⟨h1,h2,h3,h4,sv,h5,h6,h7⟩ hfl hf0 hSN
  have h4':ah H' nx' (cX f) (nx + 1)=some [c0]:=by rw [af (by omega)]; exact h4
  refine hy _ _ _ _ h4' rfl ?_
  clear hy
  (have zz:=and_self; repeat' (first|apply a_n|refine zO ?_|refine vZ ?_|fail)) <;> (try clear zz)
  refine ⟨h4',?_⟩
  have hS70:=Nat.lt_of_lt_of_le hSN (rG (k:=k) hs)
  have hd:bH (ah H' nx' (cX f)) (nx + 1) nx'=some (cX f):=by rw [e8 (by omega),ai]
  have hdo:∀ x,x < nx'→x ≠ nx + 1→bH (ah H' nx' (cX f)) (nx + 1) x=H' x:=fun x a b=>by rw [e8 b,af (by omega)]
  generalize bH (ah H' nx' (cX f)) (nx + 1)=H1 at *
  refine dg ?_
  refine kO (only nx' (cX f)) (bH H1 nx') [(2,.ptr nx 1 0),(5,ap f)] (Fz.one hd) ⟨.inl rfl,.inr (xY (s:=.msl nx' (k * 2) 2 0 k) (by rw [← hfl]; exact Row.box nx' f.length (cX f) je (ec f))),trivial⟩ ?_
  have he:∀ x,x < nx'→x ≠ nx + 1→bH H1 nx' x=H' x:=fun x a b=>by rw [e8 (by omega)]; exact hdo x a b
  have g5:bH H1 nx' nx=some [sv]:=(he nx (by omega) (by omega)).trans h5
  clear hd hdo
  generalize bH H1 nx'=H2 at *
  (have zz:=aI @g5 (aI @aP @aF); repeat' (first|apply a_n|refine zO ?_|refine vY ?_|refine blY ?_|fail)) <;> (try clear zz)
  refine jX rfl ev0 (h6.same fun b' hb'=>?_) ev0 gU rfl rfl Nat.one_pos (by rw [List.length_map]; omega) (by rw [List.length_map]; omega) ?_
  ·have:=h7 b' hb'
   rw [af (by omega)]; exact he _ (by omega) (by omega)
  rintro sv' H3 nx3 r1 r2 r3 r4 r5
  have zs:∀ x,x < nx + 5→eB sv ≠ some x:=fun x hx e=>by have:=h7 x e; omega
  have z:∀ x,x < nx'→x ≠ nx + 1→eB sv ≠ some x→H3 x=H' x:=fun x a1 a2 a3=>(r4 x (by omega) a3).trans (by rw [af (by omega)]; exact he x a1 a2)
  have g6:H3 nx=some [sv]:=(z nx (by omega) (by omega) (zs _ (by omega))).trans h5
  obtain ⟨q1,q2⟩:=r1.one
  (have zz:=aI @g6 (aI @q1 @q2); repeat' (first|apply a_n|refine zO ?_|refine stY ?_|fail)) <;> (try clear zz)
  have w:∀ x,x ≠ nx→x ≠ nx + 1→ah (ah H3 nx (a9 [sv] 0 [sv'])) (nx + 1) [c0] x=H3 x:=fun x a1 a2=>by rw [af a2,af a1]
  have u7:∀ b',eB sv'=some b'→nx + 5 ≤ b'∧b' < nx3:=fun b' hb'=>by
   rcases r5 b' hb' with e | ⟨e1,e2⟩
   ·have:=h7 b' e; omega
   ·omega
  refine ⟨rfl,⟨by omega,?_,?_,ai,sv',?_,?_,u7⟩,by omega,fun x x1 x2=>?_⟩
  ·rw [w _ (by omega) (by omega),z _ (by omega) (by omega) (zs _ (by omega)),h2]
  ·rw [w _ (by omega) (by omega),z _ (by omega) (by omega) (zs _ (by omega)),h3]
  ·rw [af (by omega),ai]; rfl
  ·rw [List.map_append]
   exact r1.same (fun b' hb'=>w b' (by have:=u7 b' hb'; omega) (by have:=u7 b' hb'; omega))
  ·rw [w _ (by omega) (by omega),z _ (by omega) (by omega) (zs _ (by omega))]
 ·rw [af (by omega),af (by omega)]; exact gk
 ·omega
 ·intro H' hH'
  refine ⟨by omega,?_,?_,?_,.esl,?_,.nil,fun b' hb'=>(by cases hb')⟩
  ·rw [hH' _ (by omega),af (by omega),af (by omega),gk]
  ·rw [hH' _ (by omega),af (by omega),af (by omega),gs]
  ·rw [hH' _ (by omega),ai]
  ·rw [hH' _ (by omega),af (by omega),ai]
 ·rintro r H' nx' ⟨h1,h2,h3,h4,sv,h5,h6,h7⟩
  refine .inl ⟨h4,?_⟩
  (have zz:=@h5; repeat' (first|refine zW ?_|apply a_n|refine zO ?_|refine vY ?_|refine ag rfl ?_|refine r1Y ?_|fail)) <;> (try clear zz)
  exact ⟨h6.same (fun b' hb'=>e8 (by have:=h7 b' hb'; omega)),by omega,fun b' hb'=>by have:=h7 b' hb'; omega⟩
end Go.Proofs.YtbgdcebmgjafjaaGreat
namespace Go.Proofs.YtbgdcebmgjafjaaGreat
open Go Go.Abs
def f8 (l:List Spx):List Spx:=(eI bK l).filter fun s=>!bm (eI bK l) s
theorem mv {l:List Spx} {s:Spx}:s ∈ f8 l ↔ s ∈ l∧bm l s=false:=by
 unfold f8
 rw [List.mem_filter,eM]
 refine and_congr_right fun _=>?_
 cases h:bm l s
 ·refine ⟨fun _=>rfl,fun _=>?_⟩
  cases h2:bm (eI bK l) s
  ·rfl
  ·obtain ⟨t,t1,t2⟩:=cu.1 h2
   rw [cu.2 ⟨t,eM.1 t1,t2⟩] at h; cases h
 ·refine ⟨fun h2=>?_,fun h2=>by cases h2⟩
  obtain ⟨t,t1,t2⟩:=cu.1 h
  rw [cu.2 ⟨t,eM.2 t1,t2⟩] at h2; cases h2
theorem tZ {l:List Spx}:b6 bK (f8 l):=(iL uZ l).sublist List.filter_sublist
theorem pm {l:List Spx} {s:Spx} (h:s ∈ f8 l):s ∈ l:=(mv.1 h).1
theorem qp {l:List Spx}:(f8 l).length ≤ l.length:=Nat.le_trans (List.length_filter_le _ _) iW
theorem oz {l:List Spx} (h1:l.length ≤ 4096) (h2:∀ s ∈ l,bn s=0):bc (f8 l)=0:=by
 refine pF (Nat.le_trans qp h1) (fun s hs=>h2 s (pm hs)) tZ fun s hs=>?_
 cases h:bm (f8 l) s
 ·rfl
 ·obtain ⟨t,t1,t2⟩:=cu.1 h
  have:=(mv.1 hs).2
  rw [cu.2 ⟨t,pm t1,t2⟩] at this; cases this
theorem mw {m:MapV} {l:Spx} {w:Vtx}:w ∈ bW m l ↔ ∃ v ∈ l,iK m v=w:=by
 unfold bW; rw [eM,List.mem_map]
theorem ul {m:MapV} {l:Spx}:b6 bt (bW m l):=iL oJ _
theorem nY {m:MapV} {l:Spx}:(bW m l).length ≤ l.length:=by
 unfold bW
 have:=iW (K:=bt) (l:=l.map (iK m))
 rwa [List.length_map] at this
theorem v8 {m:MapV} {l:Spx} (h:l ≠ []):bW m l ≠ []:=fun e=>h (by unfold bW at e; rwa [ug,List.map_eq_nil_iff] at e)
theorem iq {m:MapV} {l:Spx}:bV m l=true ↔ ∀ v ∈ l,v ∈ m.fr:=by
 unfold bV; simp [List.all_eq_true]
theorem gJ {m:MapV} {l:Spx} (hm:dL m=0) (hl:bn l=0) (ht:bV m l=true):bn (bW m l)=0:=by
 obtain ⟨q1,q2,q3,q4,q5⟩:=l4 hm
 obtain ⟨p1,p2,p3,p4⟩:=bC hl
 have hne:l ≠ []:=fun e=>by rw [e] at p1; simp at p1
 refine pn ⟨List.length_pos_iff.2 (v8 hne),Nat.le_trans nY p2⟩ ul fun w hw=>?_
 obtain ⟨v,v1,rfl⟩:=mw.1 hw
 exact q5 _ (uI q2 (iq.1 ht v v1))
def mi (m:MapV) (l:Spx):Spx × Int:=if dL m ≠ 0 then ([],dL m) else if bn l ≠ 0 then ([],bn l) else if bV m l=false then ([],6) else (bW m l,0)
def nD (m:MapV) (c:List Spx):List Spx × Int:=if dL m ≠ 0 then ([],dL m) else if bc c ≠ 0 then ([],bc c) else if c.all (bV m)=false then ([],6) else (f8 (c.map (bW m)),0)
end Go.Proofs.YtbgdcebmgjafjaaGreat
namespace Go.Proofs.YtbgdcebmgjafjaaGreat
open Go Go.Abs
theorem ve {H H':Hp} (hs:∀ b cs,H b=some cs→H' b=some cs) {x y:AV} (h:Snap H x y):Snap H' x y:=by
 induction h with
 | bool b=>exact .bool _
 | int k n=>exact .int _ _
 | str s=>exact .str _
 | nilp=>exact .nilp
 | nilf=>exact .nilf
 | nilm=>exact .nilm
 | esl=>exact .esl
 | eslsl sz=>exact .eslsl _
 | sl sz l l' hl hc h ih=>exact .sl sz l l' hl hc ih
 | slnil sz sz'=>exact .slnil _ _
 | msl b n sz off len cs l' hb hn hf hl hc h ih=>exact .msl b n sz off len cs l' (hs _ _ hb) hn hf hl hc ih
 | mslnil b n sz off sz'=>exact .mslnil _ _ _ _ _
 | ptr b n off cs cs' hb hn hl h ih=>exact .ptr b n off cs cs' (hs _ _ hb) hn hl ih
 | iptr cs cs' off hl h ih=>exact .iptr cs cs' off hl ih
 | func f cs cs' hl h ih=>exact .func f cs cs' hl ih
 | agg cs cs' hl h ih=>exact .agg cs cs' hl ih
 | tup cs cs' hl h ih=>exact .tup cs cs' hl ih
theorem oF {H:Hp} {s:AV} {l:Spx} {e f:Int} (h:Snap H s (ap l)) (he:e=f):Snap H (.tup [s,.int .i64 e]) (.tup [ap l,.int .i64 f]):=by
 subst he; exact jc (ao h (ao (.int _ _) ab))
theorem mt {H:Hp} {s:AV} {l:List Spx} {e f:Int} (h:Snap H s (aD l)) (he:e=f):Snap H (.tup [.agg [s],.int .i64 e]) (.tup [d8 l,.int .i64 f]):=by
 subst he; exact jc (ao (qr (ao h ab)) (ao (.int _ _) ab))
attribute [local irreducible] aC ak bb a8 aL aQ az aR ba br Go.Abs.Fn aZ Go.Abs.Pure ax aH Yl
theorem sf (m:MapV) (l:Spx) (hm:ShM m) (hl:Shn l):Pure Tryz.prog 23 [mR m,ap l] (.tup [ap (mi m l).1,.int .i64 (mi m l).2]):=by
 refine Pure.of_c2 follows zG (Nat.le_of_ble_eq_true rfl) ?_
 simp only [b23,cO,cG,cN,cM,cD,cF,cB,aq,aG]
 have hc:=d7 l hl
 unfold mi
 (have zz:=aI @aP @aF; repeat' (first|refine zW ?_|apply a_n|refine zO ?_|refine vZ ?_|refine bxZ ?_|fail)) <;> (try clear zz)
 refine av ev0 ev0 (qO m hm _ _) ?_
 rintro _ H1 nx1 ⟨hsm,hle,h⟩
 rcases h with ⟨he,B,rfl,hB1,hB2,hB3⟩ | ⟨he,rfl⟩
 rotate_left
 ·rw [if_pos he]
  have z:decide (dL m ≠ 0)=true:=decide_eq_true he
  (have zz:=@z; repeat' (first|refine zW ?_|apply a_n|apply a_r|refine zO ?_|refine vY ?_|refine cTY ?_|refine ag rfl ?_|refine r2Y ?_|fail)) <;> (try clear zz)
  exact oF (.eslsl _) rfl
 rw [if_neg (fun h=>h he)]
 obtain ⟨q1,q2,q3,q4,q5⟩:=l4 he
 have z0:decide ((0:Int) ≠ 0)=false:=rfl
 by_cases hes:bn l=0
 rotate_left
 ·rw [if_pos hes]
  have z:decide (bn l ≠ 0)=true:=decide_eq_true hes
  (have zz:=aI @z0 @z; repeat' (first|refine zW ?_|apply a_n|apply a_r|refine zO ?_|refine vY ?_|refine cY ?_ (hp:=hc) (hs:=by (first | refine aa ?_ rfl | apply ac); (repeat' (first | exact ab | apply aj | apply ae | exact au _)); first | done | fail)|refine cTY ?_|refine cFY ?_|refine ag rfl ?_|refine r2Y ?_|fail)) <;> (try clear zz)
  exact oF (.eslsl _) rfl
 rw [if_neg (fun h=>h hes)]
 rw [hes] at hc
 obtain ⟨p1,p2,p3,p4⟩:=bC hes
 have hne:l ≠ []:=fun e=>by rw [e] at p1; simp at p1
 (have zz:=@z0; repeat' (first|refine zW ?_|apply a_n|refine zO ?_|refine vY ?_|refine cY ?_ (hp:=hc) (hs:=by (first | refine aa ?_ rfl | apply ac); (repeat' (first | exact ab | apply aj | apply ae | exact au _)); first | done | fail)|refine cFY ?_|fail)) <;> (try clear zz)
 refine av ev0 ev0 (x9 m l q2 (by omega) hne B H1 nx1 hB3 hB2) ?_
 rintro _ H2 nx2 ⟨hle2,h⟩
 rcases h with ⟨ht,rfl,hsm2⟩ | ⟨ht,sv,Hf,H3,rfl,hone,hfz,hsn,hsm2⟩
 ·rw [if_pos ht]
  (have zz:=and_self; repeat' (first|refine zW ?_|apply a_n|apply a_r|refine zO ?_|refine vY ?_|refine cTY ?_|refine ag rfl ?_|refine r2Y ?_|fail)) <;> (try clear zz)
  exact oF (.eslsl _) rfl
 ·rw [if_neg (by rw [ht]; exact fun h=>by cases h)]
  (have zz:=@hone; repeat' (first|refine zW ?_|apply a_n|refine zO ?_|refine vY ?_|refine cFY ?_|refine ag rfl ?_|refine r2Y ?_|fail)) <;> (try clear zz)
  exact oF (ve hfz.sub hsn) rfl
end Go.Proofs.YtbgdcebmgjafjaaGreat
namespace Go.Proofs.YtbgdcebmgjafjaaGreat
open Go Go.Abs
def nM (s:Spx) (k:Int):List Spx × Int:=if bn s ≠ 0 then ([],bn s) else if k < 1 ∨ (s.length:Int) < k then ([],2) else (dz s k.toNat,0)
theorem qG {H:Hp} {s:AV} {l:List Spx} {e f:Int} (h:Snap H s (aD l)) (he:e=f):Snap H (.tup [s,.int .i64 e]) (.tup [aD l,.int .i64 f]):=by
 subst he; exact jc (ao h (ao (.int _ _) ab))
attribute [local irreducible] aC ak bb a8 aL aQ az aR ba br Go.Abs.Fn aZ Go.Abs.Pure ax aH Yl
theorem uv (s:Spx) (k:Nat) (H:Hp) (nx:Nat):Abs.Fn Tryz.prog 76 [ap s,.int .i64 k] H nx fun r H' nx'=>r=.func 113 [.ptr (nx + 1) 1 0,.ptr nx 1 0]∧H'=ah (ah H nx [ap s]) (nx + 1) [.int .i64 k]∧nx'=nx + 2:=by
 refine Abs.Fn.of_c2 follows zo (Nat.le_of_ble_eq_true rfl) ?_
 simp only [b76,cO,cG,cN,cM,cD,cF,cB,aq,aG]
 (have zz:=aI @aP @aF; repeat' (first|refine zW ?_|apply a_n|refine zO ?_|refine vY ?_|refine bxY ?_|refine ag rfl ?_|refine r1Y ?_|fail)) <;> (try clear zz)
 exact ⟨rfl,rfl,rfl⟩
theorem tw {kb sb k:Nat} {s:Spx} {H:Hp} {nx:Nat} (hs:s.length ≤ 8) (hk0:0 < k) (hk:k ≤ 1000) (gk:H kb=some [.int .i64 k]) (gs:H sb=some [ap s]) (lk:kb < nx) (ls:sb < nx) :
    Abs.Fn Tryz.prog 75 [.func 113 [.ptr kb 1 0,.ptr sb 1 0]] H nx fun r H' nx'=>Row H' 1 r ((dz s k).map ap)∧nx ≤ nx':=by
 refine Abs.Fn.of_c2 follows yj (Nat.le_of_ble_eq_true rfl) ?_
 simp only [b75,cO,cG,cN,cM,cD,cF,cB,aq,aG]
 (have zz:=and_self; repeat' (first|refine zW ?_|apply a_n|refine zO ?_|refine vY ?_|fail)) <;> (try clear zz)
 refine av ev0 ev0 (p6 hs hk0 hk gk gs lk ls) ?_
 rintro r H1 nx1 ⟨r1,r2,r3⟩
 obtain ⟨q1,q2⟩:=r1.one
 (have zz:=aI @q1 @q2; repeat' (first|apply a_n|refine zO ?_|refine vY ?_|refine ag rfl ?_|refine r1Y ?_|fail)) <;> (try clear zz)
 exact ⟨r1,r2⟩
theorem tY (s:Spx) (k:Int) (hs:Shn s):Pure Tryz.prog 35 [ap s,.int .i64 k] (.tup [aD (nM s k).1,.int .i64 (nM s k).2]):=by
 refine Pure.of_c2 follows yK (Nat.le_of_ble_eq_true rfl) ?_
 simp only [b35,cO,cG,cN,cM,cD,cF,cB,aq,aG]
 have hc:=d7 s hs
 unfold nM
 by_cases he:bn s=0
 rotate_left
 ·rw [if_pos he]
  have z:decide (bn s ≠ 0)=true:=decide_eq_true he
  (have zz:=@z; repeat' (first|refine zW ?_|apply a_n|apply a_r|refine zO ?_|refine vY ?_|refine cY ?_ (hp:=hc) (hs:=by (first | refine aa ?_ rfl | apply ac); (repeat' (first | exact ab | apply aj | apply ae | exact au _)); first | done | fail)|refine cTY ?_|refine ag rfl ?_|refine r2Y ?_|fail)) <;> (try clear zz)
  exact qG (.eslsl _) rfl
 rw [if_neg (fun h=>h he)]
 rw [he] at hc
 obtain ⟨p1,p2,p3,p4⟩:=bC he
 have z0:decide ((0:Int) ≠ 0)=false:=rfl
 by_cases hk:k < 1 ∨ (s.length:Int) < k
 ·rw [if_pos hk]
  (have zz:=aI @z0 @ar; repeat' (first|refine zW ?_|apply a_n|apply a_r|refine zO ?_|refine vY ?_|refine cY ?_ (hp:=hc) (hs:=by (first | refine aa ?_ rfl | apply ac); (repeat' (first | exact ab | apply aj | apply ae | exact au _)); first | done | fail)|refine gTY ?_|refine gFY ?_|refine cTY ?_|refine cFY ?_|(refine zGY ?_ ?_ <;> (intro _hg; try (exfalso; omega)))|refine ag rfl ?_|refine r2Y ?_|fail)) <;> (try clear zz)
  all_goals first | exact qG (.eslsl _) rfl | (exfalso; omega)
 rw [if_neg hk]
 obtain ⟨n,rfl⟩:∃ n:Nat,k=n:=⟨k.toNat,by omega⟩
 rw [Int.toNat_natCast]
 (have zz:=aI @z0 @ar; repeat' (first|refine zW ?_|apply a_n|refine zO ?_|refine vY ?_|refine cY ?_ (hp:=hc) (hs:=by (first | refine aa ?_ rfl | apply ac); (repeat' (first | exact ab | apply aj | apply ae | exact au _)); first | done | fail)|refine gTY ?_|refine cFY ?_|(refine zGY ?_ ?_ <;> (intro _hg; try (exfalso; omega)))|fail)) <;> (try clear zz)
 refine av ev0 ev0 (uv s n _ _) ?_
 rintro _ H1 nx1 ⟨rfl,rfl,rfl⟩
 refine av ev0 ev0 (tw (kb:=0 + 1) (sb:=0) (k:=n) (s:=s) p2 (by omega) (by omega) ai (by rw [af (by omega),ai]) (by omega) (by omega)) ?_
 rintro r H2 nx2 ⟨r1,r2⟩
 obtain ⟨q1,q2⟩:=r1.one
 (have zz:=aI @q1 @q2; repeat' (first|apply a_n|refine zO ?_|refine vY ?_|refine ag rfl ?_|refine r2Y ?_|fail)) <;> (try clear zz)
 exact qG (iG r1) rfl
end Go.Proofs.YtbgdcebmgjafjaaGreat
namespace Go.Proofs.YtbgdcebmgjafjaaGreat
open Go Go.Abs
attribute [local irreducible] aC ak bb a8 aL aQ az aR ba br Go.Abs.Fn aZ Go.Abs.Pure ax aH Yl
end Go.Proofs.YtbgdcebmgjafjaaGreat
namespace Go.Proofs.YtbgdcebmgjafjaaGreat
open Go Go.Abs
attribute [local irreducible] aC ak bb a8 aL aQ az aR ba br Go.Abs.Fn aZ Go.Abs.Pure ax aH Yl
end Go.Proofs.YtbgdcebmgjafjaaGreat
namespace Go.Proofs.YtbgdcebmgjafjaaGreat
open Go Go.Abs
open Nat (reduceEqDiff reduceAdd reduceLeDiff)
theorem sS {L:List Spx} {h:Nat} {x:Spx} (hh:h < L.length):(L.set h x).take (h + 1)=L.take h ++ [x]:=by
 rw [bX (by simpa using hh),List.take_set_of_le (Nat.le_refl h)]
 simp [List.getD,hh]
theorem kS {B n len k:Nat} (h:k < len) (hn:n ≠ 0):iH 1 (.msl B n 1 0 len) (some (.int .i64 k)) none none=some (.msl B n 1 k (len - k)):=by
 simp only [iH,a7,Int.natCast_nonneg,if_true,Int.toNat_natCast]
 rw [if_pos ⟨trivial,by omega,Nat.le_refl _,hn⟩,if_pos (.inr h),Nat.zero_add,Nat.mul_one]
theorem ra {B n len k:Nat} (h:k ≤ len) (hn:n ≠ 0):iH 1 (.msl B n 1 0 len) none (some (.int .i64 k)) none=some (.msl B n 1 0 k):=by
 simp only [iH,a7,Int.natCast_nonneg,if_true,Int.toNat_natCast]
 rw [if_pos ⟨trivial,by omega,h,hn⟩,if_pos (.inl trivial),Nat.zero_mul,Nat.sub_zero]
attribute [local irreducible] aC ak bb a8 aL aQ az aR ba br Go.Abs.Fn aZ Go.Abs.Pure ax aH Yl
theorem px (l:List Spx) (hl:Shn l) (hls:∀ s ∈ l,Shn s) (h0:l ≠ []) (H:Hp) (B nx:Nat) (hH:H B=some (l.map ap)) (hB:B < nx) :
    Abs.Fn Tryz.prog 126 [.msl B l.length 1 0 l.length,.func 40 []] H nx fun r H' nx'=>r=.msl B l.length 1 0 (bi l l.length)∧(∃ C,H'=ah H B C∧C.length=l.length∧C.take (bi l l.length)=(cE l l.length).map ap)∧nx'=nx:=by
 refine Abs.Fn.of_c2 follows wu (Nat.le_of_ble_eq_true rfl) ?_
 simp only [xg,cO,cG,cN,cM,cD,cF,cB,aq,aG]
 have hl':l.length ≤ 17592186044416:=hl
 have hpos:=List.length_pos_iff.2 h0
 have hid:H=ah H B (l.map ap):=dh hH
 (have zz:=and_self; repeat' (first|refine zW ?_|apply a_n|apply a_r|refine zO ?_|refine vZ ?_|(refine zGZ ?_ ?_ <;> (intro _hg; try (exfalso; omega)))|refine ag rfl ?_|refine r1Z ?_|fail)) <;> (try clear zz)
 ·have e1:l.length=1:=by omega
  have e2:cE l l.length=l:=by
   match l,e1 with
   | [a],_=>rfl
  refine ⟨?_,⟨_,hid,by simp,?_⟩,rfl⟩
  ·rw [show bi l l.length=l.length by rw [e1]; rfl]
  ·rw [e2,show bi l l.length=l.length by rw [e1]; rfl,List.take_of_length_le (by simp)]
 refine aS (X:=Nat) (fun k=>[(0,.msl B l.length 1 0 l.length),(1,.func 40 []),(5,.int .i64 k)]) (fun k H' nx'=>H'=H∧nx'=nx∧1 ≤ k∧k ≤ l.length∧bi l k=k∧cE l k=l.take k) (fun k=>l.length - k) 1 ⟨rfl,rfl,Nat.le_refl _,hpos,rfl,by match l,h0 with | a :: r,_=>rfl⟩ ag0 ?_
 rintro k H' nx' ⟨rfl,rfl,k1,k2,k3,k4⟩
 by_cases hk:k < l.length
 ·have tk:(k:Int) - 1=(k - 1:Nat):=by omega
  have heq:=pK (l.getD k default) (l.getD (k - 1) default) (hls _ (bj hk)) (hls _ (bj (by omega)))
  by_cases he:l.getD k default=l.getD (k - 1) default
  ·have hs:=kS (B:=B) (n:=l.length) hk (Nat.ne_of_gt hpos)
   rw [decide_eq_true he] at heq
   (have zz:=aI @tk (aI @hH (aI @Int.toNat_natCast (aI @hs (aI @aP @aF)))); repeat' (first|refine zW ?_|refine zM ?_|apply a_n|refine zO ?_|refine vZ ?_|refine cZ ?_ (hp:=heq) (hs:=by (first | refine aa ?_ rfl | apply ac); (repeat' (first | exact ab | apply aj | apply ae | exact au _)); first | done | fail)|refine cTZ ?_|(refine zGZ ?_ ?_ <;> (intro _hg; try (exfalso; omega)))|fail)) <;> (try clear zz)
   refine aS (X:=Nat × List Spx) (fun x=>[(0,.msl B l.length 1 0 l.length),(1,.func 40 []),(5,.int .i64 (bi l (k + x.1):Nat)),(6,.msl B l.length 1 k (l.length - k)),(7,.int .i64 x.1)]) (fun x H2 nx2=>x.2.length=l.length∧1 ≤ x.1∧k + x.1 ≤ l.length∧bi l (k + x.1) + 1 ≤ k + x.1∧H2=ah H' B (x.2.map ap)∧nx2=nx'∧(∀ p,k + x.1 ≤ p + 1→x.2.getD p default=l.getD p default)∧x.2.take (bi l (k + x.1))=cE l (k + x.1)) (fun x=>l.length - x.1) (1,l)
    ⟨rfl,Nat.le_refl _,hk,by dsimp only; rw [cV (by omega) he]; omega,hid,rfl,fun _ _=>rfl,by dsimp only; rw [cV (by omega) he,fQ (by omega) he,k3,k4]⟩ (by simp (disch:=omega) only [agr,ZG,reduceEqDiff,↓reduceIte,cV (show k ≠ 0 by omega) he,k3]) ?_
   rintro ⟨j,L⟩ H2 nx2 ⟨a1,a2,a3,a4,rfl,rfl,a5,a6⟩
   dsimp only at a1 a2 a3 a4 a5 a6 ⊢
   by_cases hj:k + j < l.length
   ·have tj:(j:Int) - 1=(j - 1:Nat):=by omega
    have r1:=a5 (k + j) (by omega)
    have r2:=a5 (k + (j - 1)) (by omega)
    have heq2:=pK (l.getD (k + j) default) (l.getD (k + (j - 1)) default) (hls _ (bj hj)) (hls _ (bj (by omega)))
    by_cases hd:l.getD (k + j) default=l.getD (k + (j - 1)) default
    ·have hq:bi l (k + (j + 1))=bi l (k + j):=cV (l:=l) (k:=k + j) (by omega) (by rw [hd,show k + j - 1=k + (j - 1) by omega])
     rw [decide_eq_true hd] at heq2
     (have zz:=aI @tj (aI @Int.toNat_natCast (aI @r1 (aI @r2 (aI @aP @aF)))); repeat' (first|refine zW ?_|refine zM ?_|apply a_n|refine zO ?_|refine vZ ?_|refine cZ ?_ (hp:=heq2) (hs:=by (first | refine aa ?_ rfl | apply ac); (repeat' (first | exact ab | apply aj | apply ae | exact au _)); first | done | fail)|refine cFZ ?_|(refine zGZ ?_ ?_ <;> (intro _hg; try (exfalso; omega)))|fail)) <;> (try clear zz)
     refine ⟨(j + 1,L),by dsimp only; omega,⟨a1,by dsimp only; omega,by dsimp only; omega,?_,rfl,rfl,fun p hp=>a5 p (by dsimp only at hp; omega),by dsimp only; rw [hq,show k + (j + 1)=k + j + 1 from rfl,fQ (by omega) (by rw [hd,show k + j - 1=k + (j - 1) by omega])]; exact a6⟩,(have zz:=@hq; agZ)⟩
     dsimp only
     rw [hq]
     omega
    ·have hq:bi l (k + (j + 1))=bi l (k + j) + 1:=fL (l:=l) (k:=k + j) (by rw [show k + j - 1=k + (j - 1) by omega]; exact hd)
     have hlm:=fh (f:=ap) (l:=L) (k:=bi l (k + j)) (x:=l.getD (k + j) default) (by omega)
     rw [decide_eq_false hd] at heq2
     (have zz:=aI @tj (aI @Int.toNat_natCast (aI @r1 (aI @r2 (aI @aP @aF)))); repeat' (first|refine zW ?_|refine zM ?_|apply a_n|refine zO ?_|refine vZ ?_|refine cZ ?_ (hp:=heq2) (hs:=by (first | refine aa ?_ rfl | apply ac); (repeat' (first | exact ab | apply aj | apply ae | exact au _)); first | done | fail)|refine stZ ?_|refine cTZ ?_|(refine zGZ ?_ ?_ <;> (intro _hg; try (exfalso; omega)))|fail)) <;> (try clear zz)
     refine ⟨(j + 1,L.set (bi l (k + j)) (l.getD (k + j) default)),by dsimp only; omega,⟨by simp [a1],by dsimp only; omega,by dsimp only; omega,?_,?_,rfl,fun p hp=>?_,by dsimp only; rw [hq,sS (by omega),a6,show k + (j + 1)=k + j + 1 from rfl,fV (by rw [show k + j - 1=k + (j - 1) by omega]; exact hd)]⟩,(have zz:=@hq; agZ)⟩
     ·dsimp only
      rw [hq]
      omega
     ·dsimp only
      rw [al,hlm]
     ·dsimp only at hp ⊢
      rw [List.getD_eq_getElem?_getD,List.getElem?_set_ne (by omega),← List.getD_eq_getElem?_getD]
      exact a5 p (by omega)
   ·have hn:k + j=l.length:=by omega
    have hl1:=kS (B:=B) (n:=l.length) (show bi l (k + j) < l.length by omega) (Nat.ne_of_gt hpos)
    have hl2:=ra (B:=B) (n:=l.length) (show bi l (k + j) ≤ l.length by omega) (Nat.ne_of_gt hpos)
    (have zz:=aI @hl1 @hl2; repeat' (first|refine zW ?_|apply a_n|apply a_x|refine zO ?_|refine vZ ?_|(refine zGZ ?_ ?_ <;> (intro _hg; try (exfalso; omega)))|fail)) <;> (try clear zz)
    refine wJ (H':=ah (ah H' B (L.map ap)) B (a9 (L.map ap) (bi l (k + j)) (aV .esl (l.length - bi l (k + j))))) ?_ ?_
    ·((try simp only [bU,ZA,reduceEqDiff,↓reduceIte,reduceAdd,reduceLeDiff]); (try with_reducible rfl))
     simp only [eP]
     rw [if_neg (by omega),ai]
     dsimp only
     rw [if_pos ⟨by simp [a1],trivial,rfl,rfl,by omega⟩]
     rfl
    ·(have zz:=@hl2; repeat' (first|refine zW ?_|apply a_n|apply a_r|refine zO ?_|refine vZ ?_|refine ag rfl ?_|refine r1Z ?_|fail)) <;> (try clear zz)
     refine ⟨by rw [hn],⟨_,al _ _ _ _,?_,?_⟩,rfl⟩
     ·have hz:(aV AV.esl (l.length - bi l (k + j))).length=l.length - bi l (k + j):=by simp [aV,show AV.esl.cells.length=1 from rfl]
      simp [a9,hz]
      omega
     ·rw [← hn,← a6,List.map_take]
      simp only [a9]
      rw [List.append_assoc,List.take_append_of_le_length (by simp; omega),List.take_of_length_le (by simp; omega)]
  ·rw [decide_eq_false he] at heq
   (have zz:=aI @tk (aI @hH (aI @Int.toNat_natCast (aI @aP @aF))); repeat' (first|refine zW ?_|refine zM ?_|apply a_n|refine zO ?_|refine vZ ?_|refine cZ ?_ (hp:=heq) (hs:=by (first | refine aa ?_ rfl | apply ac); (repeat' (first | exact ab | apply aj | apply ae | exact au _)); first | done | fail)|refine cFZ ?_|(refine zGZ ?_ ?_ <;> (intro _hg; try (exfalso; omega)))|fail)) <;> (try clear zz)
   exact ⟨k + 1,by omega,⟨rfl,rfl,by omega,by omega,by rw [fL he,k3],by rw [fV he,k4,bX hk]⟩,ag0⟩
 ·(have zz:=and_self; repeat' (first|refine zW ?_|apply a_n|apply a_x|refine zO ?_|refine vZ ?_|(refine zGZ ?_ ?_ <;> (intro _hg; try (exfalso; omega)))|refine ag rfl ?_|refine r1Z ?_|fail)) <;> (try clear zz)
  have e:l.length=k:=by omega
  refine ⟨by rw [e,k3],⟨_,hid,by simp,?_⟩,rfl⟩
  rw [e,k3,k4,← List.map_take]
end Go.Proofs.YtbgdcebmgjafjaaGreat
namespace Go.Proofs.YtbgdcebmgjafjaaGreat
open Go Go.Abs
open Nat (reduceEqDiff reduceAdd reduceLeDiff)
theorem sk {H:Hp} {sz:Nat} {s:AV} {elems:List AV} (h:Row H sz s (elems.flatMap AV.cells)) (hc:∀ y ∈ elems,y.cells.length=sz) (hz:0 < sz) (hd:∀ y ∈ elems,∀ c ∈ y.cells,SnapF H c c):SnapF H s (.sl sz elems):=by
 obtain ⟨f1,f2⟩:=b0 elems hc
 generalize he:elems.flatMap AV.cells=cs at h
 cases h with
 | nil =>
  have:elems.length * sz=0:=by rw [← f1,he]; rfl
  have:elems=[]:=List.length_eq_zero_iff.1 (by
   rcases Nat.mul_eq_zero.1 this with h | h
   ·exact h
   ·omega)
  subst this; exact .eslsl sz
 | box b len cs hb hl =>
  have hlen:elems.length=len:=Nat.eq_of_mul_eq_mul_right hz (by rw [← f1,he,hl])
  refine .msl b (len * sz) sz 0 len cs elems hb hl (by omega) hlen hc (fun i j y a c hy hc' ha=>?_)
  have hj:j < sz:=by rw [← hc y (List.mem_of_getElem? hy)]; exact (List.getElem?_eq_some_iff.1 hc').1
  have key:∀ (l:List AV) (i j:Nat) (y c:AV),(∀ z ∈ l,z.cells.length=sz)→l[i]?=some y→y.cells[j]?=some c→j < sz→(l.flatMap AV.cells)[i * sz + j]?=some c:=by
   intro l
   induction l with
   | nil=>intro i j y c _ h; simp at h
   | cons x l ih =>
    intro i j y c hl hy hc hj
    rw [List.flatMap_cons]
    cases i with
    | zero =>
     simp at hy; subst hy
     rw [Nat.zero_mul,Nat.zero_add,List.getElem?_append_left (by rw [hl x (by simp)]; exact hj)]; exact hc
    | succ i =>
     rw [List.getElem?_append_right (by rw [hl x (by simp),Nat.add_mul]; omega),hl x (by simp)]
     have:=ih i j y c (fun z hz=>hl z (by simp [hz])) (by simpa using hy) hc hj
     rw [← this]; congr 1; rw [Nat.add_mul]; omega
  have:=key elems i j y c hc hy hc' hj
  rw [he,← Nat.zero_add (i * sz)] at this
  rw [this] at ha; cases ha
  exact hd y (List.mem_of_getElem? hy) a (List.mem_of_getElem? hc')
theorem rz {H:Hp} {s:AV} {l:Spx} (h:Row H 2 s (cX l)):SnapF H s (ap l):=by
 refine sk (elems:=l.map bh) (by rw [rp]; exact h) (fun y hy=>?_) (by omega) (fun y hy c hx=>?_)
 ·obtain ⟨n,_,rfl⟩:=List.mem_map.1 hy; rfl
 ·obtain ⟨n,_,rfl⟩:=List.mem_map.1 hy
  simp only [bh,AV.cells,List.mem_cons,List.not_mem_nil,or_false] at hx
  rcases hx with rfl | rfl <;> exact .int _ _
attribute [local irreducible] aC ak bb a8 aL aQ az aR ba br Go.Abs.Fn aZ Go.Abs.Pure ax aH Yl
theorem tc (l:Spx) (hl:l.length ≤ 1000000):e7 Tryz.prog 31 [ap l] (ap l):=by
 refine e7.of_c2 follows xR (Nat.le_of_ble_eq_true rfl) ?_
 simp only [b31,cO,cG,cN,cM,cD,cF,cB,aq,aG]
 (have zz:=and_self; repeat' (first|refine zW ?_|apply a_n|refine zO ?_|refine vY ?_|fail)) <;> (try clear zz)
 have hn:eG (ap l)=some l.length:=by unfold ap g8; simp [eG]
 refine qE (k:=l.length) (by ((try simp only [bU,ZA,reduceEqDiff,↓reduceIte,reduceAdd,reduceLeDiff]); (try with_reducible rfl)); exact hn) (fun h=>?_) (fun h=>?_) (fun h=>?_)
 ·(have zz:=and_self; repeat' (first|refine zW ?_|apply a_n|refine zO ?_|refine vY ?_|refine b0Y ?_|refine cFY ?_|fail)) <;> (try clear zz)
  refine jA rfl ev0 ev0 wE (nN _) (by omega) (by omega) ?_
  (have zz:=and_self; repeat' (first|apply a_n|refine zO ?_|refine vY ?_|refine ag rfl ?_|refine r1Y ?_|fail)) <;> (try clear zz)
  exact rz (Row.box _ l.length (cX l) ai (ec l))
 ·(have zz:=and_self; repeat' (first|refine zW ?_|apply a_n|apply a_r|refine zO ?_|refine vY ?_|refine cTY ?_|refine ag rfl ?_|refine r1Y ?_|fail)) <;> (try clear zz)
  obtain rfl:=List.length_eq_zero_iff.1 h
  exact .eslsl 2
 ·(have zz:=and_self; repeat' (first|refine zW ?_|apply a_n|refine zO ?_|refine vY ?_|refine b0Y ?_|refine cFY ?_|fail)) <;> (try clear zz)
  refine jA rfl ev0 ev0 wE (nN _) (by omega) (by omega) ?_
  (have zz:=and_self; repeat' (first|apply a_n|refine zO ?_|refine vY ?_|refine ag rfl ?_|refine r1Y ?_|fail)) <;> (try clear zz)
  exact rz (Row.box _ l.length (cX l) ai (ec l))
theorem sJ (s:AV) (l:List Spx) (hl:l.length ≤ 1000000) (H:Hp) (nx:Nat) (hn:eG s=some l.length) (hs:∀ H',(∀ x,x < nx→H' x=H x)→cR 1 H' s=some (l.length,l.map ap)):Abs.Fn Tryz.prog 125 [s] H nx fun r H' nx'=>nx' ≤ nx + 1∧nx ≤ nx'∧(∀ x,x < nx→H' x=H x)∧if l=[] then ci r=some (.int .i64 0)∧∀ H'',Snap H'' r (aD []) else r=.msl nx l.length 1 0 l.length∧H'=ah H nx (l.map ap)∧nx'=nx + 1:=by
 refine Abs.Fn.of_c2 follows yy (Nat.le_of_ble_eq_true rfl) ?_
 simp only [zg,cO,cG,cN,cM,cD,cF,cB,aq,aG]
 have hones:AV.ones (l.map ap)=true:=by
  unfold AV.ones
  rw [List.all_eq_true]
  intro x hx
  obtain ⟨y,_,rfl⟩:=List.mem_map.1 hx
  rfl
 (have zz:=and_self; repeat' (first|refine zW ?_|apply a_n|refine zO ?_|refine vY ?_|fail)) <;> (try clear zz)
 refine qE (k:=l.length) (by ((try simp only [bU,ZA,reduceEqDiff,↓reduceIte,reduceAdd,reduceLeDiff]); (try with_reducible rfl)); exact hn) (fun h=>?_) (fun h=>?_) (fun h=>?_)
 ·(have zz:=and_self; repeat' (first|refine zW ?_|apply a_n|refine zO ?_|refine vY ?_|refine b0Y ?_|refine cFY ?_|fail)) <;> (try clear zz)
  refine jA rfl ev0 ev0 (hs _ fun x _=>rfl) hones (by omega) (by omega) ?_
  (have zz:=and_self; repeat' (first|apply a_n|refine zO ?_|refine vY ?_|refine ag rfl ?_|refine r1Y ?_|fail)) <;> (try clear zz)
  refine ⟨Nat.le_refl _,by omega,fun x hx=>af (by omega),?_⟩
  rw [if_neg (by rintro rfl; exact absurd h (by simp))]
  exact ⟨rfl,rfl,rfl⟩
 ·(have zz:=and_self; repeat' (first|refine zW ?_|apply a_n|apply a_r|refine zO ?_|refine vY ?_|refine cTY ?_|refine ag rfl ?_|refine r1Y ?_|fail)) <;> (try clear zz)
  refine ⟨by omega,Nat.le_refl _,fun x hx=>rfl,?_⟩
  rw [if_pos (List.length_eq_zero_iff.1 h)]
  exact ⟨rfl,fun _=>.eslsl 1⟩
 ·(have zz:=and_self; repeat' (first|refine zW ?_|apply a_n|refine zO ?_|refine vY ?_|refine b0Y ?_|refine cFY ?_|fail)) <;> (try clear zz)
  refine jA rfl ev0 ev0 (hs _ fun x _=>rfl) hones (by omega) (by omega) ?_
  (have zz:=and_self; repeat' (first|apply a_n|refine zO ?_|refine vY ?_|refine ag rfl ?_|refine r1Y ?_|fail)) <;> (try clear zz)
  refine ⟨Nat.le_refl _,by omega,fun x hx=>af (by omega),?_⟩
  obtain rfl:=List.length_eq_zero_iff.1 h
  rw [if_pos rfl]
  exact ⟨rfl,fun _=>.mslnil _ _ _ _ _⟩
section
variable {g:Nat} {caps:List AV} {s:AV}
theorem xS (hs:ci s=some (.int .i64 0)) {H:Hp} {nx:Nat}:Abs.Fn Tryz.prog 142 [s,.int .i64 0,.int .i64 0,.func g caps] H nx fun r H' nx'=>nx'=nx∧H'=H:=by
 refine Abs.Fn.of_c2 follows tO (Nat.le_of_ble_eq_true rfl) ?_
 simp only [vG,cO,cG,cN,cM,cD,cF,cB,aq,aG]
 (have zz:=and_self; repeat' (first|refine zW ?_|apply a_n|refine zO ?_|refine vZ ?_|fail)) <;> (try clear zz)
 refine aS (X:=Unit) (fun x=>[(0,s),(1,.int .i64 0),(2,.int .i64 0),(3,.func g caps),(8,.int .i64 1)]) (fun x H' nx'=>H'=H∧nx'=nx) (fun x=>0) () ⟨rfl,rfl⟩ (by simp (disch:=omega) only [agr,ZG,reduceEqDiff,↓reduceIte,Int.zero_add,true_and]) ?_
 rintro _ _ _ ⟨rfl,rfl⟩
 (have zz:=and_self; repeat' (first|refine zW ?_|apply a_n|apply a_x|refine zO ?_|refine vZ ?_|(refine zGZ ?_ ?_ <;> (intro _hg; try (exfalso; omega)))|refine ag rfl ?_|fail)) <;> (try clear zz)
 exact ⟨rfl,rfl⟩
theorem xz (hs:ci s=some (.int .i64 0)) {H:Hp} {nx:Nat}:Abs.Fn Tryz.prog 129 [s,.int .i64 0,.int .i64 0,.int .i64 0,.func g caps] H nx fun r H' nx'=>nx'=nx∧H'=H:=by
 refine Abs.Fn.of_c2 follows tM (Nat.le_of_ble_eq_true rfl) ?_
 simp only [vS,cO,cG,cN,cM,cD,cF,cB,aq,aG]
 (have zz:=and_self; repeat' (first|refine zW ?_|apply a_n|refine zO ?_|refine vZ ?_|fail)) <;> (try clear zz)
 refine aS (X:=Unit) (fun x=>[(0,s),(1,.int .i64 0),(2,.int .i64 0),(3,.int .i64 0),(4,.func g caps)]) (fun x H' nx'=>H'=H∧nx'=nx) (fun x=>0) () ⟨rfl,rfl⟩ ag0 ?_
 rintro _ _ _ ⟨rfl,rfl⟩
 (have zz:=and_self; repeat' (first|refine zW ?_|apply a_n|refine zO ?_|refine vZ ?_|(refine zGZ ?_ ?_ <;> (intro _hg; try (exfalso; omega)))|fail)) <;> (try clear zz)
 refine av ev0 ev0 (xS hs) ?_
 rintro _ _ _ ⟨rfl,rfl⟩
 (have zz:=and_self; repeat' (first|apply a_n|apply a_r|refine zO ?_|refine ag rfl ?_|fail)) <;> (try clear zz)
 exact ⟨rfl,rfl⟩
theorem uG (hs:ci s=some (.int .i64 0)) {H:Hp} {nx:Nat}:Abs.Fn Tryz.prog 109 [s,.func g caps] H nx fun r H' nx'=>nx'=nx∧H'=H:=by
 refine Abs.Fn.of_c2 follows ua (Nat.le_of_ble_eq_true rfl) ?_
 simp only [vV,cO,cG,cN,cM,cD,cF,cB,aq,aG]
 have w8:IntKind.wrap .u64 0=0:=by decide
 (have zz:=aI @w8 @hs; repeat' (first|refine zW ?_|apply a_n|refine zO ?_|refine vZ ?_|fail)) <;> (try clear zz)
 refine av ev0 (have zz:=@w8; evZ) x8 ?_
 rintro _ _ _ ⟨rfl,rfl,rfl⟩
 (have zz:=and_self; repeat' (first|apply a_n|refine zO ?_|refine vZ ?_|fail)) <;> (try clear zz)
 refine av ev0 ev0 (xz hs) ?_
 rintro _ _ _ ⟨rfl,rfl⟩
 (have zz:=and_self; repeat' (first|apply a_n|refine zO ?_|refine ag rfl ?_|fail)) <;> (try clear zz)
 exact ⟨rfl,rfl⟩
theorem qX (hs:ci s=some (.int .i64 0)) {H:Hp} {nx:Nat}:Abs.Fn Tryz.prog 126 [s,.func g caps] H nx fun r H' nx'=>r=s∧nx'=nx∧H'=H:=by
 refine Abs.Fn.of_c2 follows wu (Nat.le_of_ble_eq_true rfl) ?_
 simp only [xg,cO,cG,cN,cM,cD,cF,cB,aq,aG]
 (have zz:=@hs; repeat' (first|refine zW ?_|apply a_n|apply a_r|refine zO ?_|refine vZ ?_|(refine zGZ ?_ ?_ <;> (intro _hg; try (exfalso; omega)))|refine ag rfl ?_|refine r1Z ?_|fail)) <;> (try clear zz)
 exact ⟨rfl,rfl,rfl⟩
end
end Go.Proofs.YtbgdcebmgjafjaaGreat
namespace Go.Proofs.YtbgdcebmgjafjaaGreat
open Go Go.Abs
theorem sy {D:List Spx} {k:Nat} {v:Vtx} (hk:k < D.length) (hv:v ∈ D.getD k default):fZ D D.length v ≠ []:=fun e=>by
 have:k ∈ fZ D D.length v:=List.mem_filter.2 ⟨List.mem_range.2 hk,decide_eq_true hv⟩
 rw [e] at this; cases this
theorem od {l:List Spx} {p:Spx→Bool} {k:Nat} (hk:k < l.length):(l.take (k + 1)).filter p=(l.take k).filter p ++ if p (l.getD k default)=true then [l.getD k default] else []:=by
 rw [bX hk,List.filter_append]
 cases h:p (l.getD k default)
 ·rw [List.filter_cons_of_neg (by rw [h]; decide),List.filter_nil,if_neg (by decide)]
 ·rw [List.filter_cons_of_pos h,List.filter_nil,if_pos rfl]
attribute [local irreducible] aC ak bb a8 aL aQ az aR ba br Go.Abs.Fn aZ Go.Abs.Pure ax aH Yl
theorem AA:Cmp Tryz.prog ap bK (fun s=>Shn s) 59 [] where
 cells _:=rfl
 one _:=rfl
 dat x:=au x
 dcaps x hx:=by cases hx
 run x y hx hy:=jw x y hx hy
 ord:=uZ.ord
theorem pj (l:List Spx) (hl:l.length ≤ 100000) (hs:∀ s ∈ l,b6 bt s∧s.length ≤ 1000∧s ≠ []):Pure Tryz.prog 100 [aD l] (d8 (f8 l)):=by
 refine Pure.of_c2 follows zc (Nat.le_of_ble_eq_true rfl) ?_
 simp only [ze,cO,cG,cN,cM,cD,cF,cB,aq,aG]
 have hn:eG (aD l)=some l.length:=by unfold aD g8; simp [eG]
 (have zz:=@aK; repeat' (first|refine zW ?_|apply a_n|refine zO ?_|refine vY ?_|refine alY ?_|fail)) <;> (try clear zz)
 refine av ev0 ev0 (sJ _ l (by omega) _ _ hn (fun H' _=>xa)) ?_
 rintro r H1 nx1 ⟨c1,c2,c3,c4⟩
 have hD:∀ s ∈ eI bK l,b6 bt s∧s.length ≤ 1000∧s ≠ []:=fun s h=>hs s (eM.1 h)
 have hDl:(eI bK l).length ≤ 100000:=Nat.le_trans iW hl
 have g0:H1 0=some [.esl]:=(c3 0 (by omega)).trans ai
 have hsort:Abs.Fn Tryz.prog 109 [r,.func 59 []] H1 nx1 fun _ H' nx'=>nx1 ≤ nx'∧H' 0=some [.esl]∧((l=[]∧ci r=some (.int .i64 0)∧∀ H'',Snap H'' r (aD [])) ∨ (l ≠ []∧r=.msl 1 l.length 1 0 l.length∧2 ≤ nx'∧∃ L':List Spx,H' 1=some (L'.map ap)∧L'.Perm l∧aE bK 0 l.length L')):=by
  by_cases h0:l=[]
  ·rw [if_pos h0] at c4
   refine Abs.Fn.mono (uG c4.1) ?_
   rintro _ _ _ ⟨rfl,rfl⟩
   exact ⟨Nat.le_refl _,g0,.inl ⟨h0,c4⟩⟩
  ·rw [if_neg h0] at c4
   obtain ⟨rfl,rfl,rfl⟩:=c4
   have hpos:=List.length_pos_iff.2 h0
   refine Abs.Fn.mono (vK AA (L:=l) (b:=0 + 1) (n:=l.length) ai (by omega) rfl hpos (fun s h=>show s.length ≤ _ by have:=(hs s h).2.1; omega) (by omega)) ?_
   rintro _ H' nx' ⟨L',ps,p1,p2⟩
   exact ⟨ps.le,by rw [ps.fr 0 (by omega) (by omega)]; exact g0,.inr ⟨h0,rfl,ps.le,L',ps.at_,p1,p2⟩⟩
 have hnx1:1 ≤ nx1:=c2
 clear c4
 (have zz:=and_self; repeat' (first|refine zW ?_|apply a_n|refine zO ?_|refine vY ?_|fail)) <;> (try clear zz)
 refine av ev0 ev0 hsort ?_
 rintro _ H2 nx2 ⟨d1,g2,d3⟩
 have hcmp:Abs.Fn Tryz.prog 126 [r,.func 40 []] H2 nx2 fun r' H' nx'=>nx2 ≤ nx'∧∃ Hf H3,Fz Hf H' H3∧Snap Hf r' (aD (eI bK l))∧H3 0=some [.esl]:=by
  rcases d3 with ⟨h0,e1,e2⟩ | ⟨h0,rfl,e0,L',e1,e2,e3⟩
  ·refine Abs.Fn.mono (qX e1) ?_
   rintro _ _ _ ⟨rfl,rfl,rfl⟩
   refine ⟨Nat.le_refl _,bg,_,Fz.none,?_,g2⟩
   rw [h0]; exact e2 _
  ·have hlen:=e2.length_eq
   have hL0:L' ≠ []:=fun e=>by rw [e] at hlen; simp at hlen; exact h0 (List.length_eq_zero_iff.1 hlen.symm)
   rw [← hlen]
   refine Abs.Fn.mono (px L' (show _ ≤ _ by omega) (fun s h=>show s.length ≤ _ by have:=(hs s (e2.mem_iff.1 h)).2.1; omega) hL0 H2 1 nx2 e1 (by omega)) ?_
   rintro _ _ _ ⟨rfl,⟨C,rfl,f1,f2⟩,rfl⟩
   have hd:cE L' L'.length=eI bK l:=ny uZ e2 (by rw [hlen]; exact e3)
   rw [hd] at f2
   have hle:=pR L' L'.length
   have hdl:=nk L' L'.length
   rw [hd] at hdl
   refine ⟨Nat.le_refl _,only 1 C,bH (ah H2 1 C) 1,Fz.one ai,?_,by rw [e8 (by omega),af (by omega)]; exact g2⟩
   refine pu (l:=(eI bK l).map ap) je f1 (by omega) (by rw [List.length_map]; exact hdl) (fun y hy=>?_) (fun i a c ha hc=>?_)
   ·obtain ⟨z,_,rfl⟩:=List.mem_map.1 hy; rfl
   ·rw [← f2,List.getElem?_take] at hc
    split at hc
    ·rw [Nat.zero_add,hc] at ha; cases ha
     have hm:a ∈ (eI bK l).map ap:=by
      rw [← f2]
      exact List.mem_of_getElem? (i:=i) (by rw [List.getElem?_take,if_pos (by assumption)]; exact hc)
     obtain ⟨z,_,rfl⟩:=List.mem_map.1 hm
     exact au _ _
    ·cases hc
 clear d3 hsort
 (have zz:=and_self; repeat' (first|refine zW ?_|apply a_n|refine zO ?_|refine vY ?_|fail)) <;> (try clear zz)
 refine av ev0 ev0 hcmp ?_
 rintro r2 H3 nx3 ⟨f1,Hf,H4,hfz,hsn,g4⟩
 have hmx:f8 l=(eI bK l).filter fun s=>!bm (eI bK l) s:=rfl
 rw [hmx]
 have hasc:=iL uZ l
 generalize eI bK l=D at *
 (have zz:=and_self; repeat' (first|apply a_n|refine zO ?_|refine vY ?_|fail)) <;> (try clear zz)
 refine ee ?_
 refine kO Hf H4 [(0,aD D),(2,.ptr 0 1 0)] hfz ⟨.inr hsn,.inl rfl,trivial⟩ ?_
 clear hfz hsn
 (have zz:=and_self; repeat' (first|apply a_n|refine zO ?_|refine vY ?_|fail)) <;> (try clear zz)
 refine av ev0 ev0 (kp D hDl (fun s h=>⟨(hD s h).1,by have:=(hD s h).2.1; omega⟩) _ _) ?_
 rintro _ H5 nx5 ⟨ks,vs,rfl,hinc,hsame,hlt⟩
 have g5:H5 0=some [.esl]:=(hsame 0 (by omega)).trans g4
 have hOk:OkS D:=⟨hDl,fun s h=>⟨(hD s h).1,(hD s h).2.1⟩⟩
 (have zz:=@aK; repeat' (first|refine zW ?_|apply a_n|refine zO ?_|refine vY ?_|refine alY ?_|fail)) <;> (try clear zz)
 refine aS (X:=Nat × AV) (fun x=>[(0,aD D),(2,.ptr 0 1 0),(3,.mp nx3),(4,.ptr nx5 1 0),(15,aD D),(16,.int .i64 D.length),(17,.int .i64 x.1)]) (fun x H' nx'=>x.1 ≤ D.length∧nx5 < nx'∧(∀ y,y < nx5→H' y=H5 y)∧H' nx5=some [x.2]∧Row H' 1 x.2 (((D.take x.1).filter fun s=>!bm D s).map ap)∧∀ B,eB x.2=some B→nx5 < B∧B < nx') (fun x=>D.length - x.1) (0,.esl) ⟨Nat.zero_le _,by omega,fun y hy=>af (by omega),ai,Row.nil,fun B h=>(by cases h)⟩ (by (iterate 7 refine And.intro rfl ?_); trivial) ?_
 rintro ⟨k,sv⟩ H' nx' ⟨h1,hnx',hsm,gb,hrow,hbd⟩
 dsimp only at h1 gb hrow hbd ⊢
 by_cases hk:k < D.length
 rotate_left
 ·rw [List.take_of_length_le (by omega)] at hrow
  obtain ⟨o1,o2⟩:=hrow.one
  have g6:H' 0=some [.esl]:=(hsm 0 (by omega)).trans g5
  (have zz:=aI @gb (aI @g6 (aI @o1 @o2)); repeat' (first|refine zW ?_|apply a_n|apply a_x|refine zO ?_|refine vY ?_|refine stY ?_|(refine zGY ?_ ?_ <;> (intro _hg; try (exfalso; omega)))|refine ag rfl ?_|refine r1Y ?_|fail)) <;> (try clear zz)
  exact qr (ao (iG (hrow.same fun B hB=>af (by have:=hbd B hB; omega))) ab)
 have ix:=iv hk
 have hDk:=hD _ (bj hk)
 have hpos:0 < (D.getD k default).length:=List.length_pos_iff.2 hDk.2.2
 have hcv:=nf D (D.getD k default) hOk (hOk.2 _ (bj hk)) hpos
 have iy:=ix2 (l:=D.getD k default) (k:=0) hpos
 rw [show ((0:Nat):Int)=0 from rfl] at iy
 have hks:(D.getD k default).getD 0 default ∈ ks:=(hinc.dom _).2 (sy hk (bj hpos))
 have hmf:=kT ((D.getD k default).getD 0 default) ks
 rw [if_pos hks] at hmf
 obtain ⟨m1,m2⟩:=gS hks
 have hr:=hinc.row _ m1
 rw [m2] at hr
 have hr':=hr.same (H':=H') (fun B hB=>hsm B (hinc.bnd _ B m1 hB).2.1)
 have hbox:=(hsm nx3 hinc.lt).trans hinc.box
 have hft:=od (p:=fun s=>!bm D s) hk
 have hfl:(((D.take k).filter fun s=>!bm D s).map ap).length ≤ 100000:=by
  rw [List.length_map]
  have:=List.length_filter_le (fun s=>!bm D s) (D.take k)
  rw [List.length_take] at this; omega
 generalize hsk:D.getD k default=s at *
 (have zz:=aI @ix @iy; repeat' (first|refine zW ?_|apply a_n|refine zO ?_|refine vY ?_|(refine zGY ?_ ?_ <;> (intro _hg; try (exfalso; omega)))|fail)) <;> (try clear zz)
 refine n6 ev0 hbox ev0 (lJ _) hmf ?_
 rw [show mget .esl false (some (ks.idxOf (s.getD 0 default))) vs=vs.getD (ks.idxOf (s.getD 0 default)) .undef from rfl]
 (have zz:=and_self; repeat' (first|apply a_n|refine zO ?_|refine vY ?_|fail)) <;> (try clear zz)
 cases hb:bm D s
 ·rw [hb] at hcv hft
  rw [if_pos (by decide)] at hft
  refine bL ev0 ev0 hcv (aa (ao (bo _ _) (ao (rP hr') (ao (au _ _) ab))) rfl) ?_
  (have zz:=and_self; repeat' (first|apply a_n|refine zO ?_|refine vY ?_|refine cTY ?_|fail)) <;> (try clear zz)
  refine lL nx5 gb fun S0 hS hsub=>?_
  (have zz:=@hS; repeat' (first|apply a_n|refine zO ?_|refine nvY ?_|fail)) <;> (try clear zz)
  refine im ?_
  refine wr ev0 ev0 (tc s (by omega)) (ao (au _ _) ab) ?_
  refine ng ⟨hsub _ gb,?_⟩
  refine im ?_
  (have zz:=aI @aP @aF; repeat' (first|apply a_n|refine zO ?_|refine blY ?_|fail)) <;> (try clear zz)
  refine ⟨hsub _ (by rw [af (by omega)]; exact gb),?_⟩
  refine jW ?_
  refine jX rfl ev0 (hrow.same fun B hB=>?_) ev0 gU rfl rfl Nat.one_pos (by omega) (by omega) ?_
  ·have:=hbd B hB; rw [af (by omega)]
  rintro s2 H2 nx2 hr2 i1 i2 i3 i4
  have gb2:H2 nx5=some [sv]:=(i3 nx5 (by omega) (fun h=>by have:=hbd _ h; omega)).trans (by rw [af (by omega)]; exact gb)
  obtain ⟨o1,o2⟩:=hr2.one
  (have zz:=aI @gb2 (aI @o1 @o2); repeat' (first|apply a_n|refine zO ?_|refine vY ?_|refine nvY ?_|apply jW|refine stY ?_|fail)) <;> (try clear zz)
  refine ⟨(k + 1,s2),by dsimp only; omega,⟨by dsimp only; omega,by omega,fun y hy=>?_,by rw [ai]; rfl,?_,fun B hB=>?_⟩,ag0⟩
  ·rw [af (by omega),i3 y (by omega) (fun h=>by have:=hbd _ h; omega),af (by omega)]; exact hsm y hy
  ·dsimp only
   rw [hft,List.map_append]
   refine hr2.same fun B hB=>af ?_
   rcases i4 B hB with h | h
   ·have:=hbd B h; omega
   ·omega
  ·rcases i4 B hB with h | h
   ·have:=hbd B h; omega
   ·omega
 ·rw [hb] at hcv hft
  rw [if_neg (by decide),List.append_nil] at hft
  refine bL ev0 ev0 hcv (aa (ao (bo _ _) (ao (rP hr') (ao (au _ _) ab))) rfl) ?_
  (have zz:=and_self; repeat' (first|apply a_n|refine zO ?_|refine vY ?_|refine cFY ?_|fail)) <;> (try clear zz)
  exact ⟨(k + 1,sv),by dsimp only; omega,⟨by dsimp only; omega,hnx',hsm,gb,by dsimp only; rw [hft]; exact hrow,hbd⟩,ag0⟩
end Go.Proofs.YtbgdcebmgjafjaaGreat
namespace Go.Proofs.YtbgdcebmgjafjaaGreat
open Go Go.Abs
theorem xH {H:Hp} {s:AV} {l:List Spx} (h:Row H 1 s (l.map ap)):∃ Hf H',Fz Hf H H'∧Snap Hf s (aD l)∧∀ x,eB s ≠ some x→H' x=H x:=by
 generalize hcs:l.map ap=cs at h
 cases h with
 | nil=>exact ⟨bg,H,Fz.none,iG (by rw [hcs]; exact Row.nil),fun _ _=>rfl⟩
 | box b len cs g1 g2=>exact ⟨only b cs,bH H b,Fz.one g1,iG (by rw [hcs]; exact Row.box b len cs je g2),fun x hx=>e8 (fun e=>hx (by rw [e]; rfl))⟩
attribute [local irreducible] aC ak bb a8 aL aQ az aR ba br Go.Abs.Fn aZ Go.Abs.Pure ax aH Yl
theorem yN (l:List Spx) (hl:l.length ≤ 4096) (hs:∀ s ∈ l,bn s=0):Pure Tryz.prog 66 [aD l] (.tup [d8 (f8 l),.int .i64 0]):=by
 refine Pure.of_c2 follows A5 (Nat.le_of_ble_eq_true rfl) ?_
 simp only [b66,cO,cG,cN,cM,cD,cF,cB,aq,aG]
 have hc:=pj l (by omega) (fun s h=>by
  obtain ⟨p1,p2,p3,p4⟩:=bC (hs s h)
  exact ⟨p3,by omega,fun e=>by rw [e] at p1; simp at p1⟩)
 have z0:decide ((0:Int) ≠ 0)=false:=rfl
 have z1:decide ((4096:Int) < l.length)=false:=decide_eq_false (by omega)
 (have zz:=aI @aK @z1; repeat' (first|refine zW ?_|apply a_n|refine zO ?_|refine vY ?_|refine alY ?_|refine cFY ?_|fail)) <;> (try clear zz)
 refine aS (X:=Nat) (fun k=>[(0,aD l),(2,.ptr 0 1 0),(11,aD l),(12,.int .i64 l.length),(13,.int .i64 k)]) (fun k H nx=>k ≤ l.length∧H 0=some [.esl]) (fun k=>l.length - k) 0 ⟨Nat.zero_le _,ai⟩ (by (iterate 5 refine And.intro rfl ?_); trivial) ?_
 rintro k H nx ⟨h1,g0⟩
 by_cases hk:k < l.length
 rotate_left
 ·(have zz:=aI @g0 (aI @aJ @ay); repeat' (first|refine zW ?_|apply a_n|apply a_x|refine zO ?_|refine vY ?_|refine cY ?_ (hp:=hc) (hs:=by (first | refine aa ?_ rfl | apply ac); (repeat' (first | exact ab | apply aj | apply ae | exact bo _)); first | done | fail)|refine stY ?_|(refine zGY ?_ ?_ <;> (intro _hg; try (exfalso; omega)))|refine ag rfl ?_|refine r2Y ?_|fail)) <;> (try clear zz)
  exact mt (bo _).snap rfl
 have ix:=iv hk
 have hx:=d7 (l.getD k default) (by have:=(bC (hs _ (bj hk))).2.1; show _ ≤ _; omega)
 rw [hs _ (bj hk)] at hx
 (have zz:=aI @ix @z0; repeat' (first|refine zW ?_|apply a_n|refine zO ?_|refine vY ?_|refine cY ?_ (hp:=hx) (hs:=by (first | refine aa ?_ rfl | apply ac); (repeat' (first | exact ab | apply aj | apply ae | exact au _)); first | done | fail)|refine cFY ?_|(refine zGY ?_ ?_ <;> (intro _hg; try (exfalso; omega)))|fail)) <;> (try clear zz)
 exact ⟨k + 1,by omega,⟨by omega,g0⟩,ag0⟩
theorem vR (m:MapV) (c:List Spx) (hm:ShM m) (hc:Shn c) (hcs:∀ s ∈ c,Shn s):Pure Tryz.prog 25 [mR m,d8 c] (.tup [d8 (nD m c).1,.int .i64 (nD m c).2]):=by
 refine Pure.of_c2 follows AS (Nat.le_of_ble_eq_true rfl) ?_
 simp only [b25,cO,cG,cN,cM,cD,cF,cB,aq,aG]
 have hcc:=gB c hc hcs
 unfold nD
 (have zz:=aI @aP (aI @aF (aI @aJ @ay)); repeat' (first|refine zW ?_|apply a_n|refine zO ?_|refine vY ?_|refine alY ?_|refine bxY ?_|fail)) <;> (try clear zz)
 refine av ev0 ev0 (qO m hm _ _) ?_
 rintro _ H1 nx1 ⟨hsm,hle,h⟩
 have g1:H1 1=some [aD c]:=(hsm 1 (by omega)).trans (by rw [af (by omega),ai])
 have g2:H1 2=some [.esl]:=(hsm 2 (by omega)).trans ai
 rcases h with ⟨he,B,rfl,hB1,hB2,hB3⟩ | ⟨he,rfl⟩
 rotate_left
 ·rw [if_pos he]
  have z:decide (dL m ≠ 0)=true:=decide_eq_true he
  (have zz:=aI @g2 @z; repeat' (first|refine zW ?_|apply a_n|apply a_r|refine zO ?_|refine vY ?_|refine stY ?_|refine cTY ?_|refine ag rfl ?_|refine r2Y ?_|fail)) <;> (try clear zz)
  exact mt (.eslsl _) rfl
 rw [if_neg (fun h=>h he)]
 obtain ⟨q1,q2,q3,q4,q5⟩:=l4 he
 have z0:decide ((0:Int) ≠ 0)=false:=rfl
 by_cases hes:bc c=0
 rotate_left
 ·rw [if_pos hes]
  have z:decide (bc c ≠ 0)=true:=decide_eq_true hes
  (have zz:=aI @g1 (aI @g2 (aI @z0 (aI @z (aI @aJ @ay)))); repeat' (first|refine zW ?_|apply a_n|apply a_r|refine zO ?_|refine vY ?_|refine cY ?_ (hp:=hcc) (hs:=by (first | refine aa ?_ rfl | apply ac); (repeat' (first | exact ab | apply aj | apply ae | exact bz _)); first | done | fail)|refine stY ?_|refine cTY ?_|refine cFY ?_|refine ag rfl ?_|refine r2Y ?_|fail)) <;> (try clear zz)
  exact mt (.eslsl _) rfl
 rw [if_neg (fun h=>h hes)]
 rw [hes] at hcc
 obtain ⟨a1,a2,a3,a4⟩:=dx hes
 (have zz:=aI @g1 (aI @g2 (aI @z0 (aI @aJ @ay))); repeat' (first|refine zW ?_|apply a_n|refine zO ?_|refine vY ?_|refine cY ?_ (hp:=hcc) (hs:=by (first | refine aa ?_ rfl | apply ac); (repeat' (first | exact ab | apply aj | apply ae | exact bz _)); first | done | fail)|refine cFY ?_|fail)) <;> (try clear zz)
 refine av ev0 ev0 (qg m c q2 (by omega) (fun s hs=>by obtain ⟨p1,p2,p3,p4⟩:=bC (a2 s hs); exact ⟨by omega,fun e=>by rw [e] at p1; simp at p1⟩) B H1 nx1 hB3 hB2) ?_
 rintro _ H3 nx3 ⟨hle3,hsm3,h⟩
 have g3:H3 2=some [.esl]:=(hsm3 2 (by omega)).trans g2
 rcases h with ⟨ht,rfl⟩ | ⟨ht,sv,rfl,hrow,hbd⟩
 ·rw [if_pos ht]
  (have zz:=@g3; repeat' (first|refine zW ?_|apply a_n|apply a_r|refine zO ?_|refine vY ?_|refine stY ?_|refine cTY ?_|refine ag rfl ?_|refine r2Y ?_|fail)) <;> (try clear zz)
  exact mt (.eslsl _) rfl
 rw [if_neg (by rw [ht]; decide)]
 have htl:∀ s ∈ c,bV m s=true:=List.all_eq_true.1 ht
 have hof:=yN (c.map (bW m)) (by rw [List.length_map]; exact a1) (fun t ht=>by
  obtain ⟨s,s1,rfl⟩:=List.mem_map.1 ht
  exact gJ he (a2 s s1) (htl s s1))
 obtain ⟨Hf,H4,hfz,hsn,hoth⟩:=xH hrow
 have g4:H4 2=some [.esl]:=(hoth 2 (fun e=>by have:=hbd 2 e; omega)).trans g3
 (have zz:=and_self; repeat' (first|apply a_n|refine zO ?_|refine vY ?_|fail)) <;> (try clear zz)
 refine ee (ee ?_)
 refine kO Hf H4 [(4,.ptr 2 1 0),(9,aD (c.map (bW m))),(10,.bool true)] hfz ⟨.inl rfl,.inr hsn,.inl rfl,trivial⟩ ?_
 (have zz:=aI @g4 (aI @aJ @ay); repeat' (first|refine zW ?_|apply a_n|refine zO ?_|refine vY ?_|refine cY ?_ (hp:=hof) (hs:=by (first | refine aa ?_ rfl | apply ac); (repeat' (first | exact ab | apply aj | apply ae | exact bo _)); first | done | fail)|refine stY ?_|refine cFY ?_|refine ag rfl ?_|refine r2Y ?_|fail)) <;> (try clear zz)
 exact mt (bo _).snap rfl
end Go.Proofs.YtbgdcebmgjafjaaGreat
namespace Go.Proofs.YtbgdcebmgjafjaaGreat
open Go Go.Abs
attribute [local irreducible] aC ak bb a8 aL aQ az aR ba br Go.Abs.Fn aZ Go.Abs.Pure ax aH Yl
end Go.Proofs.YtbgdcebmgjafjaaGreat
namespace Go.Proofs.YtbgdcebmgjafjaaGreat
open Go Go.Abs
attribute [local irreducible] aC ak bb a8 aL aQ az aR ba br Go.Abs.Fn aZ Go.Abs.Pure ax aH Yl
theorem Ac (a b:Int):Pure Tryz.prog 115 [cQ [a,b]] (.int .i64 (if a ≠ 0 then a else b)):=by
 refine Pure.of_c2 follows zd (Nat.le_of_ble_eq_true rfl) ?_
 simp only [zt,cO,cG,cN,cM,cD,cF,cB,aq,aG]
 (have zz:=and_self; repeat' (first|refine zW ?_|apply a_n|refine zO ?_|refine vZ ?_|fail)) <;> (try clear zz)
 refine sc (fun k=>[(3,.int .i64 0),(6,cQ [a,b]),(7,.int .i64 2),(8,.int .i64 k)]) 2 (fun k=>[a,b].getD k default=0) (by (iterate 4 refine And.intro rfl ?_); trivial) ?_
 intro k hk hz
 rcases (by omega:k=0 ∨ k=1 ∨ k=2) with rfl | rfl | rfl
 ·have e:[a,b].getD 0 default=a:=rfl
  have ix:d5 1 (cQ [a,b]) (.int .i64 ((0:Nat):Int))=some (.iptr [.int .i64 a] 0):=rfl
  by_cases h0:a=0
  ·have z:decide (a ≠ 0)=false:=decide_eq_false (fun h=>h h0)
   (have zz:=aI @ix @z; repeat' (first|refine zW ?_|apply a_n|refine zO ?_|refine vZ ?_|refine cFZ ?_|(refine zGZ ?_ ?_ <;> (intro _hg; try (exfalso; omega)))|fail)) <;> (try clear zz)
   exact ⟨by omega,h0,by (iterate 4 refine And.intro rfl ?_); trivial,rfl,rfl⟩
  ·have z:decide (a ≠ 0)=true:=decide_eq_true h0
   (have zz:=aI @ix @z; repeat' (first|refine zW ?_|apply a_n|apply a_r|refine zO ?_|refine vZ ?_|refine cTZ ?_|(refine zGZ ?_ ?_ <;> (intro _hg; try (exfalso; omega)))|refine ag rfl ?_|refine r1Z ?_|fail)) <;> (try clear zz)
   rw [if_pos h0]; exact .int _ _
 ·have h0:a=0:=hz 0 (by omega)
  have ix:d5 1 (cQ [a,b]) (.int .i64 ((1:Nat):Int))=some (.iptr [.int .i64 b] 0):=rfl
  rw [if_neg (fun h=>h h0)]
  by_cases h1:b=0
  ·have z:decide (b ≠ 0)=false:=decide_eq_false (fun h=>h h1)
   (have zz:=aI @ix @z; repeat' (first|refine zW ?_|apply a_n|refine zO ?_|refine vZ ?_|refine cFZ ?_|(refine zGZ ?_ ?_ <;> (intro _hg; try (exfalso; omega)))|fail)) <;> (try clear zz)
   exact ⟨by omega,h1,by (iterate 4 refine And.intro rfl ?_); trivial,rfl,rfl⟩
  ·have z:decide (b ≠ 0)=true:=decide_eq_true h1
   (have zz:=aI @ix @z; repeat' (first|refine zW ?_|apply a_n|apply a_r|refine zO ?_|refine vZ ?_|refine cTZ ?_|(refine zGZ ?_ ?_ <;> (intro _hg; try (exfalso; omega)))|refine ag rfl ?_|refine r1Z ?_|fail)) <;> (try clear zz)
   exact .int _ _
 ·have h0:a=0:=hz 0 (by omega)
  have h1:b=0:=hz 1 (by omega)
  rw [if_neg (fun h=>h h0),h1]
  (have zz:=and_self; repeat' (first|refine zW ?_|apply a_n|apply a_x|refine zO ?_|refine vZ ?_|(refine zGZ ?_ ?_ <;> (intro _hg; try (exfalso; omega)))|refine ag rfl ?_|refine r1Z ?_|fail)) <;> (try clear zz)
  exact .int _ _
theorem vM (a b:Spx) (ha:Shn a) (hb:Shn b):Pure Tryz.prog 77 [ap a,ap b] (.int .i64 (if bn a ≠ 0 then bn a else bn b)):=by
 refine Pure.of_c2 follows AY (Nat.le_of_ble_eq_true rfl) ?_
 simp only [b77,cO,cG,cN,cM,cD,cF,cB,aq,aG]
 have h1:=d7 a ha
 have h2:=d7 b hb
 have h3:=Ac (bn a) (bn b)
 generalize bn a=x at *
 generalize bn b=y at *
 (have zz:=and_self; repeat' (first|refine zW ?_|apply a_n|refine zO ?_|refine vY ?_|refine cY ?_ (hp:=by first | exact h1 | exact h2) (hs:=by (first | refine aa ?_ rfl | apply ac); (repeat' (first | exact ab | apply aj | apply ae | exact au _)); first | done | fail)|refine blY ?_|fail)) <;> (try clear zz)
 refine bL ev0 ev0 h3 (aa (ao (mF (b:=0) (n:=2) (len:=2) (l:=[x,y]) (by rw [ai]; rfl) rfl rfl) ab) rfl) ?_
 (have zz:=and_self; repeat' (first|apply a_n|refine zO ?_|refine vY ?_|refine ag rfl ?_|refine r1Y ?_|fail)) <;> (try clear zz)
 exact .int _ _
theorem w5 (l:Spx) (p:Vtx→Bool) (g:Nat) (caps caps':List AV) (hl:l.length ≤ 1000000) (H:Hp) (nx:Nat) (hcap:∀ H':Hp,(∀ x,x < nx→H' x=H x)→aH H' caps caps') (hg:∀ x ∈ l,Pure Tryz.prog g (bh x :: caps') (.bool (p x))) :
    Abs.Fn Tryz.prog 78 [ap l,.func g caps] H nx fun r H' nx'=>Row H' 2 r (cX (l.filter p))∧(∀ x,x < nx→H' x=H x)∧nx ≤ nx':=by
 refine Abs.Fn.of_c2 follows A3 (Nat.le_of_ble_eq_true rfl) ?_
 simp only [b78,cO,cG,cN,cM,cD,cF,cB,aq,aG]
 (have zz:=@ar; repeat' (first|refine zW ?_|apply a_n|refine zO ?_|refine vY ?_|fail)) <;> (try clear zz)
 refine aS (X:=Nat × AV) (fun x=>[(1,.func g caps),(5,x.2),(8,ap l),(9,.int .i64 l.length),(10,.int .i64 x.1)]) (fun x H' nx'=>x.1 ≤ l.length∧nx ≤ nx'∧(∀ y,y < nx→H' y=H y)∧Row H' 2 x.2 (cX ((l.take x.1).filter p))∧∀ b,eB x.2=some b→nx ≤ b∧b < nx') (fun x=>l.length - x.1) (0,.esl) ⟨Nat.zero_le _,Nat.le_refl _,fun _ _=>rfl,Row.nil,fun b h=>(by cases h)⟩ (by (iterate 5 refine And.intro rfl ?_); trivial) ?_
 rintro ⟨k,sv⟩ H1 nx1 ⟨h1,h2,h3,hrow,hbd⟩
 dsimp only at h1 hrow hbd ⊢
 obtain ⟨o1,o2⟩:=hrow.one
 by_cases hk:k < l.length
 rotate_left
 ·rw [List.take_of_length_le (by omega)] at hrow
  (have zz:=aI @o1 @o2; repeat' (first|refine zW ?_|apply a_n|apply a_x|refine zO ?_|refine vY ?_|(refine zGY ?_ ?_ <;> (intro _hg; try (exfalso; omega)))|refine ag rfl ?_|refine r1Y ?_|fail)) <;> (try clear zz)
  exact ⟨hrow,h3,h2⟩
 have ix:=ix2 hk
 have hp:=hg _ (bj hk)
 have hft:(l.take (k + 1)).filter p=(l.take k).filter p ++ if p (l.getD k default)=true then [l.getD k default] else []:=by
  rw [bX hk,List.filter_append]
  cases h:p (l.getD k default)
  ·rw [List.filter_cons_of_neg (by rw [h]; decide),List.filter_nil,if_neg (by decide)]
  ·rw [List.filter_cons_of_pos h,List.filter_nil,if_pos rfl]
 have hcl:=ec ((l.take k).filter p)
 have hfl:((l.take k).filter p).length ≤ l.length:=Nat.le_trans (List.length_filter_le _ _) (by rw [List.length_take]; omega)
 generalize l.getD k default=v at *
 (have zz:=@ix; repeat' (first|refine zW ?_|apply a_n|refine zO ?_|refine vY ?_|refine alY ?_|refine stY ?_|(refine zGY ?_ ?_ <;> (intro _hg; try (exfalso; omega)))|fail)) <;> (try clear zz)
 refine bL ev0 ev0 hp (aa (ao (bx _ _) (hcap _ fun x hx=>by (repeat rw [af (by omega)]); exact h3 x hx)) rfl) ?_
 cases hpv:p v
 ·rw [hpv,if_neg (by decide),List.append_nil] at hft
  (have zz:=aI @o1 @o2; repeat' (first|apply a_n|refine zO ?_|refine vY ?_|refine cFY ?_|fail)) <;> (try clear zz)
  refine ⟨(k + 1,sv),by dsimp only; omega,⟨by dsimp only; omega,by omega,fun y hy=>by (repeat rw [af (by omega)]); exact h3 y hy,by dsimp only; rw [hft]; exact hrow.same fun b hb=>by have:=hbd b hb; (repeat rw [af (by omega)]),fun b hb=>by have:=hbd b hb; omega⟩,ag0⟩
 ·rw [hpv,if_pos rfl] at hft
  (have zz:=aI @o1 @o2; repeat' (first|apply a_n|refine zO ?_|refine vY ?_|refine blY ?_|refine cTY ?_|fail)) <;> (try clear zz)
  refine jX rfl ev0 (hrow.same fun b hb=>?_) ev0 jL rfl rfl (by omega) (by omega) (by omega) ?_
  ·have:=hbd b hb; (repeat rw [af (by omega)])
  rintro s2 H2 nx2 hr2 i1 i2 i3 i4
  obtain ⟨o3,o4⟩:=hr2.one
  (have zz:=aI @o3 @o4; repeat' (first|apply a_n|refine zO ?_|refine vY ?_|fail)) <;> (try clear zz)
  refine ⟨(k + 1,s2),by dsimp only; omega,⟨by dsimp only; omega,by omega,fun y hy=>?_,?_,fun b hb=>?_⟩,ag0⟩
  ·rw [i3 y (by omega) (fun h=>by have:=hbd _ h; omega)]; (repeat rw [af (by omega)]); exact h3 y hy
  ·dsimp only
   rw [hft,gH]; exact hr2
  ·rcases i4 b hb with h | h
   ·have:=hbd b h; omega
   ·omega
theorem Az (s:Spx) (v:Vtx) (hs:Shn s):Pure Tryz.prog 116 [bh v,.iptr [ap s] 0] (.bool (decide (v ∈ s))):=by
 refine Pure.of_c2 follows zF (Nat.le_of_ble_eq_true rfl) ?_
 simp only [yX,cO,cG,cN,cM,cD,cF,cB,aq,aG]
 (have zz:=and_self; repeat' (first|refine zW ?_|apply a_n|refine zO ?_|refine vY ?_|refine cY ?_ (hp:=by exact kr s v hs) (hs:=by (first | refine aa ?_ rfl | apply ac); (repeat' (first | exact ab | apply aj | apply ae | exact au _ | exact bx _)); first | done | fail)|refine bxY ?_|refine ag rfl ?_|refine r1Y ?_|fail)) <;> (try clear zz)
 exact .bool _
theorem yB (s:Spx) (H:Hp) (nx:Nat):Abs.Fn Tryz.prog 79 [ap s] H nx fun r H' nx'=>r=.func 116 [.ptr nx 1 0]∧H'=ah H nx [ap s]∧nx'=nx + 1:=by
 refine Abs.Fn.of_c2 follows AK (Nat.le_of_ble_eq_true rfl) ?_
 simp only [b79,cO,cG,cN,cM,cD,cF,cB,aq,aG]
 (have zz:=aI @aP @aF; repeat' (first|refine zW ?_|apply a_n|refine zO ?_|refine vY ?_|refine bxY ?_|refine ag rfl ?_|refine r1Y ?_|fail)) <;> (try clear zz)
 exact ⟨rfl,rfl,rfl⟩
theorem qz {a b:Spx}:decide (((a.filter fun v=>decide (v ∈ b)).length:Int)=a.length)=bv a b:=by
 unfold bv
 induction a with
 | nil=>rfl
 | cons v l ih =>
  rw [List.all_cons]
  by_cases h:v ∈ b
  ·rw [List.filter_cons_of_pos (by simpa using h),decide_eq_true h,Bool.true_and,← ih]
   refine decide_eq_decide.2 ?_
   simp
  ·rw [List.filter_cons_of_neg (by simpa using h),decide_eq_false h,Bool.false_and]
   refine decide_eq_false ?_
   have:=List.length_filter_le (fun v=>decide (v ∈ b)) l
   simp; omega
theorem vO (a b:Spx) (ha:bn a=0) (hb:bn b=0):Pure Tryz.prog 36 [ap a,ap b] (.tup [.bool (bv a b),.int .i64 0]):=by
 refine Pure.of_c2 follows AD (Nat.le_of_ble_eq_true rfl) ?_
 simp only [b36,cO,cG,cN,cM,cD,cF,cB,aq,aG]
 obtain ⟨a1,a2,a3,a4⟩:=bC ha
 obtain ⟨b1,b2,b3,b4⟩:=bC hb
 have hbo:=vM a b (show _ ≤ _ by omega) (show _ ≤ _ by omega)
 rw [ha,hb,if_neg (fun h=>h rfl)] at hbo
 have z0:decide ((0:Int) ≠ 0)=false:=rfl
 (have zz:=@z0; repeat' (first|refine zW ?_|apply a_n|refine zO ?_|refine vY ?_|refine cY ?_ (hp:=hbo) (hs:=by (first | refine aa ?_ rfl | apply ac); (repeat' (first | exact ab | apply aj | apply ae | exact au _)); first | done | fail)|refine cFY ?_|fail)) <;> (try clear zz)
 refine av ev0 ev0 (yB b _ _) ?_
 rintro _ _ _ ⟨rfl,rfl,rfl⟩
 refine av ev0 ev0 (w5 a (fun v=>decide (v ∈ b)) 116 [.ptr 0 1 0] [.iptr [ap b] 0] (by omega) _ _ (fun H' h=>ao (dX ((h 0 (by omega)).trans ai) rfl (ao (au _ _) ab)) ab) (fun v _=>Az b v (show _ ≤ _ by omega))) ?_
 rintro r H1 nx1 ⟨r1,r2,r3⟩
 have hls:=r1.lenS (ec _) (by omega)
 (have zz:=aI @hls (aI @ar @qz); repeat' (first|apply a_n|refine zO ?_|refine vY ?_|refine ag rfl ?_|refine r2Y ?_|fail)) <;> (try clear zz)
 exact ip rfl rfl
end Go.Proofs.YtbgdcebmgjafjaaGreat
namespace Go.Proofs.YtbgdcebmgjafjaaGreat
open Go Go.Abs
attribute [local irreducible] aC ak bb a8 aL aQ az aR ba br Go.Abs.Fn aZ Go.Abs.Pure ax aH Yl
theorem sF (l:List Spx) (p:Spx→Bool) (g:Nat) (caps caps':List AV) (hl:l.length ≤ 1000000) (H:Hp) (nx:Nat) (hcap:∀ H':Hp,(∀ x,x < nx→H' x=H x)→aH H' caps caps') (hg:∀ x ∈ l,Pure Tryz.prog g (ap x :: caps') (.bool (p x))) :
    Abs.Fn Tryz.prog 117 [aD l,.func g caps] H nx fun r H' nx'=>Row H' 1 r ((l.filter p).map ap)∧(∀ x,x < nx→H' x=H x)∧nx ≤ nx':=by
 refine Abs.Fn.of_c2 follows zy (Nat.le_of_ble_eq_true rfl) ?_
 simp only [Ap,cO,cG,cN,cM,cD,cF,cB,aq,aG]
 (have zz:=@aK; repeat' (first|refine zW ?_|apply a_n|refine zO ?_|refine vY ?_|fail)) <;> (try clear zz)
 refine aS (X:=Nat × AV) (fun x=>[(1,.func g caps),(5,x.2),(8,aD l),(9,.int .i64 l.length),(10,.int .i64 x.1)]) (fun x H' nx'=>x.1 ≤ l.length∧nx ≤ nx'∧(∀ y,y < nx→H' y=H y)∧Row H' 1 x.2 (((l.take x.1).filter p).map ap)∧∀ b,eB x.2=some b→nx ≤ b∧b < nx') (fun x=>l.length - x.1) (0,.esl) ⟨Nat.zero_le _,Nat.le_refl _,fun _ _=>rfl,Row.nil,fun b h=>(by cases h)⟩ (by (iterate 5 refine And.intro rfl ?_); trivial) ?_
 rintro ⟨k,sv⟩ H1 nx1 ⟨h1,h2,h3,hrow,hbd⟩
 dsimp only at h1 hrow hbd ⊢
 obtain ⟨o1,o2⟩:=hrow.one
 by_cases hk:k < l.length
 rotate_left
 ·rw [List.take_of_length_le (by omega)] at hrow
  (have zz:=aI @o1 @o2; repeat' (first|refine zW ?_|apply a_n|apply a_x|refine zO ?_|refine vY ?_|(refine zGY ?_ ?_ <;> (intro _hg; try (exfalso; omega)))|refine ag rfl ?_|refine r1Y ?_|fail)) <;> (try clear zz)
  exact ⟨hrow,h3,h2⟩
 have ix:=iv hk
 have hp:=hg _ (bj hk)
 have hft:(l.take (k + 1)).filter p=(l.take k).filter p ++ if p (l.getD k default)=true then [l.getD k default] else []:=by
  rw [bX hk,List.filter_append]
  cases h:p (l.getD k default)
  ·rw [List.filter_cons_of_neg (by rw [h]; decide),List.filter_nil,if_neg (by decide)]
  ·rw [List.filter_cons_of_pos h,List.filter_nil,if_pos rfl]
 have hfl:((l.take k).filter p).length ≤ l.length:=Nat.le_trans (List.length_filter_le _ _) (by rw [List.length_take]; omega)
 generalize l.getD k default=v at *
 (have zz:=@ix; repeat' (first|refine zW ?_|apply a_n|refine zO ?_|refine vY ?_|(refine zGY ?_ ?_ <;> (intro _hg; try (exfalso; omega)))|fail)) <;> (try clear zz)
 refine bL ev0 ev0 hp (aa (ao (au _ _) (hcap _ h3)) rfl) ?_
 cases hpv:p v
 ·rw [hpv,if_neg (by decide),List.append_nil] at hft
  (have zz:=aI @o1 @o2; repeat' (first|apply a_n|refine zO ?_|refine vY ?_|refine cFY ?_|fail)) <;> (try clear zz)
  refine ⟨(k + 1,sv),by dsimp only; omega,⟨by dsimp only; omega,h2,h3,by dsimp only; rw [hft]; exact hrow,hbd⟩,ag0⟩
 ·rw [hpv,if_pos rfl] at hft
  (have zz:=aI @o1 (aI @o2 (aI @aP @aF)); repeat' (first|apply a_n|refine zO ?_|refine vY ?_|refine blY ?_|refine cTY ?_|fail)) <;> (try clear zz)
  refine jX rfl ev0 (hrow.same fun b hb=>?_) ev0 gU rfl rfl Nat.one_pos (by rw [List.length_map]; omega) (by rw [List.length_map]; omega) ?_
  ·have:=hbd b hb; rw [af (by omega)]
  rintro s2 H2 nx2 hr2 i1 i2 i3 i4
  obtain ⟨o3,o4⟩:=hr2.one
  (have zz:=aI @o3 @o4; repeat' (first|apply a_n|refine zO ?_|refine vY ?_|fail)) <;> (try clear zz)
  refine ⟨(k + 1,s2),by dsimp only; omega,⟨by dsimp only; omega,by omega,fun y hy=>?_,?_,fun b hb=>?_⟩,ag0⟩
  ·rw [i3 y (by omega) (fun h=>by have:=hbd _ h; omega),af (by omega)]; exact h3 y hy
  ·dsimp only
   rw [hft,List.map_append]; exact hr2
  ·rcases i4 b hb with h | h
   ·have:=hbd b h; omega
   ·omega
theorem sO (s t:Spx) (hs:b6 bt s∧s.length ≤ 1000000) (ht:b6 bt t∧t.length ≤ 1000000):Pure Tryz.prog 118 [ap t,.iptr [ap s] 0] (.bool (bv s t)):=by
 refine Pure.of_c2 follows Aa (Nat.le_of_ble_eq_true rfl) ?_
 simp only [yb,cO,cG,cN,cM,cD,cF,cB,aq,aG]
 (have zz:=and_self; repeat' (first|refine zW ?_|apply a_n|refine zO ?_|refine vY ?_|refine cY ?_ (hp:=by exact uU s t hs.1 ht.1 hs.2 ht.2) (hs:=by (first | refine aa ?_ rfl | apply ac); (repeat' (first | exact ab | apply aj | apply ae | exact au _)); first | done | fail)|refine ag rfl ?_|refine r1Y ?_|fail)) <;> (try clear zz)
 exact .bool _
theorem uL (c:List Spx) (s:Spx) (hc:c.length ≤ 1000000) (hcs:∀ t ∈ c,b6 bt t∧t.length ≤ 1000000) (hs:b6 bt s∧s.length ≤ 1000000) (H:Hp) (nx:Nat) :
    Abs.Fn Tryz.prog 81 [d8 c,ap s] H nx fun r H' nx'=>Row H' 1 r ((c.filter fun t=>bv s t).map ap)∧(∀ x,x < nx→H' x=H x)∧nx ≤ nx':=by
 refine Abs.Fn.of_c2 follows AH (Nat.le_of_ble_eq_true rfl) ?_
 simp only [b81,cO,cG,cN,cM,cD,cF,cB,aq,aG]
 (have zz:=aI @aP (aI @aF (aI @aJ @ay)); repeat' (first|refine zW ?_|apply a_n|refine zO ?_|refine vY ?_|refine bxY ?_|fail)) <;> (try clear zz)
 refine av ev0 ev0 (sF c (fun t=>bv s t) 118 [.ptr (nx + 1) 1 0] [.iptr [ap s] 0] hc _ _ (fun H' h=>ao (dX ((h (nx + 1) (by omega)).trans ai) rfl (ao (au _ _) ab)) ab) (fun t ht=>sO s t hs (hcs t ht))) ?_
 rintro r H1 nx1 ⟨r1,r2,r3⟩
 obtain ⟨o1,o2⟩:=r1.one
 (have zz:=aI @o1 @o2; repeat' (first|apply a_n|refine zO ?_|refine vY ?_|refine ag rfl ?_|refine r1Y ?_|fail)) <;> (try clear zz)
 exact ⟨r1,fun x hx=>(r2 x (by omega)).trans (by rw [af (by omega),af (by omega)]),by omega⟩
theorem q0 {c:List Spx} {p:Spx→Bool}:decide ((0:Int) < (c.filter p).length)=c.any p:=by
 by_cases h:c.any p=true
 ·rw [h]
  obtain ⟨x,x1,x2⟩:=List.any_eq_true.1 h
  have:0 < (c.filter p).length:=List.length_pos_of_mem (List.mem_filter.2 ⟨x1,x2⟩)
  exact decide_eq_true (by omega)
 ·rw [Bool.not_eq_true] at h
  rw [h]
  have:c.filter p=[]:=List.filter_eq_nil_iff.2 fun x hx=>List.any_eq_false.1 h x hx
  rw [this]; rfl
theorem qy (c:List Spx) (s:Spx) (hc:bc c=0) (hs:bn s=0):Pure Tryz.prog 37 [d8 c,ap s] (.tup [.bool (c.any fun t=>bv s t),.int .i64 0]):=by
 obtain ⟨p1,p2,p3,p4⟩:=dx hc
 obtain ⟨s1,s2,s3,s4⟩:=bC hs
 have hcs:∀ t ∈ c,Shn t:=fun t h=>by have:=(bC (p2 t h)).2.1; show _ ≤ _; omega
 have hpl:Pure Tryz.prog 80 [d8 c,ap s] (.int .i64 0):=by
  refine Pure.of_c2 follows AW (Nat.le_of_ble_eq_true rfl) ?_
  simp only [b80,cO,cG,cN,cM,cD,cF,cB,aq,aG]
  have h1:=gB c (show _ ≤ _ by omega) hcs
  have h2:=d7 s (show _ ≤ _ by omega)
  rw [hc] at h1
  rw [hs] at h2
  have z0:decide ((0:Int) ≠ 0)=false:=rfl
  (have zz:=aI @aJ (aI @ay @z0); repeat' (first|refine zW ?_|apply a_n|refine zO ?_|refine vY ?_|refine cY ?_ (hp:=by first | exact h1 | exact h2) (hs:=by (first | refine aa ?_ rfl | apply ac); (repeat' (first | exact ab | apply aj | apply ae | exact bz _ | exact au _)); first | done | fail)|refine bxY ?_|refine cFY ?_|refine ag rfl ?_|refine r1Y ?_|fail)) <;> (try clear zz)
  exact .int _ _
 refine Pure.of_c2 follows AN (Nat.le_of_ble_eq_true rfl) ?_
 simp only [b37,cO,cG,cN,cM,cD,cF,cB,aq,aG]
 have z0:decide ((0:Int) ≠ 0)=false:=rfl
 (have zz:=aI @aJ (aI @ay @z0); repeat' (first|refine zW ?_|apply a_n|refine zO ?_|refine vY ?_|refine cY ?_ (hp:=hpl) (hs:=by (first | refine aa ?_ rfl | apply ac); (repeat' (first | exact ab | apply aj | apply ae | exact bz _ | exact au _)); first | done | fail)|refine bxY ?_|refine cFY ?_|fail)) <;> (try clear zz)
 refine av ev0 ev0 (uL c s (by omega) (fun t h=>⟨(bC (p2 t h)).2.2.1,by have:=(bC (p2 t h)).2.1; omega⟩) ⟨s3,by omega⟩ _ _) ?_
 rintro r H1 nx1 ⟨r1,r2,r3⟩
 have hls:=r1.lenS (n:=(c.filter fun t=>bv s t).length) (by rw [List.length_map,Nat.mul_one]) Nat.one_pos
 (have zz:=aI @hls @q0; repeat' (first|apply a_n|refine zO ?_|refine vY ?_|refine ag rfl ?_|refine r2Y ?_|fail)) <;> (try clear zz)
 exact ip rfl rfl
theorem kW {L:List Spx} (hL:∀ s ∈ L,s.length ≤ 8):∀ (n:Nat) (s:Spx),s ∈ L→8 ≤ s.length + n→∃ t ∈ f8 L,∀ v ∈ s,v ∈ t
 | n,s,hs,hn=>by
  cases h:bm L s
  ·exact ⟨s,mv.2 ⟨hs,h⟩,fun v hv=>hv⟩
  ·obtain ⟨t,t1,t2,t3⟩:=cu.1 h
   match n with
   | 0=>have:=hL t t1; omega
   | n + 1 =>
    obtain ⟨u,u1,u2⟩:=kW hL n t t1 (by omega)
    exact ⟨u,u1,fun v hv=>u2 v (t3 v hv)⟩
theorem rH {m:MapV} {a b:Spx} (h:∀ v ∈ a,v ∈ b):∀ w ∈ bW m a,w ∈ bW m b:=fun w hw=>by
 obtain ⟨v,v1,v2⟩:=mw.1 hw
 exact mw.2 ⟨v,h v v1,v2⟩
theorem na {m:MapV} {c:List Spx} (hc:bc c=0) {x y:Spx} (hx:x ∈ c) (hy:∀ v ∈ y,v ∈ x):((f8 (c.map (bW m))).any fun t=>bv (bW m y) t)=true:=by
 obtain ⟨p1,p2,p3,p4⟩:=dx hc
 have h8:∀ s ∈ c.map (bW m),s.length ≤ 8:=fun s hs=>by
  obtain ⟨t,t1,rfl⟩:=List.mem_map.1 hs
  exact Nat.le_trans nY (bC (p2 t t1)).2.1
 obtain ⟨t,t1,t2⟩:=kW h8 8 (bW m x) (List.mem_map.2 ⟨x,hx,rfl⟩) (by omega)
 exact List.any_eq_true.2 ⟨t,t1,dW.2 fun w hw=>t2 w (rH hy w hw)⟩
end Go.Proofs.YtbgdcebmgjafjaaGreat
namespace Go.Proofs.YtbgdcebmgjafjaaGreat
open Go Go.Abs
def yP:List (Nat × F2):=[(11,b11),(12,b12),(14,b14),(16,b16),(18,b18),(21,b21),(23,b23),(27,b27),(29,b29),(31,b31),(32,b32),(34,b34),(35,b35),(40,b40),(41,b41),(42,b42),(43,b43),(44,b44),(45,b45),(46,b46),(47,b47),(48,b48),(49,b49),(57,b57),(58,b58),(59,b59),(62,b62),(63,b63),(64,b64),(69,b69),(70,b70),(72,b72),(73,b73),(74,b74),(75,b75),(76,b76),(84,b84),(85,b85),(86,b86),(88,b88),(91,b91),(92,b92),(93,b93),(94,b94),(95,b95),(99,b99),(103,xt),(104,xT),(108,yp),(109,vV),(110,xb),(111,wY),(112,xu),(113,xj),(114,vW),(122,xl),(123,ws),(127,xJ),(129,vS),(130,xq),(132,xO),(141,wn),(142,vG)]
theorem yD:gn Tryz.prog (lookup yP) :=
 (am AQ (am zT (am AR (am AP (am A4 (am AC (am zG (am AE (am yz (am xR (am AF (am yt (am yK (am y7 (am zI (am z9 (am yx (am yC (am yc (am yd (am Am (am Ax (am zR (am zP (am AM (am Aj (am AI (am AO (am ya (am z8 (am Ao (am AX (am yZ (am yf (am yj (am zo (am yT (am An (am yL (am AJ (am zN (am zS (am A2 (am yE (am Ag (am yG (am wA (am wD (am Ay (am ua (am wF (am wV (am wH (am wX (am u4 (am wM (am uj (am ww (am tM (am wP (am wO (am ur (am tO sL)))))))))))))))))))))))))))))))))))))))))))))))))))))))))))))))
set_option maxRecDepth 100000 in
theorem gW:Go.Abs.Pure Tryz.prog 11 [] (.bool true):=Pure.of_run follows yD (pf:=wL [23,14,12,18,16,27,21,40]) (n:=2000) (good:=isTrue) (by decide +kernel) sE
end Go.Proofs.YtbgdcebmgjafjaaGreat
namespace Go.Proofs.YtbgdcebmgjafjaaGreat
open Go Go.Abs
attribute [local irreducible] aC ak bb a8 aL aQ az aR ba br Go.Abs.Fn aZ Go.Abs.Pure ax aH Yl
end Go.Proofs.YtbgdcebmgjafjaaGreat
namespace Go.Proofs.YtbgdcebmgjafjaaGreat
open Go Go.Abs
attribute [local irreducible] aC ak bb a8 aL aQ az aR ba br Go.Abs.Fn aZ Go.Abs.Pure ax aH Yl
end Go.Proofs.YtbgdcebmgjafjaaGreat
namespace Go.Proofs.YtbgdcebmgjafjaaGreat
open Go Go.Abs
theorem sK {x y:Spx} {k:Nat} (hx:bn x=0) (hk:1 ≤ k) (hy:y ∈ dz x k):bn y=0:=by
 obtain ⟨x1,x2,x3,x4⟩:=bC hx
 obtain ⟨y1,y2⟩:=fD.1 hy
 have:=y1.length_le
 exact pn ⟨by omega,by omega⟩ (t7 x3 hy) fun v hv=>x4 v (y1.subset hv)
theorem qa {m:MapV} {l:Spx} (hm:dL m=0) (hl:bn l=0) (ht:bV m l=true):mi m l=(bW m l,0):=by
 unfold mi
 rw [if_neg (fun h=>h hm),if_neg (fun h=>h hl),if_neg (by rw [ht]; decide)]
theorem qC {m:MapV} {c:List Spx} (hm:dL m=0) (hc:bc c=0) (ht:c.all (bV m)=true):mq m c (f8 (c.map (bW m)))=(true,0)∧bc (f8 (c.map (bW m)))=0:=by
 obtain ⟨p1,p2,p3,p4⟩:=dx hc
 have hI:bc (f8 (c.map (bW m)))=0:=oz (by rw [List.length_map]; omega) fun s hs=>by
  obtain ⟨t,t1,rfl⟩:=List.mem_map.1 hs
  exact gJ hm (p2 t t1) (List.all_eq_true.1 ht t t1)
 refine ⟨?_,hI⟩
 unfold mq
 rw [if_neg (fun h=>h hm),if_neg (fun h=>h hc),if_neg (fun h=>h hI),if_neg (by rw [ht]; decide)]
 refine Prod.ext (List.all_eq_true.2 fun s hs=>?_) rfl
 obtain ⟨t,t1,rfl⟩:=List.mem_map.1 hs
 exact na hc t1 (fun v hv=>hv)
attribute [local irreducible] aC ak bb a8 aL aQ az aR ba br Go.Abs.Fn aZ Go.Abs.Pure ax aH Yl
theorem vu (m:MapV) (c:List Spx) (hm:ShM m) (hc:Shn c∧∀ s ∈ c,Shn s):Pure Tryz.prog 7 [mR m,d8 c] (.bool true):=by
 refine Pure.of_c2 follows is7 (Nat.le_of_ble_eq_true rfl) ?_
 simp only [b7,cO,cG,cN,cM,cD,cF,cB,aq,aG]
 have f1:=xN m hm
 have f2:=vA c hc.1 hc.2
 have f3:=pM m hm
 have f4:=gB c hc.1 hc.2
 have z0:decide ((0:Int) ≠ 0)=false:=rfl
 cases e1:uR m
 ·rw [e1] at f1
  (have zz:=aI @aP (aI @aF (aI @aJ @ay)); repeat' (first|refine zW ?_|apply a_n|apply a_r|refine zO ?_|refine vY ?_|refine cY ?_ (hp:=by first | exact f1 | exact gW) (hs:=by (first | refine aa ?_ rfl | apply ac); (repeat' (first | exact ab | apply aj | apply ae | exact cC _)); first | done | fail)|refine bxY ?_|refine gFY ?_|refine cTY ?_|refine ag rfl ?_|refine r1Y ?_|fail)) <;> (try clear zz)
  exact .bool _
 rw [e1] at f1
 cases e2:gL c
 ·rw [e2] at f2
  (have zz:=aI @aP (aI @aF (aI @aJ @ay)); repeat' (first|refine zW ?_|apply a_n|apply a_r|refine zO ?_|refine vY ?_|refine cY ?_ (hp:=by first | exact f1 | exact f2 | exact gW) (hs:=by (first | refine aa ?_ rfl | apply ac); (repeat' (first | exact ab | apply aj | apply ae | exact cC _ | exact bz _)); first | done | fail)|refine bxY ?_|refine gTY ?_|refine gFY ?_|refine cTY ?_|refine ag rfl ?_|refine r1Y ?_|fail)) <;> (try clear zz)
  exact .bool _
 rw [e2] at f2
 obtain ⟨fc1,fc2⟩:=qP.1 e2
 by_cases e3:dL m=0
 rotate_left
 ·have z:decide (dL m ≠ 0)=true:=decide_eq_true e3
  (have zz:=aI @aP (aI @aF (aI @aJ (aI @ay @z))); repeat' (first|refine zW ?_|apply a_n|apply a_r|refine zO ?_|refine vY ?_|refine cY ?_ (hp:=by first | exact f1 | exact f2 | exact f3 | exact gW) (hs:=by (first | refine aa ?_ rfl | apply ac); (repeat' (first | exact ab | apply aj | apply ae | exact cC _ | exact bz _)); first | done | fail)|refine bxY ?_|refine gTY ?_|refine gFY ?_|refine cTY ?_|refine ag rfl ?_|refine r1Y ?_|fail)) <;> (try clear zz)
  exact .bool _
 rw [e3] at f3
 by_cases e4:bc c=0
 rotate_left
 ·have z:decide (bc c ≠ 0)=true:=decide_eq_true e4
  (have zz:=aI @aP (aI @aF (aI @aJ (aI @ay (aI @z @z0)))); repeat' (first|refine zW ?_|apply a_n|apply a_r|refine zO ?_|refine vY ?_|refine cY ?_ (hp:=by first | exact f1 | exact f2 | exact f3 | exact f4 | exact gW) (hs:=by (first | refine aa ?_ rfl | apply ac); (repeat' (first | exact ab | apply aj | apply ae | exact cC _ | exact bz _)); first | done | fail)|refine bxY ?_|refine gTY ?_|refine cTY ?_|refine ag rfl ?_|refine r1Y ?_|fail)) <;> (try clear zz)
  exact .bool _
 rw [e4] at f4
 have s1:=vR m c hm hc.1 hc.2
 unfold nD at s1
 rw [if_neg (fun h=>h e3),if_neg (fun h=>h e4)] at s1
 cases e5:c.all (bV m)
 ·rw [if_pos e5] at s1
  dsimp only at s1
  (have zz:=aI @aP (aI @aF (aI @aJ (aI @ay @z0))); repeat' (first|refine zW ?_|apply a_n|apply a_r|refine zO ?_|refine vY ?_|refine cY ?_ (hp:=by first | exact f1 | exact f2 | exact f3 | exact f4 | exact s1 | exact gW) (hs:=by (first | refine aa ?_ rfl | apply ac); (repeat' (first | exact ab | apply aj | apply ae | exact cC _ | exact bz _)); first | done | fail)|refine alY ?_|refine bxY ?_|refine stY ?_|refine gTY ?_|refine cFY ?_|(refine zGY ?_ ?_ <;> (intro _hg; try (exfalso; omega)))|refine ag rfl ?_|refine r1Y ?_|fail)) <;> (try clear zz)
  exact .bool _
 rw [if_neg (by rw [e5]; decide)] at s1
 dsimp only at s1
 obtain ⟨i1,i2⟩:=qC e3 e4 e5
 have hhas:=fun {x y:Spx}=>na (m:=m) e4 (x:=x) (y:=y)
 have hIl:(f8 (c.map (bW m))).length ≤ 1000000:=by
  have:=qp (l:=c.map (bW m))
  rw [List.length_map] at this
  omega
 generalize f8 (c.map (bW m))=I at *
 obtain ⟨q1,q2,q3,q4⟩:=dx i2
 have s2:=nT m c I hm hc.1 hc.2 (show _ ≤ _ by omega) (fun s h=>by have:=(bC (q2 s h)).2.1; show _ ≤ _; omega)
 rw [i1] at s2
 dsimp only at s2
 (have zz:=aI @aP (aI @aF (aI @aJ (aI @ay (aI @aK @z0)))); repeat' (first|refine zW ?_|apply a_n|refine zO ?_|refine vY ?_|refine cY ?_ (hp:=by first | exact f1 | exact f2 | exact f3 | exact f4 | exact s1 | exact s2) (hs:=by (first | refine aa ?_ rfl | apply ac); (repeat' (first | exact ab | apply aj | apply ae | exact cC _ | exact bz _)); first | done | fail)|refine alY ?_|refine bxY ?_|refine stY ?_|refine gTY ?_|refine cFY ?_|fail)) <;> (try clear zz)
 refine rW (X:=Nat) (fun k=>[(2,.ptr 0 2 0),(5,.ptr 2 1 0),(70,aD c),(71,.int .i64 c.length),(72,.int .i64 k)]) (fun k=>k ≤ c.length) (fun k=>c.length - k) 0 (Nat.zero_le _) (by (iterate 5 refine And.intro rfl ?_); trivial) ?_
 clear s1 s2 f1 f2 f3 f4
 intro k hk
 by_cases hk2:k < c.length
 rotate_left
 ·(have zz:=and_self; repeat' (first|refine zW ?_|apply a_n|apply a_x|refine zO ?_|refine vY ?_|refine cY ?_ (hp:=gW) (hs:=by (first | refine aa ?_ rfl | apply ac); (repeat' (first | exact ab | apply aj | apply ae | exact cC _)); first | done | fail)|(refine zGY ?_ ?_ <;> (intro _hg; try (exfalso; omega)))|refine ag rfl ?_|refine r1Y ?_|fail)) <;> (try clear zz)
  exact .bool _
 have ix:=iv hk2
 have hx:=bj hk2
 generalize c.getD k default=x at *
 have hxe:=(dx e4).2.1 x hx
 have hxt:=List.all_eq_true.1 e5 x hx
 obtain ⟨x1,x2,x3,x4⟩:=bC hxe
 have a1:=sf m x hm (show _ ≤ _ by omega)
 rw [qa e3 hxe hxt] at a1
 dsimp only at a1
 have hwe:=gJ e3 hxe hxt
 have hwl:=nY (m:=m) (l:=x)
 have hsub:∀ y:Spx,(∀ v ∈ y,v ∈ x)→bv (bW m y) (bW m x)=true:=fun y h=>dW.2 fun w hw=>rH h w hw
 obtain ⟨w1,w2,w3,w4⟩:=bC hwe
 generalize bW m x=w at *
 have z1:decide (((w.length:Nat):Int)=0)=false:=decide_eq_false (by omega)
 have z2:decide ((x.length:Int) < w.length)=false:=decide_eq_false (by omega)
 (have zz:=aI @ix (aI @ar (aI @z0 (aI @z1 @z2))); repeat' (first|refine zW ?_|apply a_n|refine zO ?_|refine vY ?_|refine cY ?_ (hp:=a1) (hs:=by (first | refine aa ?_ rfl | apply ac); (repeat' (first | exact ab | apply aj | apply ae | exact cC _ | exact au _)); first | done | fail)|refine gTY ?_|refine cFY ?_|(refine zGY ?_ ?_ <;> (intro _hg; try (exfalso; omega)))|fail)) <;> (try clear zz)
 refine rW (X:=Nat) (fun i=>[(2,.ptr 0 2 0),(5,.ptr 2 1 0),(70,aD c),(71,.int .i64 c.length),(72,.int .i64 k),(10,ap x),(11,ap w),(97,.int .i64 x.length),(98,.int .i64 i)]) (fun i=>i ≤ x.length) (fun i=>x.length - i) 0 (Nat.zero_le _) (by (iterate 9 refine And.intro rfl ?_); trivial) ?_
 clear a1 ix
 intro i hi
 by_cases hi2:i < x.length
 rotate_left
 ·(have zz:=and_self; repeat' (first|refine zW ?_|apply a_n|apply a_x|refine zO ?_|refine vY ?_|(refine zGY ?_ ?_ <;> (intro _hg; try (exfalso; omega)))|fail)) <;> (try clear zz)
  exact ⟨k + 1,by omega,by omega,ag0,rfl,rfl⟩
 have a2:=tY x ((i:Int) + 1) (show _ ≤ _ by omega)
 unfold nM at a2
 rw [if_neg (fun h=>h hxe),if_neg (by omega),show ((i:Int) + 1).toNat=i + 1 by omega] at a2
 dsimp only at a2
 have hL:=rG (l:=x) (k:=i + 1) (by omega)
 have hLy:∀ y ∈ dz x (i + 1),bn y=0∧∀ v ∈ y,v ∈ x:=fun y h=>⟨sK hxe (by omega) h,fun v hv=>(fD.1 h).1.subset hv⟩
 generalize dz x (i + 1)=L at *
 (have zz:=aI @aK @z0; repeat' (first|refine zW ?_|apply a_n|refine zO ?_|refine vY ?_|refine cY ?_ (hp:=a2) (hs:=by (first | refine aa ?_ rfl | apply ac); (repeat' (first | exact ab | apply aj | apply ae | exact au _)); first | done | fail)|refine cFY ?_|(refine zGY ?_ ?_ <;> (intro _hg; try (exfalso; omega)))|fail)) <;> (try clear zz)
 refine rW (X:=Nat) (fun j=>[(2,.ptr 0 2 0),(5,.ptr 2 1 0),(70,aD c),(71,.int .i64 c.length),(72,.int .i64 k),(10,ap x),(11,ap w),(97,.int .i64 x.length),(98,.int .i64 i),(110,aD L),(111,.int .i64 L.length),(112,.int .i64 j)]) (fun j=>j ≤ L.length) (fun j=>L.length - j) 0 (Nat.zero_le _) (by (iterate 12 refine And.intro rfl ?_); trivial) ?_
 clear a2
 intro j hj
 by_cases hj2:j < L.length
 rotate_left
 ·(have zz:=and_self; repeat' (first|refine zW ?_|apply a_n|apply a_x|refine zO ?_|refine vY ?_|(refine zGY ?_ ?_ <;> (intro _hg; try (exfalso; omega)))|fail)) <;> (try clear zz)
  exact ⟨i + 1,by omega,by omega,ag0,rfl,rfl⟩
 have ix:=iv hj2
 have hy:=bj hj2
 generalize L.getD j default=y at *
 obtain ⟨y1,y2⟩:=hLy y hy
 have hyt:bV m y=true:=iq.2 fun v hv=>iq.1 hxt v (y2 v hv)
 obtain ⟨y3,y4,y5,y6⟩:=bC y1
 have a1:=sf m y hm (show _ ≤ _ by omega)
 rw [qa e3 y1 hyt] at a1
 dsimp only at a1
 have hz:=gJ e3 y1 hyt
 have a2:=vO (bW m y) w hz hwe
 rw [hsub y y2] at a2
 have a3:=qy I (bW m y) i2 hz
 rw [hhas hx y2] at a3
 generalize bW m y=z at *
 have z3:decide ((0:Int) + 0 + 0 ≠ Int.ofNat 0)=false:=rfl
 (have zz:=aI @ix (aI @z0 @z3); repeat' (first|refine zW ?_|apply a_n|refine zO ?_|refine vY ?_|refine cY ?_ (hp:=by first | exact a1 | exact a2 | exact a3) (hs:=by (first | refine aa ?_ rfl | apply ac); (repeat' (first | exact ab | apply aj | apply ae | exact cC _ | exact au _ | exact bz _)); first | done | fail)|refine gTY ?_|refine cFY ?_|(refine zGY ?_ ?_ <;> (intro _hg; try (exfalso; omega)))|fail)) <;> (try clear zz)
 exact ⟨j + 1,by omega,by omega,ag0,rfl,rfl⟩
end Go.Proofs.YtbgdcebmgjafjaaGreat
namespace Go.Proofs.YtbgdcebmgjafjaaGreat
open Go Go.Abs Go.RowKit
section
variable {H:Type} {enc:TypeId × Value→H} {W:World}
theorem oi:dl enc Tryz.prog W 3 (AV.int .i64) (fun n=>(Lit.int .i64 n).wf=true):=tE Tryz.underlying3
set_option maxRecDepth 100000 in
theorem AG:dl enc Tryz.prog W 71 bh (fun _=>True) :=
 (fG Tryz.underlying71 (by kernel_rfl) (d9 (off:=0) (off':=1) rfl (by kernel_rfl) oi (d9 (off:=1) (off':=2) rfl (by kernel_rfl) oi iC))).map
  (fun a=>(⟨a.1,a.2.1⟩:Vtx)) (fun _ _=>trivial) (fun _ _=>rfl)
theorem oXs:dl enc Tryz.prog W 22 ap Shn :=
 (kf Tryz.underlying22 (sz:=2) (by_:=16) (by kernel_rfl) (by kernel_rfl) (by omega) (fun _=>rfl) AG).mono fun l h=>by have:=h.2.2; show _ ≤ _; omega
theorem AL:dl enc Tryz.prog W 25 aD (fun l=>Shn l∧∀ x ∈ l,Shn x) :=
 (kf Tryz.underlying25 (sz:=1) (by_:=24) (by kernel_rfl) (by kernel_rfl) Nat.one_pos (fun _=>rfl) oXs).mono fun l h=>⟨by have:=h.2.2; show _ ≤ _; omega,h.1⟩
set_option maxRecDepth 100000 in
theorem A1:dl enc Tryz.prog W 24 mR ShM :=
 (fG Tryz.underlying24 (by kernel_rfl) (d9 (off:=0) (off':=1) rfl (by kernel_rfl) oXs (d9 (off:=1) (off':=2) rfl (by kernel_rfl) oXs iC))).map
  (fun a=>(⟨a.1,a.2.1⟩:MapV)) (by rintro ⟨n,i,u⟩ ⟨h1,h2,_⟩; exact ⟨h1,h2⟩) (fun _ _=>rfl)
set_option maxRecDepth 100000 in
theorem oCx:dl enc Tryz.prog W 27 d8 (fun l=>Shn l∧∀ x ∈ l,Shn x) :=
 (fG Tryz.underlying27 (by kernel_rfl) (d9 (off:=0) (off':=1) rfl (by kernel_rfl) AL iC)).map
  (fun a=>a.1) (by rintro ⟨n,u⟩ ⟨h1,_⟩; exact h1) (fun _ _=>rfl)
end
theorem kQ {f:FuncId} {xs:List AV} {vs:List Value} (h:Go.Abs.Pure Tryz.prog f xs (.bool true)) (w:World) (hv:bN (E0 (ol w)) w xs vs) :
    Calls Tryz.prog f vs.toArray w fun e w'=>e=.returned (.bool true)∧Below w.heap.size w w':=by
 refine (h.2 (ol w) w vs (fun _ h=>h) hv).mono ?_
 rintro e w' ⟨v,imm',rfl,hb,_,_,_,hr⟩
 cases hr
 exact ⟨rfl,hb⟩
theorem AB:laidOutB Tryz.prog=true:=by kernel_rfl
end Go.Proofs.YtbgdcebmgjafjaaGreat
namespace Go.Proofs.YtbgdcebmgjafjaaGreat
open Go Go.Abs Go.RowKit Go.ChangeShapes Go.WideShapes Go.ChangeAt
theorem mJ {H:Type} {enc:TypeId × Value→H} {P:Program} {f:Func} {s:ChangeSpec} {apart fresh handsOn again:Bool} {W W':World} {args:Array Value} {v:Value} {ds gs:List (DataW H)} {before pa pv:List MemPlace}
    (hW:DataW.Whole enc P f.params.toList s.vars apart W args.toList ds gs before)
    (hres:∀ (b:Nat) (sp:Nat→Bool) (hd:Bool),DataW.TrodAll enc P W' b sp hd f.resultTypes.toList (v.resultList f.resultTypes.size) (s.fn H (ds ++ gs)).results [])
    (hargs:∀ sp:Nat→Bool,(∀ p ∈ before,sp p.block=true)→DataW.TrodAll enc P W' 0 sp true f.params.toList args.toList (s.fn H (ds ++ gs)).args pa)
    (hvars:∀ sp:Nat→Bool,(∀ p ∈ before,sp p.block=true)→DataW.TrodVars enc P W' sp s.vars (s.fn H (ds ++ gs)).vars pv)
    (hps:before=pa ++ pv) (hb:Below W.heap.size W W')
    (hok:∀ (j:Nat) (t:TypeId) (r:Value),f.resultTypes[j]?=some t→(v.resultList f.resultTypes.size)[j]?=some r→Value.okWide P W' .any 0 t r) :
    s.post enc P f apart fresh handsOn again W args v W':=by
 have hold:∀ p ∈ before,(fun b=>decide (b < W.heap.size)) p.block=true:=fun p hp=>by simpa using hW.lt p hp
 have hlt:=fun p hp=>hW.lt p hp
 refine ⟨ds,gs,before,[],pa,pv,hW,hres _ _ _,hargs _ hold,hvars _ hold,World.keptBut_mono (fun p hp=>⟨hp,?_⟩) (hb.frame _),fun _=>?_⟩
 ·rw [hps,List.mem_append] at hp
  exact Or.inr hp
 ·obtain ⟨_,_,_,_,_,hz,hn⟩:=hW
  refine ⟨hok,_,_,([] ++ pa) ++ pv,⟨[] ++ pa,pv,trodAll_append (hargs _ (fun _ _=>rfl)) (hres _ _ _),hvars _ (fun _ _=>rfl),rfl,?_,?_⟩,?_⟩
  ·intro b off hp
   have hp':MemPlace.cell b off ∈ before:=by rw [hps]; simpa using hp
   rw [hb.frozen (hlt _ hp')]
   exact hz b off hp'
  ·intro ha
   have:=hn ha
   rw [hps] at this
   simpa using this
  ·intro p hp _
   rw [hps]
   simpa using hp
theorem tR {E:Env} {w:World}:bN E w [] []:=⟨rfl,fun i x y h=>(by cases h)⟩
theorem nw {E:Env} {w:World} {x:AV} {y:Value} {xs:List AV} {ys:List Value} (h:Rel E w x y) (hs:bN E w xs ys):bN E w (x :: xs) (y :: ys):=by
 refine ⟨by simp [hs.1],fun i a b ha hb=>?_⟩
 cases i with
 | zero=>simp at ha hb; subst ha hb; exact h
 | succ i=>simp at ha hb; exact hs.2 i a b ha hb
theorem own:ownKnob Tryz.prog.godebug=none:=by kernel_rfl
end Go.Proofs.YtbgdcebmgjafjaaGreat