/- Texts of this claim, one after the other: T110, T111, T112, T113, T107, T114, T115, T116, T117, T119, T124, T125, T120, T123, T126, T127, T128, T129, T130, T131, T132, T134, T160, T161, T200, T202, T146, T209, T210, T211, A17, T212, T118, T135, T136, T137, T138, T139, T140, T141, T142, T143, A33, T122, T133, T144, T147, T148, T149, T170, T151, T171, T163, T164, T162, T165, T190, T172, T173, T174, T175, T176, T177, T166, T167, T201, T203, T208, T121. -/
import Derived.Test.YtpfkjcjgdilkkaaXG5
import Derived.Test.YtpfkjcjgdilkkaaXG4
import Derived.Test.YtpfkjcjgdilkkaaXG3
import Derived.Test.YtpfkjcjgdilkkaaRows
import Derived.WalkKit
import Derived.ProofKit
import Derived.OpenShut

set_option linter.unusedSimpArgs false
set_option linter.unusedVariables false
namespace Go.Proofs.Ytpfkjcjgdilkkaa
open Go Go.Abs
theorem gI {H:Hp} {d:Nat} {x:AV}:dL 1 (aj H d [x]) (.msl d 1 1 0 1)=some (1,[x]):=ky (n:=1) (len:=1) (off:=0) (cs:=[x]) al rfl (by simp)
theorem qt {l:List Spx} {i:Nat} {v:Vtx}:(gc l i v).length ≤ i:=by
 unfold gc;have:=List.length_filter_le (fun k=>decide (v ∈ l.getD k default)) (List.range i)
 rwa [List.length_range] at this
theorem wU {l:List Spx} {i j:Nat} {v:Vtx}:(j9 l i j v).length ≤ i + 1:=by
 unfold j9;have:=qt (l:=l) (i:=i) (v:=v);rw [ea];split <;> simp <;> omega
attribute [local irreducible] aO aq bI bM bk bx aM bA bR cz Go.Abs.Fn bK Go.Abs.Pure aQ a7 Yl
set_option maxHeartbeats 2000000 in
theorem iY (l:List Spx) (hl:l.length ≤ 100000) (hs:∀ s ∈ l,cr bm s∧s.length ≤ 1000000) (H:Hp) (nx:Nat):Abs.Fn Try.prog 24 [ay l] H nx fun r H' nx'=>∃ ks vs,r=.mp nx∧IncOk H' nx nx nx' (gc l l.length) ks vs∧(∀ x,x < nx→H' x=H x)∧nx < nx':=by
 refine Abs.Fn.of_c2 follows AU (bd rfl) ?_;simp only [b24,aK];refine dp ?_
 repeat' (first|refine zO ?_|refine vZ ?_|apply a_n)
 refine dp ?_
 repeat' (first|refine zO ?_|apply a_n)
 refine zF ?_;have zz:=@ak; repeat' (first|refine zW ?_|refine zO ?_|refine vY ?_|apply a_n)
 refine aU (X:=Nat × List Vtx × List AV) (fun x=>[(3,.mp nx),(9,ay l),(10,.int .i64 l.length),(11,.int .i64 x.1)]) (fun x H' nx'=>x.1 ≤ l.length∧IncOk H' nx nx nx' (gc l x.1) x.2.1 x.2.2∧(∀ y,y < nx→H' y=H y)∧nx < nx') (fun x=>l.length - x.1) (0,[],[]) ⟨cP _,⟨al,rfl,List.nodup_nil,fun v=>by simp [gc],fun j h=>absurd h (by simp),fun j B h=>absurd h (by simp),fun i j B h=>absurd h (by simp),by omega⟩,fun y hy=>au (by omega),by omega⟩ ag0 ?_;rintro ⟨i,ks,vs⟩ H1 nx1 ⟨h1,h2,h3,h4⟩;dsimp only at h1 h2 ⊢;by_cases hi:i < l.length
 rotate_left
 ·obtain rfl:i=l.length:=by omega
  repeat' (first|refine zW ?_|apply a_x|refine zO ?_|refine vY ?_|(refine zGY ?_ ?_ <;> (intro _hg; try (exfalso; omega)))|refine ai rfl ?_|refine r1Y ?_|apply a_n)
  exact ⟨ks,vs,rfl,h2,h3,h4⟩
 have ix:=eT hi;obtain ⟨hsa,hsl⟩:=hs _ (aX hi);have hstep:=fun j v hj=>vq (l:=l) (i:=i) (j:=j) (v:=v) hj hsa;have hend:=fun v=>ud (l:=l) (i:=i) (v:=v);have hlen:=fun j v=>wU (l:=l) (i:=i) (j:=j) (v:=v);have h20:IncOk H1 nx nx nx1 (j9 l i 0) ks vs:=by rw [show j9 l i 0=gc l i from funext fun v=>uN]; exact h2
 have hend':gc l (i + 1)=j9 l i (l.getD i default).length:=funext hend;clear h2;generalize l.getD i default=s at *;have zz:=aI @ix @ar; repeat' (first|refine zW ?_|refine zO ?_|refine vY ?_|(refine zGY ?_ ?_ <;> (intro _hg; try (exfalso; omega)))|apply a_n)
 refine aU (X:=Nat × List Vtx × List AV) (fun x=>[(3,.mp nx),(9,ay l),(10,.int .i64 l.length),(11,.int .i64 i),(4,.int .i64 i),(5,av s),(16,av s),(17,.int .i64 s.length),(18,.int .i64 x.1)]) (fun x H' nx'=>x.1 ≤ s.length∧IncOk H' nx nx nx' (j9 l i x.1) x.2.1 x.2.2∧(∀ y,y < nx→H' y=H y)∧nx < nx') (fun x=>s.length - x.1) (0,ks,vs) ⟨cP _,h20,h3,h4⟩ ag0 ?_;clear h20 h3 h4;rintro ⟨j,ks,vs⟩ H2 nx2 ⟨k1,k2,k3,k4⟩;dsimp only at k1 k2 ⊢;by_cases hj:j < s.length
 rotate_left
 ·obtain rfl:j=s.length:=by omega
  repeat' (first|refine zW ?_|apply a_x|refine zO ?_|refine vY ?_|(refine zGY ?_ ?_ <;> (intro _hg; try (exfalso; omega)))|apply a_n)
  exact ⟨(i + 1,ks,vs),by dsimp only; omega,⟨by dsimp only; omega,by dsimp only; rw [hend']; exact k2,k3,k4⟩,ag0⟩
 have iy:=ix2 hj;have hG:=fun v=>hstep j v hj;have hcl:=hlen j (s.getD j default);generalize s.getD j default=w at *;have zz:=@iy; repeat' (first|refine zW ?_|refine zO ?_|refine vY ?_|refine alY ?_|refine stY ?_|refine blY ?_|(refine zGY ?_ ?_ <;> (intro _hg; try (exfalso; omega)))|apply a_n)
 have g3:∀ x,x < nx2→aj (aj (aj H2 nx2 [.int .i64 0,.int .i64 0]) nx2 (bn [.int .i64 0,.int .i64 0] 0 [.int .i64 w.color,.int .i64 w.label])) (nx2 + 1) [.int .i64 i] x=H2 x:=fun x hx=>by rw [au (by omega),au (by omega),au (by omega)]
 have g4:aj (aj (aj H2 nx2 [.int .i64 0,.int .i64 0]) nx2 (bn [.int .i64 0,.int .i64 0] 0 [.int .i64 w.color,.int .i64 w.label])) (nx2 + 1) [.int .i64 i] (nx2 + 1)=some [.int .i64 i]:=al;generalize aj (aj (aj H2 nx2 [.int .i64 0,.int .i64 0]) nx2 (bn [.int .i64 0,.int .i64 0] 0 [.int .i64 w.color,.int .i64 w.label])) (nx2 + 1) [.int .i64 i]=H3 at *;have hmf:=pB w ks;have hkl:(ks.map bV).length=ks.length:=dt ..;by_cases hw:w ∈ ks
 ·rw [if_pos hw] at hmf;obtain ⟨m1,m2⟩:=mw hw;have hr:=k2.row (ks.idxOf w) m1;rw [m2] at hr;refine wJ ev0 ((g3 nx (by omega)).trans k2.box) ev0 (qW w) hmf ?_;have g5:∀ x,x < nx2→x ≠ nx→aj H3 nx [.omap (bX (bV w) (some (ks.idxOf w)) (ks.map bV)) (iC .esl (some (ks.idxOf w)) vs)] x=H2 x:=fun x hx hn=>by rw [au hn,g3 x hx]
  have g6:aj H3 nx [.omap (bX (bV w) (some (ks.idxOf w)) (ks.map bV)) (iC .esl (some (ks.idxOf w)) vs)] nx=some [.omap (ks.map bV) vs]:=al;have g7:aj H3 nx [.omap (bX (bV w) (some (ks.idxOf w)) (ks.map bV)) (iC .esl (some (ks.idxOf w)) vs)] (nx2 + 1)=some [.int .i64 i]:=by rw [au (by omega)]; exact g4
  generalize aj H3 nx [.omap (bX (bV w) (some (ks.idxOf w)) (ks.map bV)) (iC .esl (some (ks.idxOf w)) vs)]=H4 at *;rw [show si .esl (some (ks.idxOf w)) vs=vs.getD (ks.idxOf w) .undef from rfl,show qQ (some (ks.idxOf w)) (ks.map bV)=ks.idxOf w from rfl]
  repeat' (first|refine zO ?_|refine vY ?_|apply a_n)
  refine iq (k:=1) (new:=[.int .i64 i]) rfl ev0 (hr.same fun B hB=>?_) ev0 (ky (n:=1) (len:=1) (off:=0) g7 rfl (by omega)) rfl rfl Nat.one_pos (by rw [dt]; omega) (by rw [dt]; omega) ?_
  ·have:=k2.bnd _ B m1 hB;exact g5 B this.2.1 this.2.2
  rintro s2 H5 nx5 hr5 i1 i2 i3 i4
  repeat' (first|refine zO ?_|refine vY ?_|apply a_n)
  refine vN ev0 ((i3 nx (by omega) (fun h=>(k2.bnd _ nx m1 h).2.2 rfl)).trans g6) ev0 (by rw [hkl]; exact m1) ev0 ?_
  repeat' (first|refine zO ?_|refine vY ?_|apply a_n)
  refine ⟨(j + 1,ks,vs.set (ks.idxOf w) s2),by dsimp only; omega,⟨by dsimp only; omega,IncOk.put k2 hw hG ?_ (fun B hB=>?_) al (fun x hx hx2 hxn hxr=>?_) (by omega) (by omega),fun y hy=>?_,by omega⟩,ag0⟩
  ·rw [jF]
   exact hr5.same fun B hB=>au fun e=>by
    rcases i4 B hB with h | h
    ·exact (k2.bnd _ B m1 h).2.2 e
    ·omega
  ·rcases i4 B hB with h | h
   ·exact .inl h
   ·exact .inr (by omega)
  ·rw [au hxn,i3 x (by omega) hxr,g5 x hx2 hxn]
  ·rw [au (by omega),i3 y (by omega) (fun h=>by have:=k2.bnd _ y m1 h; omega),g5 y (by omega) (by omega)]; exact k3 y hy
 ·rw [if_neg hw] at hmf;refine wJ ev0 ((g3 nx (by omega)).trans k2.box) ev0 (qW w) hmf ?_;have g5:∀ x,x < nx2→x ≠ nx→aj H3 nx [.omap (bX (bV w) none (ks.map bV)) (iC .esl none vs)] x=H2 x:=fun x hx hn=>by rw [au hn,g3 x hx]
  have g6:aj H3 nx [.omap (bX (bV w) none (ks.map bV)) (iC .esl none vs)] nx=some [.omap (ks.map bV ++ [bV w]) (vs ++ [.esl])]:=al;have g7:aj H3 nx [.omap (bX (bV w) none (ks.map bV)) (iC .esl none vs)] (nx2 + 1)=some [.int .i64 i]:=by rw [au (by omega)]; exact g4
  generalize aj H3 nx [.omap (bX (bV w) none (ks.map bV)) (iC .esl none vs)]=H4 at *;rw [show si .esl none vs=.esl from rfl,show qQ none (ks.map bV)=ks.length from hkl]
  repeat' (first|refine zO ?_|refine vY ?_|apply a_n)
  refine iq (k:=1) (new:=[.int .i64 i]) (cs:=[]) rfl ev0 Row.nil ev0 (ky (n:=1) (len:=1) (off:=0) g7 rfl (by omega)) rfl rfl Nat.one_pos (by simp) (by simp) ?_;rintro s2 H5 nx5 hr5 i1 i2 i3 i4;have i4':∀ B,c7 s2=some B→B=nx2 + 1 + 1∧nx5=nx2 + 1 + 1 + 1:=fun B hB=>(i4 B hB).elim (fun h=>by cases h) id
  repeat' (first|refine zO ?_|refine vY ?_|apply a_n)
  refine vN (i:=ks.length) ev0 ((i3 nx (by omega) (fun h=>by cases h)).trans g6) ev0 (by rw [ea,hkl]; simp) ev0 ?_;have hset:(vs ++ [AV.esl]).set ks.length s2=vs ++ [s2]:=by rw [← k2.len]; simp
  rw [hset]
  repeat' (first|refine zO ?_|refine vY ?_|apply a_n)
  refine ⟨(j + 1,ks ++ [w],vs ++ [s2]),by dsimp only; omega,⟨by dsimp only; omega,IncOk.new k2 hw hG ?_ (fun B hB=>?_) (by rw [jF]; exact al) (fun x hx hx2 hxn=>?_) (by omega) (by omega),fun y hy=>?_,by omega⟩,ag0⟩
  ·exact hr5.same fun B hB=>au (by have:=i4' B hB; omega)
  ·have:=i4' B hB; omega
  ·rw [au hxn,i3 x (by omega) (fun h=>by cases h),g5 x hx2 hxn]
  ·rw [au (by omega),i3 y (by omega) (fun h=>by cases h),g5 y (by omega) (by omega)]; exact k3 y hy
def bl (l:List Spx) (s:Spx):Bool:=l.any fun t=>decide (s.length < t.length) && cw s t
def jI (c:List Spx) (k:Nat):Int:=if bL (c.getD k default) ≠ 0 then bL (c.getD k default) else if 0 < k∧0 ≤ bO (c.getD (k - 1) default) (c.getD k default) then 14 else 0
def aR (c:List Spx):Int:=if 4096 < c.length then 5 else if cQ (jI c) c.length ≠ 0 then cQ (jI c) c.length else if c.any (bl c)=true then 7 else 0
theorem dI {a b:Spx}:cw a b=true ↔ ∀ v ∈ a,v ∈ b:=by
 unfold cw; rw [eu];exact ⟨fun h v hv=>of_decide_eq_true (h v hv),fun h v hv=>bD (h v hv)⟩
theorem bB {l:List Spx} {s:Spx}:bl l s=true ↔ ∃ t ∈ l,s.length < t.length∧∀ v ∈ s,v ∈ t:=by
 unfold bl; rw [kB];constructor
 ·rintro ⟨t,ht,h⟩;rw [d8,decide_eq_true_iff,dI] at h;exact ⟨t,ht,h⟩
 ·rintro ⟨t,ht,h⟩;exact ⟨t,ht,by rw [d8,decide_eq_true_iff,dI]; exact h⟩
theorem sg {a b:Spx} (ha:cr bm a) (hb:cr bm b) (h:∀ v ∈ a,v ∈ b) (hne:a ≠ b):a.length < b.length:=by
 have h1:a.length ≤ b.length:=List.Nodup.length_le_of_subset (ha.nodup lG) h;rcases Nat.lt_or_ge a.length b.length with h2 | h2
 ·exact h2
 ·exfalso;refine hne (fK lG ha hb fun x=>⟨h x,fun hx=>Decidable.byContradiction fun hn=>?_⟩)
  have h3:(x :: a).length ≤ b.length:=List.Nodup.length_le_of_subset (List.nodup_cons.2 ⟨hn,ha.nodup lG⟩) fun y hy=>by
   rcases ij.1 hy with rfl | hy
   ·exact hx
   ·exact h y hy
  rw [dX] at h3;omega
theorem s5 {c:List Spx} (h:cQ (jI c) c.length=0):(∀ s ∈ c,bL s=0)∧cr bO c:=by
 have hz:=gL h
 have h3:∀ k,k < c.length→bL (c.getD k default)=0∧(0 < k→bO (c.getD (k - 1) default) (c.getD k default) < 0):=fun k hk=>by
  have:=hz k hk;unfold jI at this;split at this
  ·exact absurd this ‹_›
  rename_i g1;split at this
  ·exact absurd this (by decide)
  rename_i g2;exact ⟨oM g1,fun h0=>by omega⟩
 constructor
 ·intro s hs;obtain ⟨i,hi,rfl⟩:=lh hs;have:=(h3 i hi).1
  rwa [show c.getD i default=c[i] by simp [List.getD,hi]] at this
 ·have step:∀ j i,i < j→j < c.length→bO (c.getD i default) (c.getD j default) < 0:=by
    intro j
    induction j with
    | zero=>intro i h; omega
    | succ j ih =>
     intro i hi hj;have hs:=(h3 (j + 1) hj).2 (by omega);rw [iL] at hs;by_cases e:i=j
     ·subst e; exact hs
     ·exact oJ.trans (ih i (by omega) (by omega)) hs
  unfold cr;rw [List.pairwise_iff_getElem];intro i j hi hj hij;have:=step j i hij hj;simpa [List.getD,hi,hj] using this
theorem bc {c:List Spx} (h:aR c=0):c.length ≤ 4096∧(∀ s ∈ c,bL s=0)∧cr bO c∧∀ s ∈ c,bl c s=false:=by
 unfold aR at h;split at h
 ·exact absurd h (by decide)
 split at h
 ·exact absurd h ‹_›
 split at h
 ·exact absurd h (by decide)
 rename_i h1 h2 h3;have:=s5 (oM h2);refine ⟨by omega,this.1,this.2,fun s hs=>?_⟩;cases hc:bl c s
 ·rfl
 ·exact absurd (kB.2 ⟨s,hs,hc⟩) h3
theorem iS {c:List Spx} (h1:c.length ≤ 4096) (h2:∀ s ∈ c,bL s=0) (h3:cr bO c) (h4:∀ s ∈ c,bl c s=false):aR c=0:=by
 have hz:cQ (jI c) c.length=0:=dq fun k hk=>by
  unfold jI;rw [h2 _ (aX hk),if_neg (by simp),if_neg];rintro ⟨h0,h5⟩;have:=eL h3 (i:=k - 1) (j:=k) (by omega) hk;omega
 unfold aR;rw [if_neg (by omega),hz,if_neg (by simp),if_neg];rw [kB];rintro ⟨s,hs,h⟩;rw [h4 s hs] at h; cases h
theorem xG {l:List Spx} {s:Spx} {p:Spx→Bool} (h0:0 < s.length) (hp:∀ t,p t=true→s.getD 0 default ∈ t):((gc l l.length (s.getD 0 default)).map fun (n:Nat)=>(n:Int)).any (fun i=>p (l.getD i.toNat default))=l.any p:=by
 rw [Bool.eq_iff_iff,kB,kB];constructor
 ·rintro ⟨x,hx,h⟩;obtain ⟨n,hn,rfl⟩:=eE.1 hx;unfold gc at hn;obtain ⟨h1,_⟩:=fR.1 hn;rw [br] at h;exact ⟨_,aX (ml.1 h1),h⟩
 ·rintro ⟨t,ht,h⟩;obtain ⟨i,hi,rfl⟩:=lh ht;have e:l.getD i default=l[i]:=by simp [List.getD,hi]
  refine ⟨(i:Int),eE.2 ⟨i,fR.2 ⟨ml.2 hi,bD ?_⟩,rfl⟩,?_⟩
  ·rw [e]; exact hp _ h
  ·rw [br,e]; exact h
theorem uU (l:List Int) (p:Int→Bool) (g:Nat) (caps:List AV) (hd:∀ x ∈ caps,Dat x) (hg:∀ x ∈ l,Pure Try.prog g (.int .i64 x :: caps) (.bool (p x))) (hl:Shn l):Pure Try.prog 82 [dV l,.func g caps] (.int .i64 (if l.any p then (l.findIdx p:Nat) else -1)):=by
 refine Pure.of_c2 follows Aq (bd rfl) ?_;simp only [b82,aK];have hl':l.length ≤ 17592186044416:=hl
 repeat' (first|refine zW ?_|refine zO ?_|refine vZ ?_|apply a_n)
 refine aU (X:=Nat) (fun k=>[(0,dV l),(1,.func g caps),(6,dV l),(7,.int .i64 l.length),(8,.int .i64 k)]) (fun k H nx=>k ≤ l.length∧∀ i,i < k→p (l.getD i default)=false) (fun k=>l.length - k) 0 ⟨cP _,fun i h=>absurd h (by omega)⟩ ag0 ?_;rintro k H nx ⟨hk,hz⟩;by_cases hk2:k < l.length
 rotate_left
 ·rw [ji fun i hi=>hz i (by omega),if_neg (by decide)]
  repeat' (first|refine zW ?_|apply a_x|refine zO ?_|refine vY ?_|(refine zGY ?_ ?_ <;> (intro _hg; try (exfalso; omega)))|refine ai rfl ?_|refine r1Y ?_|apply a_n)
  exact de rfl
 have hc:=hg _ (aC hk2);cases hp:p (l.getD k default)
 ·rw [hp] at hc
  repeat' (first|refine zW ?_|refine zO ?_|refine vY ?_|(refine zGY ?_ ?_ <;> (intro _hg; try (exfalso; omega)))|apply a_n)
  refine dS ev0 ev0 hc (af (aB (.int _ _) (aw hd))) ?_
  repeat' (first|refine zO ?_|refine vY ?_|refine cFY ?_|apply a_n)
  exact ⟨k + 1,by omega,⟨by omega,fun i hi=>by
   rcases ig.1 hi with h | rfl
   ·exact hz i h
   ·exact hp⟩,ag0⟩
 ·rw [hp] at hc;obtain ⟨e1,e2⟩:=lK hk2 hz hp;rw [e1,e2,if_pos rfl]
  repeat' (first|refine zW ?_|refine zO ?_|refine vY ?_|(refine zGY ?_ ?_ <;> (intro _hg; try (exfalso; omega)))|apply a_n)
  refine dS ev0 ev0 hc (af (aB (.int _ _) (aw hd))) ?_
  repeat' (first|refine zW ?_|apply a_r|refine zO ?_|refine vY ?_|refine cTY ?_|refine ai rfl ?_|refine r1Y ?_|apply a_n)
  exact .int _ _
theorem qn (l:List Int) (p:Int→Bool) (g:Nat) (caps:List AV) (hd:∀ x ∈ caps,Dat x) (hg:∀ x ∈ l,Pure Try.prog g (.int .i64 x :: caps) (.bool (p x))) (hl:Shn l):Pure Try.prog 64 [dV l,.func g caps] (.bool (l.any p)):=by
 refine Pure.of_c2 follows zr (bd rfl) ?_;simp only [b64,aK];have h:=uU l p g caps hd hg hl
 repeat' (first|refine zW ?_|refine zO ?_|refine vZ ?_|refine cZ ?_ (hp:=h) (hs:=by (first | refine ac ?_ rfl | apply af); (repeat' (first | exact ae | apply am | apply ag | exact iU _ | exact Dat.func hd)); first | done | fail)|refine ai rfl ?_|refine r1Z ?_|apply a_n)
 cases hA:l.any p
 ·exact bZ (by simp)
 ·exact bZ (by simp)
def OkS (l:List Spx):Prop:=l.length ≤ 100000∧∀ s ∈ l,cr bm s∧s.length ≤ 1000
theorem sL (l:List Spx) (s:Spx) (i:Nat) (hl:OkS l) (hs:cr bm s∧s.length ≤ 1000) (hi:i < l.length):Pure Try.prog 65 [.int .i64 i,.iptr [ay l] 0,.iptr [av s] 0] (.bool (decide (s.length < (l.getD i default).length) && cw s (l.getD i default))):=by
 refine Pure.of_c2 follows zI (bd rfl) ?_;simp only [b65,aK];have ix:=eT hi;obtain ⟨t1,t2⟩:=hl.2 _ (aX hi);have hf:=wN s (l.getD i default) hs.1 t1 (by omega) (by omega);generalize l.getD i default=t at *;by_cases h:s.length < t.length
 ·have z:decide ((s.length:Int) < t.length)=true:=bD (by omega);rw [bD h,Bool.true_and];have zz:=aI @ar (aI @ix @z); repeat' (first|refine zW ?_|refine zM ?_|refine zO ?_|refine vZ ?_|refine cZ ?_ (hp:=hf) (hs:=by (first | refine ac ?_ rfl | apply af); (repeat' (first | exact ae | apply am | apply ag | exact aD _)); first | done | fail)|refine gTZ ?_|refine ai rfl ?_|refine r1Z ?_|apply a_n)
  exact .bool _
 ·have z:decide ((s.length:Int) < t.length)=false:=bw (by omega);rw [bw h,Bool.false_and];have zz:=aI @ar (aI @ix @z); repeat' (first|refine zW ?_|refine zM ?_|refine zO ?_|refine vZ ?_|refine gFZ ?_|refine ai rfl ?_|refine r1Z ?_|apply a_n)
  exact .bool _
theorem oZ (l:List Spx) (s:Spx) (hl:OkS l) (hs:cr bm s∧s.length ≤ 1000) (h0:0 < s.length):Pure Try.prog 44 [ay l,dV ((gc l l.length (s.getD 0 default)).map fun (n:Nat)=>(n:Int)),av s] (.bool (bl l s)):=by
 refine Pure.of_c2 follows zH (bd rfl) ?_;simp only [b44,aK];have hll:=hl.1
 have h:=qn ((gc l l.length (s.getD 0 default)).map fun (n:Nat)=>(n:Int)) (fun i=>decide (s.length < (l.getD i.toNat default).length) && cw s (l.getD i.toNat default)) 65 [.iptr [ay l] 0,.iptr [av s] 0] (DatL.cons (Dat.iptr (DatL.cons (bz _) DatL.nil)) (DatL.cons (Dat.iptr (DatL.cons (aD _) DatL.nil)) DatL.nil)) (fun x hx=>by
  obtain ⟨n,hn,rfl⟩:=eE.1 hx;have hn2:n < l.length:=ml.1 (fR.1 hn).1;rw [br];exact sL l s n hl hs hn2) (by rw [Shn,dt]; have:=qt (l:=l) (i:=l.length) (v:=s.getD 0 default); omega)
 rw [xG (p:=fun t=>decide (s.length < t.length) && cw s t) h0 (fun t ht=>by
  rw [d8,dI] at ht;exact ht.2 _ (aX h0))] at h
 have zz:=aI @aE (aI @ax (aI @bP @bv)); repeat' (first|refine zW ?_|refine zO ?_|refine vZ ?_|refine bxZ ?_|apply a_n)
 refine dS (have zz:=aI @aE (aI @ax (aI @bP @bv)); evZ) (have zz:=aI @aE (aI @ax (aI @bP @bv)); evZ) h (ac (aB (iU _ _) (aB (uS (aB (iI rfl rfl (aB (bz _ _) ae)) (aB (iI rfl rfl (aB (aD _ _) ae)) ae))) ae)) rfl) ?_
 repeat' (first|refine zO ?_|refine vZ ?_|refine ai rfl ?_|refine r1Z ?_|apply a_n)
 exact .bool _
theorem rq {H:Hp} {sv:AV} {F:List Nat} (h:Row H 1 sv (F.map uE)):Snap H sv (dV (F.map fun (n:Nat)=>(n:Int))):=by
 refine Row.snapI ?_;rw [List.map_map]; exact h
theorem n7 {c:List Spx} {k:Nat}:jI c k=if bL (c.getD k default) ≠ 0 then bL (c.getD k default) else if 0 < k∧0 ≤ bO (c.getD (k - 1) default) (c.getD k default) then 14 else 0:=rfl
theorem wy {c:List Spx} (h1:c.length ≤ 4096) (h:∀ s ∈ c,bL s=0):OkS c:=⟨by omega,fun s hs=>by
 obtain ⟨a1,a2,a3,a4⟩:=bQ (h s hs);exact ⟨a3,by omega⟩⟩
theorem qv {H:Hp} {b:Nat} {cs:List AV} (h:H b=some cs):Sub (only b cs) H:=fun x c hx=>by
 unfold only at hx;split at hx
 ·rename_i e; rw [e,h]; exact hx
 ·cases hx
def on2 (b1:Nat) (c1:List AV) (b2:Nat) (c2:List AV):Hp:=fun x=>if x=b1 then some c1 else if x=b2 then some c2 else none
theorem zQ {b1 b2:Nat} {c1 c2:List AV}:on2 b1 c1 b2 c2 b1=some c1:=if_pos rfl
theorem zX {b1 b2:Nat} {c1 c2:List AV} (h:b2 ≠ b1):on2 b1 c1 b2 c2 b2=some c2:=by unfold on2; rw [if_neg h,if_pos rfl]
theorem tA {b1 b2:Nat} {c1 c2:List AV} {H:Hp} (h1:H b1=some c1) (h2:H b2=some c2):Sub (on2 b1 c1 b2 c2) H:=fun x cs h=>by
 unfold on2 at h;split at h
 ·rename_i e; rw [e,h1]; exact h
 ·split at h
  ·rename_i e; rw [e,h2]; exact h
  ·cases h
theorem pH {P:Program} {T:Tm} {H:Hp} {nx:Nat} (b1 b2:Nat) {c1 c2:List AV} {K:CP} {m:Nat} {l:List Op2} {C:List (Nat × Nat)} (h1:H b1=some c1) (h2:H b2=some c2) (hne:b2 ≠ b1) (k:∀ S:Hp,S b1=some c1→S b2=some c2→(∀ H':Hp,H' b1=some c1→H' b2=some c2→Sub S H')→bg P S (C.map fun k=>(l.getD k.1 ⟨none,none,.dead⟩,k.2)) T H nx fun T H nx=>K .normal T H nx):aO P (.mixS m l C) T H nx K :=
 wa (on2 b1 c1 b2 c2) rfl (tA h1 h2) (k _ zQ (zX hne) fun _ a b=>tA a b)
theorem pV {P:Program} {T:Tm} {H:Hp} {nx:Nat} (b:Nat) {c:List AV} {K:CP} {m:Nat} {l:List Op2} {C:List (Nat × Nat)} (h:H b=some c) (k:∀ S:Hp,S b=some c→(∀ H':Hp,H' b=some c→Sub S H')→bg P S (C.map fun k=>(l.getD k.1 ⟨none,none,.dead⟩,k.2)) T H nx fun T H nx=>K .normal T H nx):aO P (.mixS m l C) T H nx K :=
 wa (only b c) rfl (qv h) (k _ f7 fun _ h=>qv h)
set_option maxHeartbeats 2000000 in
theorem n6 (c:List Spx) (hc:Shn c) (hs:∀ s ∈ c,Shn s):Pure Try.prog 30 [ca c] (.int .i64 (aR c)):=by
 refine Pure.of_c2 follows An (bd rfl) ?_;simp only [b30,aK];have hc':c.length ≤ 17592186044416:=hc;by_cases h0:4096 < c.length
 ·rw [show aR c=5 by unfold aR; rw [if_pos h0]];have zz:=aI @ak (aI @aE @ax); repeat' (first|refine zW ?_|apply a_r|refine zO ?_|refine vZ ?_|refine bxZ ?_|(refine zGZ ?_ ?_ <;> (intro _hg; try (exfalso; omega)))|refine ai rfl ?_|refine r1Z ?_|apply a_n)
  all_goals exact de rfl
 rw [show aR c=if cQ (jI c) c.length ≠ 0 then cQ (jI c) c.length else if c.any (bl c)=true then 7 else 0 by unfold aR; rw [if_neg h0]];refine dp ?_;have zz:=aI @ak (aI @aE @ax); repeat' (first|refine zO ?_|refine vZ ?_|refine bxZ ?_|apply a_n)
 refine dp (dp ?_);have zz:=aI @ak (aI @aE @ax); repeat' (first|refine zO ?_|refine vZ ?_|(refine zGZ ?_ ?_ <;> (intro _hg; try (exfalso; omega)))|apply a_n)
 by_cases hz:cQ (jI c) c.length ≠ 0
 ·rw [if_pos hz];have zz:=aI @ak (aI @aE @ax); repeat' (first|refine zW ?_|refine zO ?_|refine vZ ?_|apply a_n)
  refine aU (X:=Nat) (fun k=>[(1,.ptr 0 1 0),(14,ay c),(15,.int .i64 c.length),(16,.int .i64 k)]) (fun k H nx=>k ≤ c.length∧H 0=some [ay c]∧∀ i,i < k→jI c i=0) (fun k=>c.length - k) 0 ⟨cP _,rfl,fun i h=>absurd h (by omega)⟩ (by (iterate 4 refine And.intro rfl ?_); trivial) ?_;rintro k H nx ⟨h1,g0,h2⟩;by_cases hk:k < c.length
  rotate_left
  ·exact absurd (dq fun i hi=>h2 i (by omega)) hz
  have ix:=eT hk;have hs1:=hs _ (aX hk);have hp:=n8 (c.getD k default) hs1;have hsp:=n7 (c:=c) (k:=k);by_cases he:bL (c.getD k default) ≠ 0
  ·rw [if_pos he] at hsp;rw [dr hk h2 (by rw [hsp]; exact he),hsp];have z:decide (bL (c.getD k default) ≠ 0)=true:=bD he;have zz:=aI @ak (aI @ix @z); repeat' (first|refine zW ?_|apply a_r|refine zO ?_|refine vY ?_|refine cY ?_ (hp:=hp) (hs:=by (first | refine ac ?_ rfl | apply af); (repeat' (first | exact ae | apply am | apply ag | exact aD _)); first | done | fail)|refine cTY ?_|(refine zGY ?_ ?_ <;> (intro _hg; try (exfalso; omega)))|refine ai rfl ?_|refine r1Y ?_|apply a_n)
   exact .int _ _
  rw [if_neg he] at hsp;have he:=oM he;rw [he] at hp;have z:decide ((0:Int) ≠ 0)=false:=rfl;by_cases hk0:0 < k
  rotate_left
  ·rw [if_neg (fun h=>hk0 h.1)] at hsp;have zk:decide (0 < (k:Int))=false:=bw (by omega);have zz:=aI @ak (aI @ix (aI @z @zk)); repeat' (first|refine zW ?_|refine zO ?_|refine vY ?_|refine cY ?_ (hp:=hp) (hs:=by (first | refine ac ?_ rfl | apply af); (repeat' (first | exact ae | apply am | apply ag | exact aD _)); first | done | fail)|refine gFY ?_|refine cFY ?_|(refine zGY ?_ ?_ <;> (intro _hg; try (exfalso; omega)))|apply a_n)
   exact ⟨k + 1,by omega,⟨by omega,g0,fun i hi=>by
    rcases ig.1 hi with h' | rfl
    ·exact h2 i h'
    ·exact hsp⟩,ag0⟩
  have zk:decide (0 < (k:Int))=true:=bD (by omega)
  have iy:ff 1 (ay c) (.int .i64 ((k:Int) - 1))=some (.iptr [av (c.getD (k - 1) default)] 0):=by
   have:=eT (l:=c) (k:=k - 1) (by omega)
   rwa [show ((k - 1:Nat):Int)=(k:Int) - 1 by omega] at this
  have hcm:=je (c.getD (k - 1) default) (c.getD k default) (hs _ (aX (by omega))) hs1;by_cases hv:0 ≤ bO (c.getD (k - 1) default) (c.getD k default)
  ·have z2:decide (0 ≤ bO (c.getD (k - 1) default) (c.getD k default))=true:=bD hv;rw [if_pos ⟨hk0,hv⟩] at hsp;rw [dr hk h2 (by rw [hsp]; decide),hsp];have zz:=aI @ak (aI @ix (aI @iy (aI @z (aI @zk (aI @z2 @g0))))); repeat' (first|refine zW ?_|apply a_r|refine zO ?_|refine vY ?_|refine cY ?_ (hp:=by first | exact hp | exact hcm) (hs:=by (first | refine ac ?_ rfl | apply af); (repeat' (first | exact ae | apply am | apply ag | exact aD _)); first | done | fail)|refine gTY ?_|refine cTY ?_|refine cFY ?_|(refine zGY ?_ ?_ <;> (intro _hg; try (exfalso; omega)))|refine ai rfl ?_|refine r1Y ?_|apply a_n)
   exact .int _ _
  ·have z2:decide (0 ≤ bO (c.getD (k - 1) default) (c.getD k default))=false:=bw hv;rw [if_neg (fun h=>hv h.2)] at hsp;have zz:=aI @ak (aI @ix (aI @iy (aI @z (aI @zk (aI @z2 @g0))))); repeat' (first|refine zW ?_|refine zO ?_|refine vY ?_|refine cY ?_ (hp:=by first | exact hp | exact hcm) (hs:=by (first | refine ac ?_ rfl | apply af); (repeat' (first | exact ae | apply am | apply ag | exact aD _)); first | done | fail)|refine gTY ?_|refine cFY ?_|(refine zGY ?_ ?_ <;> (intro _hg; try (exfalso; omega)))|apply a_n)
   exact ⟨k + 1,by omega,⟨by omega,g0,fun i hi=>by
    rcases ig.1 hi with h' | rfl
    ·exact h2 i h'
    ·exact hsp⟩,ag0⟩
 have hz:=oM hz;rw [if_neg (fun h=>h hz)];obtain ⟨a1,a2⟩:=s5 hz;have hall:=gL hz;have hok:=wy (by omega) a1;refine aZ (fun T H nx=>T 1=.ptr 0 1 0∧H 0=some [ay c]∧1 ≤ nx) ?_ ?_
 ·have zz:=aI @ak (aI @aE @ax); repeat' (first|refine zW ?_|refine zO ?_|refine vZ ?_|apply a_n)
  refine aU (X:=Nat) (fun k=>[(1,.ptr 0 1 0),(14,ay c),(15,.int .i64 c.length),(16,.int .i64 k)]) (fun k H nx=>k ≤ c.length∧H 0=some [ay c]∧1 ≤ nx) (fun k=>c.length - k) 0 ⟨cP _,rfl,by omega⟩ (by (iterate 4 refine And.intro rfl ?_); trivial) ?_;rintro k H nx ⟨h1,g0,hnx⟩;by_cases hk:k < c.length
  rotate_left
  ·repeat' (first|refine zW ?_|apply a_x|refine zO ?_|refine vY ?_|(refine zGY ?_ ?_ <;> (intro _hg; try (exfalso; omega)))|apply a_n)
   exact ⟨rfl,g0,hnx⟩
  have ix:=eT hk;have hs1:=hs _ (aX hk);have hp:=n8 (c.getD k default) hs1;rw [a1 _ (aX hk)] at hp;have z:decide ((0:Int) ≠ 0)=false:=rfl;by_cases hk0:0 < k
  rotate_left
  ·have zk:decide (0 < (k:Int))=false:=bw (by omega);have zz:=aI @ak (aI @ix (aI @z @zk)); repeat' (first|refine zW ?_|refine zO ?_|refine vY ?_|refine cY ?_ (hp:=hp) (hs:=by (first | refine ac ?_ rfl | apply af); (repeat' (first | exact ae | apply am | apply ag | exact aD _)); first | done | fail)|refine gFY ?_|refine cFY ?_|(refine zGY ?_ ?_ <;> (intro _hg; try (exfalso; omega)))|apply a_n)
   exact ⟨k + 1,by omega,⟨by omega,g0,hnx⟩,ag0⟩
  have zk:decide (0 < (k:Int))=true:=bD (by omega)
  have iy:ff 1 (ay c) (.int .i64 ((k:Int) - 1))=some (.iptr [av (c.getD (k - 1) default)] 0):=by
   have:=eT (l:=c) (k:=k - 1) (by omega)
   rwa [show ((k - 1:Nat):Int)=(k:Int) - 1 by omega] at this
  have hcm:=je (c.getD (k - 1) default) (c.getD k default) (hs _ (aX (by omega))) hs1;have z2:decide (0 ≤ bO (c.getD (k - 1) default) (c.getD k default))=false:=bw (by have:=eL a2 (i:=k - 1) (j:=k) (by omega) hk; omega);have zz:=aI @ak (aI @ix (aI @iy (aI @z (aI @zk (aI @z2 @g0))))); repeat' (first|refine zW ?_|refine zO ?_|refine vY ?_|refine cY ?_ (hp:=by first | exact hp | exact hcm) (hs:=by (first | refine ac ?_ rfl | apply af); (repeat' (first | exact ae | apply am | apply ag | exact aD _)); first | done | fail)|refine gTY ?_|refine cFY ?_|(refine zGY ?_ ?_ <;> (intro _hg; try (exfalso; omega)))|apply a_n)
  exact ⟨k + 1,by omega,⟨by omega,g0,hnx⟩,ag0⟩
 rintro T H nx ⟨t1,g0,hnx⟩;have zz:=aI @t1 @g0; repeat' (first|refine zW ?_|refine zO ?_|refine vY ?_|apply a_n)
 refine aA ev0 (have zz:=@t1; evZ) (iY c hok.1 (fun s hs=>⟨(hok.2 s hs).1,by have:=(hok.2 s hs).2; omega⟩) _ _) ?_;rintro _ H1 nx1 ⟨ks,vs,rfl,hinc,hsame,hlt⟩;have g0':H1 0=some [ay c]:=(hsame 0 (by omega)).trans g0;have zz:=aI @t1 (aI @g0' @ak); repeat' (first|refine zW ?_|refine zO ?_|refine vY ?_|apply a_n)
 refine aU (X:=Nat) (fun k=>[(1,.ptr 0 1 0),(6,.mp nx),(44,ay c),(45,.int .i64 c.length),(46,.int .i64 k)]) (fun k H' nx'=>k ≤ c.length∧H'=H1∧nx'=nx1∧∀ i,i < k→bl c (c.getD i default)=false) (fun k=>c.length - k) 0 ⟨cP _,rfl,rfl,fun i h=>absurd h (by omega)⟩ (have zz:=@t1; agZ) ?_;rintro k H' nx' ⟨h1,rfl,rfl,h2⟩;by_cases hk:k < c.length
 rotate_left
 ·rw [ji fun i hi=>h2 i (by omega),if_neg (by decide)]
  repeat' (first|refine zW ?_|apply a_x|refine zO ?_|refine vY ?_|(refine zGY ?_ ?_ <;> (intro _hg; try (exfalso; omega)))|refine ai rfl ?_|refine r1Y ?_|apply a_n)
  exact .int _ _
 have ix:=eT hk;obtain ⟨p1,p2,p3,p4⟩:=bQ (a1 _ (aX hk));have hcv:=oZ c (c.getD k default) hok (hok.2 _ (aX hk)) (by omega);have iy:=ix2 (l:=c.getD k default) (k:=0) (by omega);rw [show ((0:Nat):Int)=0 from rfl] at iy
 have hks:(c.getD k default).getD 0 default ∈ ks:=(hinc.dom _).2 fun e=>by
  have:k ∈ gc c c.length ((c.getD k default).getD 0 default):=fR.2 ⟨ml.2 hk,bD (aX (by omega))⟩;rw [e] at this; cases this
 have hmf:=pB ((c.getD k default).getD 0 default) ks;rw [if_pos hks] at hmf;obtain ⟨m1,m2⟩:=mw hks;have hr:=hinc.row _ m1;rw [m2] at hr;have hcb:bl c (c.getD k default)=true→c.any (bl c)=true:=fun h=>kB.2 ⟨_,aX hk,h⟩;generalize hsk:c.getD k default=s at *;have zz:=@ix; repeat' (first|refine zW ?_|refine zO ?_|refine vY ?_|(refine zGY ?_ ?_ <;> (intro _hg; try (exfalso; omega)))|apply a_n)
 refine pV 0 g0' fun S hS0 hsub'=>?_;have hsub:=hsub' H' g0';have zz:=aI @hS0 @iy; repeat' (first|refine zO ?_|refine nvY ?_|apply a_n)
 refine nq ?_;refine su ev0 hinc.box ev0 (qW _) hmf ?_;refine ru ⟨hsub,?_⟩;rw [show mget .esl false (some (ks.idxOf (s.getD 0 default))) vs=vs.getD (ks.idxOf (s.getD 0 default)) .undef from rfl];refine jq ?_;cases hb:bl c s
 ·rw [hb] at hcv;refine dS ev0 ev0 hcv (ac (aB (bz _ _) (aB (rq hr) (aB (aD _ _) ae))) rfl) ?_
  repeat' (first|refine zO ?_|refine vY ?_|refine cFY ?_|apply a_n)
  exact ⟨k + 1,by omega,⟨by omega,rfl,rfl,fun i hi=>by
   rcases ig.1 hi with h' | rfl
   ·exact h2 i h'
   ·rw [hsk]; exact hb⟩,ag0⟩
 ·rw [hb] at hcv;rw [hcb hb,if_pos rfl];refine dS ev0 ev0 hcv (ac (aB (bz _ _) (aB (rq hr) (aB (aD _ _) ae))) rfl) ?_
  repeat' (first|refine zW ?_|apply a_r|refine zO ?_|refine vY ?_|refine cTY ?_|refine ai rfl ?_|refine r1Y ?_|apply a_n)
  exact .int _ _
theorem vn {c:List Spx} (h1:∀ s ∈ c,cr bm s) (h2:cr bO c) {i k:Nat} (hi:i < c.length) (hk:k < c.length) (hik:i ≠ k) (h:cw (c.getD i default) (c.getD k default)=true):bl c (c.getD i default)=true:=by
 refine bB.2 ⟨_,aX hk,sg (h1 _ (aX hi)) (h1 _ (aX hk)) (dI.1 h) fun e=>?_,dI.1 h⟩;rcases Nat.lt_trichotomy i k with q | q | q
 ·have:=eL h2 q hk; rw [e] at this; exact oJ.ord.irr _ this
 ·exact hik q
 ·have:=eL h2 q hi; rw [e] at this; exact oJ.ord.irr _ this
theorem wG {c:List Spx} {i:Nat} (h:bl c (c.getD i default)=true):∃ k,k < c.length∧i ≠ k∧cw (c.getD i default) (c.getD k default)=true:=by
 obtain ⟨t,ht,h1,h2⟩:=bB.1 h;obtain ⟨k,hk,rfl⟩:=lh ht;have e:c.getD k default=c[k]:=by simp [List.getD,hk]
 refine ⟨k,hk,fun hik=>?_,by rw [e]; exact dI.2 h2⟩;subst hik;rw [e] at h1; omega
set_option maxHeartbeats 2000000 in
theorem xw (c:List Spx) (hc:Shn c) (hs:∀ s ∈ c,Shn s):Pure Try.prog 15 [ca c] (.int .i64 (aR c)):=by
 refine Pure.of_c2 follows Bf (bd rfl) ?_;simp only [b15,aK];have hc':c.length ≤ 17592186044416:=hc;by_cases h0:4096 < c.length
 ·rw [show aR c=5 by unfold aR; rw [if_pos h0]];have zz:=aI @ak (aI @aE @ax); repeat' (first|refine zW ?_|apply a_r|refine zO ?_|refine vZ ?_|refine bxZ ?_|(refine zGZ ?_ ?_ <;> (intro _hg; try (exfalso; omega)))|refine ai rfl ?_|refine r1Z ?_|apply a_n)
  all_goals exact de rfl
 rw [show aR c=if cQ (jI c) c.length ≠ 0 then cQ (jI c) c.length else if c.any (bl c)=true then 7 else 0 by unfold aR; rw [if_neg h0]];refine dp ?_;have zz:=aI @ak (aI @aE @ax); repeat' (first|refine zO ?_|refine vZ ?_|refine bxZ ?_|apply a_n)
 refine dp ?_;have zz:=aI @ak (aI @aE @ax); repeat' (first|refine zO ?_|refine vZ ?_|apply a_n)
 refine dp (dp ?_);have zz:=aI @ak (aI @aE @ax); repeat' (first|refine zO ?_|refine vZ ?_|(refine zGZ ?_ ?_ <;> (intro _hg; try (exfalso; omega)))|apply a_n)
 by_cases hz:cQ (jI c) c.length ≠ 0
 ·rw [if_pos hz];have zz:=aI @ak (aI @aE @ax); repeat' (first|refine zW ?_|refine zO ?_|refine vZ ?_|apply a_n)
  refine aU (X:=Nat) (fun k=>[(3,ay c),(4,.int .i64 k)]) (fun k H nx=>k ≤ c.length∧∀ i,i < k→jI c i=0) (fun k=>c.length - k) 0 ⟨cP _,fun i h=>absurd h (by omega)⟩ ag0 ?_;rintro k H nx ⟨h1,h2⟩;by_cases hk:k < c.length
  rotate_left
  ·exact absurd (dq fun i hi=>h2 i (by omega)) hz
  have ix:=eT hk;have hs1:=hs _ (aX hk);have hp:=tn (c.getD k default) hs1;have hsp:=n7 (c:=c) (k:=k);by_cases he:bL (c.getD k default) ≠ 0
  ·rw [if_pos he] at hsp;rw [dr hk h2 (by rw [hsp]; exact he),hsp];have z:decide (bL (c.getD k default) ≠ 0)=true:=bD he;have zz:=aI @ak (aI @ix @z); repeat' (first|refine zW ?_|apply a_r|refine zO ?_|refine vY ?_|refine cY ?_ (hp:=hp) (hs:=by (first | refine ac ?_ rfl | apply af); (repeat' (first | exact ae | apply am | apply ag | exact aD _)); first | done | fail)|refine cTY ?_|(refine zGY ?_ ?_ <;> (intro _hg; try (exfalso; omega)))|refine ai rfl ?_|refine r1Y ?_|apply a_n)
   exact .int _ _
  rw [if_neg he] at hsp;have he:=oM he;rw [he] at hp;have z:decide ((0:Int) ≠ 0)=false:=rfl;by_cases hk0:0 < k
  rotate_left
  ·rw [if_neg (fun h=>hk0 h.1)] at hsp;have zk:decide (0 < (k:Int))=false:=bw (by omega);have zz:=aI @ak (aI @ix (aI @z @zk)); repeat' (first|refine zW ?_|refine zM ?_|refine zO ?_|refine vY ?_|refine cY ?_ (hp:=hp) (hs:=by (first | refine ac ?_ rfl | apply af); (repeat' (first | exact ae | apply am | apply ag | exact aD _)); first | done | fail)|refine gFY ?_|refine cFY ?_|(refine zGY ?_ ?_ <;> (intro _hg; try (exfalso; omega)))|apply a_n)
   exact ⟨k + 1,by omega,⟨by omega,fun i hi=>by
    rcases ig.1 hi with h' | rfl
    ·exact h2 i h'
    ·exact hsp⟩,ag0⟩
  have zk:decide (0 < (k:Int))=true:=bD (by omega)
  have iy:ff 1 (ay c) (.int .i64 ((k:Int) - 1))=some (.iptr [av (c.getD (k - 1) default)] 0):=by
   have:=eT (l:=c) (k:=k - 1) (by omega)
   rwa [show ((k - 1:Nat):Int)=(k:Int) - 1 by omega] at this
  have hcm:=jQ (c.getD (k - 1) default) (c.getD k default) (hs _ (aX (by omega))) hs1;by_cases hv:0 ≤ bO (c.getD (k - 1) default) (c.getD k default)
  ·have z2:decide (0 ≤ bO (c.getD (k - 1) default) (c.getD k default))=true:=bD hv;rw [if_pos ⟨hk0,hv⟩] at hsp;rw [dr hk h2 (by rw [hsp]; decide),hsp];have zz:=aI @ak (aI @ix (aI @iy (aI @z (aI @zk @z2)))); repeat' (first|refine zW ?_|refine zM ?_|apply a_r|refine zO ?_|refine vY ?_|refine cY ?_ (hp:=by first | exact hp | exact hcm) (hs:=by (first | refine ac ?_ rfl | apply af); (repeat' (first | exact ae | apply am | apply ag | exact aD _)); first | done | fail)|refine gTY ?_|refine cTY ?_|refine cFY ?_|(refine zGY ?_ ?_ <;> (intro _hg; try (exfalso; omega)))|refine ai rfl ?_|refine r1Y ?_|apply a_n)
   exact .int _ _
  ·have z2:decide (0 ≤ bO (c.getD (k - 1) default) (c.getD k default))=false:=bw hv;rw [if_neg (fun h=>hv h.2)] at hsp;have zz:=aI @ak (aI @ix (aI @iy (aI @z (aI @zk @z2)))); repeat' (first|refine zW ?_|refine zM ?_|refine zO ?_|refine vY ?_|refine cY ?_ (hp:=by first | exact hp | exact hcm) (hs:=by (first | refine ac ?_ rfl | apply af); (repeat' (first | exact ae | apply am | apply ag | exact aD _)); first | done | fail)|refine gTY ?_|refine cFY ?_|(refine zGY ?_ ?_ <;> (intro _hg; try (exfalso; omega)))|apply a_n)
   exact ⟨k + 1,by omega,⟨by omega,fun i hi=>by
    rcases ig.1 hi with h' | rfl
    ·exact h2 i h'
    ·exact hsp⟩,ag0⟩
 have hz:=oM hz;rw [if_neg (fun h=>h hz)];obtain ⟨a1,a2⟩:=s5 hz;have hok:=wy (by omega) a1;refine aZ (fun T H nx=>T 3=ay c) ?_ ?_
 ·have zz:=aI @ak (aI @aE @ax); repeat' (first|refine zW ?_|refine zO ?_|refine vZ ?_|apply a_n)
  refine aU (X:=Nat) (fun k=>[(3,ay c),(4,.int .i64 k)]) (fun k H nx=>k ≤ c.length) (fun k=>c.length - k) 0 (cP _) ag0 ?_;rintro k H nx h1;by_cases hk:k < c.length
  rotate_left
  ·have zz:=@ak; repeat' (first|refine zW ?_|apply a_x|refine zO ?_|refine vY ?_|(refine zGY ?_ ?_ <;> (intro _hg; try (exfalso; omega)))|apply a_n)
   exact rfl
  have ix:=eT hk;have hs1:=hs _ (aX hk);have hp:=tn (c.getD k default) hs1;rw [a1 _ (aX hk)] at hp;have z:decide ((0:Int) ≠ 0)=false:=rfl;by_cases hk0:0 < k
  rotate_left
  ·have zk:decide (0 < (k:Int))=false:=bw (by omega);have zz:=aI @ak (aI @ix (aI @z @zk)); repeat' (first|refine zW ?_|refine zM ?_|refine zO ?_|refine vY ?_|refine cY ?_ (hp:=hp) (hs:=by (first | refine ac ?_ rfl | apply af); (repeat' (first | exact ae | apply am | apply ag | exact aD _)); first | done | fail)|refine gFY ?_|refine cFY ?_|(refine zGY ?_ ?_ <;> (intro _hg; try (exfalso; omega)))|apply a_n)
   exact ⟨k + 1,by omega,by omega,ag0⟩
  have zk:decide (0 < (k:Int))=true:=bD (by omega)
  have iy:ff 1 (ay c) (.int .i64 ((k:Int) - 1))=some (.iptr [av (c.getD (k - 1) default)] 0):=by
   have:=eT (l:=c) (k:=k - 1) (by omega)
   rwa [show ((k - 1:Nat):Int)=(k:Int) - 1 by omega] at this
  have hcm:=jQ (c.getD (k - 1) default) (c.getD k default) (hs _ (aX (by omega))) hs1;have z2:decide (0 ≤ bO (c.getD (k - 1) default) (c.getD k default))=false:=bw (by have:=eL a2 (i:=k - 1) (j:=k) (by omega) hk; omega);have zz:=aI @ak (aI @ix (aI @iy (aI @z (aI @zk @z2)))); repeat' (first|refine zW ?_|refine zM ?_|refine zO ?_|refine vY ?_|refine cY ?_ (hp:=by first | exact hp | exact hcm) (hs:=by (first | refine ac ?_ rfl | apply af); (repeat' (first | exact ae | apply am | apply ag | exact aD _)); first | done | fail)|refine gTY ?_|refine cFY ?_|(refine zGY ?_ ?_ <;> (intro _hg; try (exfalso; omega)))|apply a_n)
  exact ⟨k + 1,by omega,by omega,ag0⟩
 rintro T H nx t3;have zz:=@t3; repeat' (first|refine zW ?_|refine zO ?_|refine vY ?_|apply a_n)
 refine aU (X:=Nat) (fun k=>[(3,ay c),(6,.int .i64 k)]) (fun k H' nx'=>k ≤ c.length∧∀ i,i < k→bl c (c.getD i default)=false) (fun k=>c.length - k) 0 ⟨cP _,fun i h=>absurd h (by omega)⟩ (have zz:=@t3; agZ) ?_;clear t3;rintro i H1 nx1 ⟨h1,h2⟩;by_cases hi:i < c.length
 rotate_left
 ·rw [ji fun i hi=>h2 i (by omega),if_neg (by decide)];have zz:=@ak; repeat' (first|refine zW ?_|apply a_x|refine zO ?_|refine vY ?_|(refine zGY ?_ ?_ <;> (intro _hg; try (exfalso; omega)))|refine ai rfl ?_|refine r1Y ?_|apply a_n)
  exact .int _ _
 have zz:=@ak; repeat' (first|refine zW ?_|refine zO ?_|refine vY ?_|(refine zGY ?_ ?_ <;> (intro _hg; try (exfalso; omega)))|apply a_n)
 refine aU (X:=Nat) (fun k=>[(3,ay c),(6,.int .i64 i),(7,.int .i64 k)]) (fun k H' nx'=>k ≤ c.length∧∀ j,j < k→i ≠ j→cw (c.getD i default) (c.getD j default)=false) (fun k=>c.length - k) 0 ⟨cP _,fun i h=>absurd h (by omega)⟩ ag0 ?_;rintro k H2 nx2 ⟨k1,k2⟩;by_cases hk:k < c.length
 rotate_left
 ·have zz:=@ak; repeat' (first|refine zW ?_|apply a_x|refine zO ?_|refine vY ?_|(refine zGY ?_ ?_ <;> (intro _hg; try (exfalso; omega)))|apply a_n)
  refine ⟨i + 1,by omega,⟨by omega,fun j hj=>?_⟩,ag0⟩;rcases ig.1 hj with h' | rfl
  ·exact h2 j h'
  ·cases hb:bl c (c.getD j default)
   ·rfl
   ·obtain ⟨q,q1,q2,q3⟩:=wG hb;rw [k2 q (by omega) q2] at q3; cases q3
 have ix:=eT hi;have iy:=eT hk;by_cases hik:i=k
 ·have z:decide ((i:Int) ≠ (k:Int))=false:=bw (by omega);have zz:=aI @ak @z; repeat' (first|refine zW ?_|refine zM ?_|refine zO ?_|refine vY ?_|refine gFY ?_|refine cFY ?_|(refine zGY ?_ ?_ <;> (intro _hg; try (exfalso; omega)))|apply a_n)
  exact ⟨k + 1,by omega,⟨by omega,fun j hj hij=>k2 j (by omega) hij⟩,ag0⟩
 have z:decide ((i:Int) ≠ (k:Int))=true:=bD (by omega);have hin:=vC (c.getD i default) (c.getD k default) (hs _ (aX hi)) (hs _ (aX hk));have ht:=vn (fun s hs=>(hok.2 s hs).1) a2 hi hk hik;cases hb:cw (c.getD i default) (c.getD k default)
 ·rw [hb] at hin;have zz:=aI @ak (aI @ix (aI @iy @z)); repeat' (first|refine zW ?_|refine zM ?_|refine zO ?_|refine vY ?_|refine cY ?_ (hp:=hin) (hs:=by (first | refine ac ?_ rfl | apply af); (repeat' (first | exact ae | apply am | apply ag | exact aD _)); first | done | fail)|refine gTY ?_|refine cFY ?_|(refine zGY ?_ ?_ <;> (intro _hg; try (exfalso; omega)))|apply a_n)
  exact ⟨k + 1,by omega,⟨by omega,fun j hj hij=>by
   rcases ig.1 hj with h' | rfl
   ·exact k2 j h' hij
   ·exact hb⟩,ag0⟩
 ·rw [hb] at hin;rw [if_pos (kB.2 ⟨_,aX hi,ht hb⟩)];have zz:=aI @ak (aI @ix (aI @iy @z)); repeat' (first|refine zW ?_|refine zM ?_|apply a_r|refine zO ?_|refine vY ?_|refine cY ?_ (hp:=hin) (hs:=by (first | refine ac ?_ rfl | apply af); (repeat' (first | exact ae | apply am | apply ag | exact aD _)); first | done | fail)|refine gTY ?_|refine cTY ?_|(refine zGY ?_ ?_ <;> (intro _hg; try (exfalso; omega)))|refine ai rfl ?_|refine r1Y ?_|apply a_n)
  exact .int _ _
structure MapV where
 fr:Spx
 to:Spx
 deriving Inhabited,DecidableEq
abbrev Ax (m:MapV):AV:=.agg [av m.fr,av m.to]
theorem wh (m:MapV):Dat (Ax m):=Dat.agg (DatL.cons (aD _) (DatL.cons (aD _) DatL.nil))
instance datI_encM {m:MapV}:DatI (Ax m):=⟨wh m⟩
end Go.Proofs.Ytpfkjcjgdilkkaa
namespace Go.Proofs.Ytpfkjcjgdilkkaa
open Go Go.Abs
open Nat (reduceEqDiff reduceAdd reduceLeDiff)
theorem sC {H:Hp} {B n len:Nat} {C:List AV} {l:Spx} (hB:H B=some C) (hn:C.length=n) (hf:len * 2 ≤ n) (hl:l.length=len) (ht:C.take (len * 2)=cX l):Snap H (.msl B n 2 0 len) (av l):=by
 refine .msl B n 2 0 len C (l.map bV) hB hn (by omega) (by simp [hl]) (fun y hy=>?_) (fun i j y a c hy hc ha=>?_)
 ·obtain ⟨v,_,rfl⟩:=eE.1 hy; rfl
 ·have hi:i < l.length:=by
    have:=(bj.1 hy).1;simpa using this
  have hy':y=bV (l.getD i default):=by
   rw [jH,oF hi] at hy;simp at hy;rw [← hy]; simp [List.getD,hi]
  subst hy';have hj:j < 2:=(bj.1 hc).1
  have h1:C[0 + i * 2 + j]?=(cX l)[i * 2 + j]?:=by
   rw [← ht,eX,if_pos (by omega)]; congr 1; omega
  have h2:(cX l)[i * 2 + j]?=(((cX l).drop (i * 2)).take 2)[j]?:=by
   rw [eX,if_pos hj,ga]
  rw [h1,h2,rdX hi] at ha;have:[AV.int .i64 (l.getD i default).color,AV.int .i64 (l.getD i default).label][j]?=some c:=hc;rw [this] at ha;cases ha
  match j,hj with
  | 0,_=>cases this; exact .int _ _
  | 1,_=>cases this; exact .int _ _
attribute [local irreducible] aO aq bI bM bk bx aM bA bR cz Go.Abs.Fn bK Go.Abs.Pure aQ a7 Yl
end Go.Proofs.Ytpfkjcjgdilkkaa
namespace Go.Proofs.Ytpfkjcjgdilkkaa
open Go Go.Abs
attribute [local irreducible] aO aq bI bM bk bx aM bA bR cz Go.Abs.Fn bK Go.Abs.Pure aQ a7 Yl
theorem ul {v w:Vtx} {l m:Spx}:bO (v :: l) (w :: m)=if bm v w ≠ 0 then bm v w else bO l m:=rfl
end Go.Proofs.Ytpfkjcjgdilkkaa
namespace Go.Proofs.Ytpfkjcjgdilkkaa
open Go Go.Abs
open Nat (reduceEqDiff reduceAdd reduceLeDiff)
attribute [local irreducible] aO aq bI bM bk bx aM bA bR cz Go.Abs.Fn bK Go.Abs.Pure aQ a7 Yl
end Go.Proofs.Ytpfkjcjgdilkkaa
namespace Go.Proofs.Ytpfkjcjgdilkkaa
open Go Go.Abs
attribute [local irreducible] aO aq bI bM bk bx aM bA bR cz Go.Abs.Fn bK Go.Abs.Pure aQ a7 Yl
def fo (l:List Spx):List Spx:=(dh bO l).filter fun s=>!bl (dh bO l) s
theorem gF {l:List Spx} {s:Spx}:s ∈ fo l ↔ s ∈ l∧bl l s=false:=by
 unfold fo;rw [fR,fc];refine and_congr_right fun _=>?_;cases h:bl l s
 ·refine ⟨fun _=>rfl,fun _=>?_⟩;cases h2:bl (dh bO l) s
  ·rfl
  ·obtain ⟨t,t1,t2⟩:=bB.1 h2;rw [bB.2 ⟨t,fc.1 t1,t2⟩] at h; cases h
 ·refine ⟨fun h2=>?_,fun h2=>by cases h2⟩;obtain ⟨t,t1,t2⟩:=bB.1 h;rw [bB.2 ⟨t,fc.2 t1,t2⟩] at h2; cases h2
theorem jY {l:List Spx}:cr bO (fo l):=(iw oJ l).sublist List.filter_sublist
theorem qX {l:List Spx} {s:Spx} (h:s ∈ fo l):s ∈ l:=(gF.1 h).1
theorem xb {l:List Spx}:(fo l).length ≤ l.length:=dQ (List.length_filter_le _ _) kc
theorem qf {l:List Spx} (h1:l.length ≤ 4096) (h2:∀ s ∈ l,bL s=0):aR (fo l)=0:=by
 refine iS (dQ xb h1) (fun s hs=>h2 s (qX hs)) jY fun s hs=>?_;cases h:bl (fo l) s
 ·rfl
 ·obtain ⟨t,t1,t2⟩:=bB.1 h;have:=(gF.1 hs).2;rw [bB.2 ⟨t,qX t1,t2⟩] at this; cases this
theorem o8 {c:List Spx} (h:aR c=0):fo c=c:=by
 obtain ⟨h1,h2,h3,h4⟩:=bc h;refine fK oJ jY h3 fun s=>?_;rw [gF];exact ⟨fun h=>h.1,fun h=>⟨h,h4 s h⟩⟩
theorem rM {l m:List Spx} (h:∀ s,s ∈ l ↔ s ∈ m):fo l=fo m:=by
 refine fK oJ jY jY fun s=>?_;rw [gF,gF,h];refine and_congr_right fun _=>?_;rw [← Bool.not_eq_true,← Bool.not_eq_true];refine not_congr ?_;rw [bB,bB];exact ⟨fun ⟨t,t1,t2⟩=>⟨t,(h t).1 t1,t2⟩,fun ⟨t,t1,t2⟩=>⟨t,(h t).2 t1,t2⟩⟩
theorem lB {H:Hp} {s:AV} {l:List Spx} {e f:Int} (h:Snap H s (ay l)) (he:e=f):Snap H (.tup [.agg [s],.int .i64 e]) (.tup [ca l,.int .i64 f]):=by
 subst he; exact kw (aB (oo (aB h ae)) (aB (.int _ _) ae))
end Go.Proofs.Ytpfkjcjgdilkkaa
namespace Go.Proofs.Ytpfkjcjgdilkkaa
open Go Go.Abs
open Nat (reduceEqDiff reduceAdd reduceLeDiff)
theorem uM {L:List Spx} {h:Nat} {x:Spx} (hh:h < L.length):(L.set h x).take (h + 1)=L.take h ++ [x]:=by
 rw [cH (by simpa using hh),List.take_set_of_le (aJ h)];simp [List.getD,hh]
theorem mE {B n len k:Nat} (h:k < len) (hn:n ≠ 0):jD 1 (.msl B n 1 0 len) (some (.int .i64 k)) none none=some (.msl B n 1 k (len - k)):=by
 simp only [jD,bi,Int.natCast_nonneg,if_true,br];rw [if_pos ⟨trivial,by omega,aJ _,hn⟩,if_pos (.inr h),bU,Nat.mul_one]
theorem sK {B n len k:Nat} (h:k ≤ len) (hn:n ≠ 0):jD 1 (.msl B n 1 0 len) none (some (.int .i64 k)) none=some (.msl B n 1 0 k):=by
 simp only [jD,bi,Int.natCast_nonneg,if_true,br];rw [if_pos ⟨trivial,by omega,h,hn⟩,if_pos (.inl trivial),Nat.zero_mul,Nat.sub_zero]
attribute [local irreducible] aO aq bI bM bk bx aM bA bR cz Go.Abs.Fn bK Go.Abs.Pure aQ a7 Yl
theorem re (l:List Spx) (hl:Shn l) (hls:∀ s ∈ l,Shn s) (h0:l ≠ []) (H:Hp) (B nx:Nat) (hH:H B=some (l.map av)) (hB:B < nx) :
    Abs.Fn Try.prog 43 [.msl B l.length 1 0 l.length,.func 12 []] H nx fun r H' nx'=>r=.msl B l.length 1 0 (bC l l.length)∧(∃ C,H'=aj H B C∧C.length=l.length∧C.take (bC l l.length)=(dy l l.length).map av)∧nx'=nx:=by
 refine Abs.Fn.of_c2 follows yz (bd rfl) ?_;simp only [b43,aK];have hl':l.length ≤ 17592186044416:=hl;have hpos:=List.length_pos_iff.2 h0;have hid:H=aj H B (l.map av):=dZ hH
 repeat' (first|refine zW ?_|apply a_r|refine zO ?_|refine vZ ?_|(refine zGZ ?_ ?_ <;> (intro _hg; try (exfalso; omega)))|refine ai rfl ?_|refine r1Z ?_|apply a_n)
 ·have e1:l.length=1:=by omega
  have e2:dy l l.length=l:=by
   match l,e1 with
   | [a],_=>rfl
  refine ⟨?_,⟨_,hid,by simp,?_⟩,rfl⟩
  ·rw [show bC l l.length=l.length by rw [e1]; rfl]
  ·rw [e2,show bC l l.length=l.length by rw [e1]; rfl,iJ (by simp)]
 refine aU (X:=Nat) (fun k=>[(0,.msl B l.length 1 0 l.length),(1,.func 12 []),(5,.int .i64 k)]) (fun k H' nx'=>H'=H∧nx'=nx∧1 ≤ k∧k ≤ l.length∧bC l k=k∧dy l k=l.take k) (fun k=>l.length - k) 1 ⟨rfl,rfl,aJ _,hpos,rfl,by match l,h0 with | a :: r,_=>rfl⟩ ag0 ?_;rintro k H' nx' ⟨rfl,rfl,k1,k2,k3,k4⟩;by_cases hk:k < l.length
 ·have tk:(k:Int) - 1=(k - 1:Nat):=by omega
  have heq:=rA (l.getD k default) (l.getD (k - 1) default) (hls _ (aX hk)) (hls _ (aX (by omega)));by_cases he:l.getD k default=l.getD (k - 1) default
  ·have hs:=mE (B:=B) (n:=l.length) hk (Nat.ne_of_gt hpos);rw [bD he] at heq;have zz:=aI @tk (aI @hH (aI @br (aI @hs (aI @bP @bv)))); repeat' (first|refine zW ?_|refine zM ?_|refine zO ?_|refine vZ ?_|refine cZ ?_ (hp:=heq) (hs:=by (first | refine ac ?_ rfl | apply af); (repeat' (first | exact ae | apply am | apply ag | exact aD _)); first | done | fail)|refine cTZ ?_|(refine zGZ ?_ ?_ <;> (intro _hg; try (exfalso; omega)))|apply a_n)
   refine aU (X:=Nat × List Spx) (fun x=>[(0,.msl B l.length 1 0 l.length),(1,.func 12 []),(5,.int .i64 (bC l (k + x.1):Nat)),(6,.msl B l.length 1 k (l.length - k)),(7,.int .i64 x.1)]) (fun x H2 nx2=>x.2.length=l.length∧1 ≤ x.1∧k + x.1 ≤ l.length∧bC l (k + x.1) + 1 ≤ k + x.1∧H2=aj H' B (x.2.map av)∧nx2=nx'∧(∀ p,k + x.1 ≤ p + 1→x.2.getD p default=l.getD p default)∧x.2.take (bC l (k + x.1))=dy l (k + x.1)) (fun x=>l.length - x.1) (1,l)
    ⟨rfl,aJ _,hk,by dsimp only; rw [dK (by omega) he]; omega,hid,rfl,fun _ _=>rfl,by dsimp only; rw [dK (by omega) he,gW (by omega) he,k3,k4]⟩ (by simp (disch:=omega) only [agr,ZG,reduceEqDiff,↓reduceIte,dK (show k ≠ 0 by omega) he,k3]) ?_
   rintro ⟨j,L⟩ H2 nx2 ⟨a1,a2,a3,a4,rfl,rfl,a5,a6⟩;dsimp only at a1 a2 a3 a4 a5 a6 ⊢;by_cases hj:k + j < l.length
   ·have tj:(j:Int) - 1=(j - 1:Nat):=by omega
    have r1:=a5 (k + j) (by omega);have r2:=a5 (k + (j - 1)) (by omega);have heq2:=rA (l.getD (k + j) default) (l.getD (k + (j - 1)) default) (hls _ (aX hj)) (hls _ (aX (by omega)));by_cases hd:l.getD (k + j) default=l.getD (k + (j - 1)) default
    ·have hq:bC l (k + (j + 1))=bC l (k + j):=dK (l:=l) (k:=k + j) (by omega) (by rw [hd,show k + j - 1=k + (j - 1) by omega]);rw [bD hd] at heq2;have zz:=aI @tj (aI @br (aI @r1 (aI @r2 (aI @bP @bv)))); repeat' (first|refine zW ?_|refine zM ?_|refine zO ?_|refine vZ ?_|refine cZ ?_ (hp:=heq2) (hs:=by (first | refine ac ?_ rfl | apply af); (repeat' (first | exact ae | apply am | apply ag | exact aD _)); first | done | fail)|refine cFZ ?_|(refine zGZ ?_ ?_ <;> (intro _hg; try (exfalso; omega)))|apply a_n)
     refine ⟨(j + 1,L),by dsimp only; omega,⟨a1,by dsimp only; omega,by dsimp only; omega,?_,rfl,rfl,fun p hp=>a5 p (by dsimp only at hp; omega),by dsimp only; rw [hq,show k + (j + 1)=k + j + 1 from rfl,gW (by omega) (by rw [hd,show k + j - 1=k + (j - 1) by omega])]; exact a6⟩,(have zz:=@hq; agZ)⟩;dsimp only;rw [hq];omega
    ·have hq:bC l (k + (j + 1))=bC l (k + j) + 1:=gP (l:=l) (k:=k + j) (by rw [show k + j - 1=k + (j - 1) by omega]; exact hd);have hlm:=gj (f:=av) (l:=L) (k:=bC l (k + j)) (x:=l.getD (k + j) default) (by omega);rw [bw hd] at heq2;have zz:=aI @tj (aI @br (aI @r1 (aI @r2 (aI @bP @bv)))); repeat' (first|refine zW ?_|refine zM ?_|refine zO ?_|refine vZ ?_|refine cZ ?_ (hp:=heq2) (hs:=by (first | refine ac ?_ rfl | apply af); (repeat' (first | exact ae | apply am | apply ag | exact aD _)); first | done | fail)|refine stZ ?_|refine cTZ ?_|(refine zGZ ?_ ?_ <;> (intro _hg; try (exfalso; omega)))|apply a_n)
     refine ⟨(j + 1,L.set (bC l (k + j)) (l.getD (k + j) default)),by dsimp only; omega,⟨by simp [a1],by dsimp only; omega,by dsimp only; omega,?_,?_,rfl,fun p hp=>?_,by dsimp only; rw [hq,uM (by omega),a6,show k + (j + 1)=k + j + 1 from rfl,hY (by rw [show k + j - 1=k + (j - 1) by omega]; exact hd)]⟩,(have zz:=@hq; agZ)⟩
     ·dsimp only;rw [hq];omega
     ·dsimp only;rw [ap,hlm]
     ·dsimp only at hp ⊢;rw [List.getD_eq_getElem?_getD,List.getElem?_set_ne (by omega),← List.getD_eq_getElem?_getD];exact a5 p (by omega)
   ·have hn:k + j=l.length:=by omega
    have hl1:=mE (B:=B) (n:=l.length) (show bC l (k + j) < l.length by omega) (Nat.ne_of_gt hpos);have hl2:=sK (B:=B) (n:=l.length) (show bC l (k + j) ≤ l.length by omega) (Nat.ne_of_gt hpos);have zz:=aI @hl1 @hl2; repeat' (first|refine zW ?_|apply a_x|refine zO ?_|refine vZ ?_|(refine zGZ ?_ ?_ <;> (intro _hg; try (exfalso; omega)))|apply a_n)
    refine yf (H':=aj (aj H' B (L.map av)) B (bn (L.map av) (bC l (k + j)) (bb .esl (l.length - bC l (k + j))))) ?_ ?_
    ·((try simp only [dj,ZA,reduceEqDiff,↓reduceIte,reduceAdd,reduceLeDiff]); (try with_reducible rfl))
     simp only [fQ];rw [if_neg (by omega),al];dsimp only;rw [if_pos ⟨by simp [a1],trivial,rfl,rfl,by omega⟩];rfl
    ·have zz:=@hl2; repeat' (first|refine zW ?_|apply a_r|refine zO ?_|refine vZ ?_|refine ai rfl ?_|refine r1Z ?_|apply a_n)
     refine ⟨by rw [hn],⟨_,ap _ _ _ _,?_,?_⟩,rfl⟩
     ·have hz:(bb AV.esl (l.length - bC l (k + j))).length=l.length - bC l (k + j):=by simp [bb,show AV.esl.cells.length=1 from rfl]
      simp [bn,hz];omega
     ·rw [← hn,← a6,List.map_take];simp only [bn];rw [List.append_assoc,List.take_append_of_le_length (by simp; omega),iJ (by simp; omega)]
  ·rw [bw he] at heq;have zz:=aI @tk (aI @hH (aI @br (aI @bP @bv))); repeat' (first|refine zW ?_|refine zM ?_|refine zO ?_|refine vZ ?_|refine cZ ?_ (hp:=heq) (hs:=by (first | refine ac ?_ rfl | apply af); (repeat' (first | exact ae | apply am | apply ag | exact aD _)); first | done | fail)|refine cFZ ?_|(refine zGZ ?_ ?_ <;> (intro _hg; try (exfalso; omega)))|apply a_n)
   exact ⟨k + 1,by omega,⟨rfl,rfl,by omega,by omega,by rw [gP he,k3],by rw [hY he,k4,cH hk]⟩,ag0⟩
 ·repeat' (first|refine zW ?_|apply a_x|refine zO ?_|refine vZ ?_|(refine zGZ ?_ ?_ <;> (intro _hg; try (exfalso; omega)))|refine ai rfl ?_|refine r1Z ?_|apply a_n)
  have e:l.length=k:=by omega
  refine ⟨by rw [e,k3],⟨_,hid,by simp,?_⟩,rfl⟩;rw [e,k3,k4,← List.map_take]
end Go.Proofs.Ytpfkjcjgdilkkaa
namespace Go.Proofs.Ytpfkjcjgdilkkaa
open Go Go.Abs
open Nat (reduceEqDiff reduceAdd reduceLeDiff)
theorem uc {H:Hp} {sz:Nat} {s:AV} {elems:List AV} (h:Row H sz s (elems.flatMap AV.cells)) (hc:∀ y ∈ elems,y.cells.length=sz) (hz:0 < sz) (hd:∀ y ∈ elems,∀ c ∈ y.cells,SnapF H c c):SnapF H s (.sl sz elems):=by
 obtain ⟨f1,f2⟩:=cS elems hc;generalize he:elems.flatMap AV.cells=cs at h;cases h with
 | nil =>
  have:elems.length * sz=0:=by rw [← f1,he]; rfl
  have:elems=[]:=eF.1 (by
   rcases Nat.mul_eq_zero.1 this with h | h
   ·exact h
   ·omega)
  subst this; exact .eslsl sz
 | box b len cs hb hl =>
  have hlen:elems.length=len:=Nat.eq_of_mul_eq_mul_right hz (by rw [← f1,he,hl]);refine .msl b (len * sz) sz 0 len cs elems hb hl (by omega) hlen hc (fun i j y a c hy hc' ha=>?_);have hj:j < sz:=by rw [← hc y (eG hy)]; exact (bj.1 hc').1
  have key:∀ (l:List AV) (i j:Nat) (y c:AV),(∀ z ∈ l,z.cells.length=sz)→l[i]?=some y→y.cells[j]?=some c→j < sz→(l.flatMap AV.cells)[i * sz + j]?=some c:=by
   intro l
   induction l with
   | nil=>intro i j y c _ h; simp at h
   | cons x l ih =>
    intro i j y c hl hy hc hj;rw [List.flatMap_cons];cases i with
    | zero =>
     simp at hy; subst hy;rw [Nat.zero_mul,bU,eO (by rw [hl x (by simp)]; exact hj)]; exact hc
    | succ i =>
     rw [fj (by rw [hl x (by simp),d9]; omega),hl x (by simp)];have:=ih i j y c (fun z hz=>hl z (by simp [hz])) (by simpa using hy) hc hj;rw [← this]; congr 1; rw [d9]; omega
  have:=key elems i j y c hc hy hc' hj;rw [he,← bU (i * sz)] at this;rw [this] at ha; cases ha;exact hd y (eG hy) a (eG hc')
theorem tt {H:Hp} {s:AV} {l:Spx} (h:Row H 2 s (cX l)):SnapF H s (av l):=by
 refine uc (elems:=l.map bV) (by rw [s0]; exact h) (fun y hy=>?_) (by omega) (fun y hy c hx=>?_)
 ·obtain ⟨n,_,rfl⟩:=eE.1 hy; rfl
 ·obtain ⟨n,_,rfl⟩:=eE.1 hy;simp only [bV,AV.cells,ij,List.not_mem_nil,or_false] at hx;rcases hx with rfl | rfl <;> exact .int _ _
attribute [local irreducible] aO aq bI bM bk bx aM bA bR cz Go.Abs.Fn bK Go.Abs.Pure aQ a7 Yl
theorem u9 (l:Spx) (hl:l.length ≤ 1000000):f8 Try.prog 45 [av l] (av l):=by
 refine f8.of_c2 follows zs (bd rfl) ?_;simp only [b45,aK]
 repeat' (first|refine zW ?_|refine zO ?_|refine vY ?_|apply a_n)
 have hn:eP (av l)=some l.length:=by unfold av fS; simp [eP]
 refine vL (k:=l.length) (by ((try simp only [dj,ZA,reduceEqDiff,↓reduceIte,reduceAdd,reduceLeDiff]); (try with_reducible rfl)); exact hn) (fun h=>?_) (fun h=>?_) (fun h=>?_)
 ·repeat' (first|refine zW ?_|refine zO ?_|refine vY ?_|refine b0Y ?_|refine cFY ?_|apply a_n)
  refine nz rfl ev0 ev0 vW (pG _) (by omega) (by omega) ?_
  repeat' (first|refine zO ?_|refine vY ?_|refine ai rfl ?_|refine r1Y ?_|apply a_n)
  exact tt (Row.box _ l.length (cX l) al (fN l))
 ·repeat' (first|refine zW ?_|apply a_r|refine zO ?_|refine vY ?_|refine cTY ?_|refine ai rfl ?_|refine r1Y ?_|apply a_n)
  obtain rfl:=eF.1 h;exact .eslsl 2
 ·repeat' (first|refine zW ?_|refine zO ?_|refine vY ?_|refine b0Y ?_|refine cFY ?_|apply a_n)
  refine nz rfl ev0 ev0 vW (pG _) (by omega) (by omega) ?_
  repeat' (first|refine zO ?_|refine vY ?_|refine ai rfl ?_|refine r1Y ?_|apply a_n)
  exact tt (Row.box _ l.length (cX l) al (fN l))
theorem kR (s:AV) (l:List Spx) (hl:l.length ≤ 1000000) (H:Hp) (nx:Nat) (hn:eP s=some l.length) (hs:∀ H',(∀ x,x < nx→H' x=H x)→dL 1 H' s=some (l.length,l.map av)):Abs.Fn Try.prog 23 [s] H nx fun r H' nx'=>nx' ≤ nx + 1∧nx ≤ nx'∧(∀ x,x < nx→H' x=H x)∧if l=[] then cU r=some (.int .i64 0)∧∀ H'',Snap H'' r (ay []) else r=.msl nx l.length 1 0 l.length∧H'=aj H nx (l.map av)∧nx'=nx + 1:=by
 refine Abs.Fn.of_c2 follows Au (bd rfl) ?_;simp only [b23,aK]
 have hones:AV.ones (l.map av)=true:=by
  unfold AV.ones;rw [eu];intro x hx;obtain ⟨y,_,rfl⟩:=eE.1 hx;rfl
 repeat' (first|refine zW ?_|refine zO ?_|refine vY ?_|apply a_n)
 refine vL (k:=l.length) (by ((try simp only [dj,ZA,reduceEqDiff,↓reduceIte,reduceAdd,reduceLeDiff]); (try with_reducible rfl)); exact hn) (fun h=>?_) (fun h=>?_) (fun h=>?_)
 ·repeat' (first|refine zW ?_|refine zO ?_|refine vY ?_|refine b0Y ?_|refine cFY ?_|apply a_n)
  refine nz rfl ev0 ev0 (hs _ fun x _=>rfl) hones (by omega) (by omega) ?_
  repeat' (first|refine zO ?_|refine vY ?_|refine ai rfl ?_|refine r1Y ?_|apply a_n)
  refine ⟨aJ _,by omega,fun x hx=>au (by omega),?_⟩;rw [if_neg (by rintro rfl; exact absurd h (by simp))];exact ⟨rfl,rfl,rfl⟩
 ·repeat' (first|refine zW ?_|apply a_r|refine zO ?_|refine vY ?_|refine cTY ?_|refine ai rfl ?_|refine r1Y ?_|apply a_n)
  refine ⟨by omega,aJ _,fun x hx=>rfl,?_⟩;rw [if_pos (eF.1 h)];exact ⟨rfl,fun _=>.eslsl 1⟩
 ·repeat' (first|refine zW ?_|refine zO ?_|refine vY ?_|refine b0Y ?_|refine cFY ?_|apply a_n)
  refine nz rfl ev0 ev0 (hs _ fun x _=>rfl) hones (by omega) (by omega) ?_
  repeat' (first|refine zO ?_|refine vY ?_|refine ai rfl ?_|refine r1Y ?_|apply a_n)
  refine ⟨aJ _,by omega,fun x hx=>au (by omega),?_⟩;obtain rfl:=eF.1 h;rw [if_pos rfl];exact ⟨rfl,fun _=>.mslnil _ _ _ _ _⟩
section
variable {g:Nat} {caps:List AV} {s:AV}
theorem ze (hs:cU s=some (.int .i64 0)) {H:Hp} {nx:Nat}:Abs.Fn Try.prog 72 [s,.int .i64 0,.int .i64 0,.func g caps] H nx fun r H' nx'=>nx'=nx∧H'=H:=by
 refine Abs.Fn.of_c2 follows yY (bd rfl) ?_;simp only [b72,aK]
 repeat' (first|refine zW ?_|refine zO ?_|refine vZ ?_|apply a_n)
 refine aU (X:=Unit) (fun x=>[(0,s),(1,.int .i64 0),(2,.int .i64 0),(3,.func g caps),(8,.int .i64 1)]) (fun x H' nx'=>H'=H∧nx'=nx) (fun x=>0) () ⟨rfl,rfl⟩ (by simp (disch:=omega) only [agr,ZG,reduceEqDiff,↓reduceIte,Int.zero_add,true_and]) ?_;rintro _ _ _ ⟨rfl,rfl⟩
 repeat' (first|refine zW ?_|apply a_x|refine zO ?_|refine vZ ?_|(refine zGZ ?_ ?_ <;> (intro _hg; try (exfalso; omega)))|refine ai rfl ?_|apply a_n)
 exact ⟨rfl,rfl⟩
theorem yR (hs:cU s=some (.int .i64 0)) {H:Hp} {nx:Nat}:Abs.Fn Try.prog 61 [s,.int .i64 0,.int .i64 0,.int .i64 0,.func g caps] H nx fun r H' nx'=>nx'=nx∧H'=H:=by
 refine Abs.Fn.of_c2 follows yC (bd rfl) ?_;simp only [b61,aK]
 repeat' (first|refine zW ?_|refine zO ?_|refine vZ ?_|apply a_n)
 refine aU (X:=Unit) (fun x=>[(0,s),(1,.int .i64 0),(2,.int .i64 0),(3,.int .i64 0),(4,.func g caps)]) (fun x H' nx'=>H'=H∧nx'=nx) (fun x=>0) () ⟨rfl,rfl⟩ ag0 ?_;rintro _ _ _ ⟨rfl,rfl⟩
 repeat' (first|refine zW ?_|refine zO ?_|refine vZ ?_|(refine zGZ ?_ ?_ <;> (intro _hg; try (exfalso; omega)))|apply a_n)
 refine aA ev0 ev0 (ze hs) ?_;rintro _ _ _ ⟨rfl,rfl⟩
 repeat' (first|apply a_r|refine zO ?_|refine ai rfl ?_|apply a_n)
 exact ⟨rfl,rfl⟩
theorem ww (hs:cU s=some (.int .i64 0)) {H:Hp} {nx:Nat}:Abs.Fn Try.prog 41 [s,.func g caps] H nx fun r H' nx'=>nx'=nx∧H'=H:=by
 refine Abs.Fn.of_c2 follows y3 (bd rfl) ?_;simp only [b41,aK];have w8:IntKind.wrap .u64 0=0:=by decide
 have zz:=aI @w8 @hs; repeat' (first|refine zW ?_|refine zO ?_|refine vZ ?_|apply a_n)
 refine aA ev0 (have zz:=@w8; evZ) x7 ?_;rintro _ _ _ ⟨rfl,rfl,rfl⟩
 repeat' (first|refine zO ?_|refine vZ ?_|apply a_n)
 refine aA ev0 ev0 (yR hs) ?_;rintro _ _ _ ⟨rfl,rfl⟩
 repeat' (first|refine zO ?_|refine ai rfl ?_|apply a_n)
 exact ⟨rfl,rfl⟩
theorem sF (hs:cU s=some (.int .i64 0)) {H:Hp} {nx:Nat}:Abs.Fn Try.prog 43 [s,.func g caps] H nx fun r H' nx'=>r=s∧nx'=nx∧H'=H:=by
 refine Abs.Fn.of_c2 follows yz (bd rfl) ?_;simp only [b43,aK];have zz:=@hs; repeat' (first|refine zW ?_|apply a_r|refine zO ?_|refine vZ ?_|(refine zGZ ?_ ?_ <;> (intro _hg; try (exfalso; omega)))|refine ai rfl ?_|refine r1Z ?_|apply a_n)
 exact ⟨rfl,rfl,rfl⟩
end
end Go.Proofs.Ytpfkjcjgdilkkaa
namespace Go.Proofs.Ytpfkjcjgdilkkaa
open Go Go.Abs
theorem uo {D:List Spx} {k:Nat} {v:Vtx} (hk:k < D.length) (hv:v ∈ D.getD k default):gc D D.length v ≠ []:=fun e=>by
 have:k ∈ gc D D.length v:=fR.2 ⟨ml.2 hk,bD hv⟩;rw [e] at this; cases this
theorem p6 {l:List Spx} {p:Spx→Bool} {k:Nat} (hk:k < l.length):(l.take (k + 1)).filter p=(l.take k).filter p ++ if p (l.getD k default)=true then [l.getD k default] else []:=by
 rw [cH hk,List.filter_append];cases h:p (l.getD k default)
 ·rw [List.filter_cons_of_neg (by rw [h]; decide),List.filter_nil,if_neg (by decide)]
 ·rw [List.filter_cons_of_pos h,List.filter_nil,if_pos rfl]
attribute [local irreducible] aO aq bI bM bk bx aM bA bR cz Go.Abs.Fn bK Go.Abs.Pure aQ a7 Yl
theorem A1:Cmp Try.prog av bO (fun s=>Shn s) 42 [] where
 cells _:=rfl
 one _:=rfl
 dat x:=aD x
 dcaps x hx:=by cases hx
 run x y hx hy:=je x y hx hy
 ord:=oJ.ord
theorem e7 (l:List Spx) (hl:l.length ≤ 100000) (hs:∀ s ∈ l,cr bm s∧s.length ≤ 1000∧s ≠ []):Pure Try.prog 18 [ay l] (ca (fo l)):=by
 refine Pure.of_c2 follows AM (bd rfl) ?_;simp only [b18,aK];have hn:eP (ay l)=some l.length:=by unfold ay fS; simp [eP]
 have zz:=@ak; repeat' (first|refine zW ?_|refine zO ?_|refine vY ?_|refine alY ?_|apply a_n)
 refine aA ev0 ev0 (kR _ l (by omega) _ _ hn (fun H' _=>mM)) ?_;rintro r H1 nx1 ⟨c1,c2,c3,c4⟩;have hD:∀ s ∈ dh bO l,cr bm s∧s.length ≤ 1000∧s ≠ []:=fun s h=>hs s (fc.1 h);have hDl:(dh bO l).length ≤ 100000:=dQ kc hl;have g0:H1 0=some [.esl]:=(c3 0 (by omega)).trans al
 have hsort:Abs.Fn Try.prog 41 [r,.func 42 []] H1 nx1 fun _ H' nx'=>nx1 ≤ nx'∧H' 0=some [.esl]∧((l=[]∧cU r=some (.int .i64 0)∧∀ H'',Snap H'' r (ay [])) ∨ (l ≠ []∧r=.msl 1 l.length 1 0 l.length∧2 ≤ nx'∧∃ L':List Spx,H' 1=some (L'.map av)∧L'.Perm l∧aL bO 0 l.length L')):=by
  by_cases h0:l=[]
  ·rw [if_pos h0] at c4;refine Abs.Fn.mono (ww c4.1) ?_;rintro _ _ _ ⟨rfl,rfl⟩;exact ⟨aJ _,g0,.inl ⟨h0,c4⟩⟩
  ·rw [if_neg h0] at c4;obtain ⟨rfl,rfl,rfl⟩:=c4;have hpos:=List.length_pos_iff.2 h0;refine Abs.Fn.mono (xy A1 (L:=l) (b:=0 + 1) (n:=l.length) al (by omega) rfl hpos (fun s h=>show s.length ≤ _ by have:=(hs s h).2.1; omega) (by omega)) ?_;rintro _ H' nx' ⟨L',ps,p1,p2⟩;exact ⟨ps.le,by rw [ps.fr 0 (by omega) (by omega)]; exact g0,.inr ⟨h0,rfl,ps.le,L',ps.at_,p1,p2⟩⟩
 have hnx1:1 ≤ nx1:=c2;clear c4
 repeat' (first|refine zW ?_|refine zO ?_|refine vY ?_|apply a_n)
 refine aA ev0 ev0 hsort ?_;rintro _ H2 nx2 ⟨d1,g2,d3⟩
 have hcmp:Abs.Fn Try.prog 43 [r,.func 12 []] H2 nx2 fun r' H' nx'=>nx2 ≤ nx'∧∃ Hf H3,Fz Hf H' H3∧Snap Hf r' (ay (dh bO l))∧H3 0=some [.esl]:=by
  rcases d3 with ⟨h0,e1,e2⟩ | ⟨h0,rfl,e0,L',e1,e2,e3⟩
  ·refine Abs.Fn.mono (sF e1) ?_;rintro _ _ _ ⟨rfl,rfl,rfl⟩;refine ⟨aJ _,a9,_,Fz.none,?_,g2⟩;rw [h0]; exact e2 _
  ·have hlen:=e2.length_eq;have hL0:L' ≠ []:=fun e=>by rw [e] at hlen; simp at hlen; exact h0 (eF.1 hlen.symm)
   rw [← hlen];refine Abs.Fn.mono (re L' (show _ ≤ _ by omega) (fun s h=>show s.length ≤ _ by have:=(hs s (e2.mem_iff.1 h)).2.1; omega) hL0 H2 1 nx2 e1 (by omega)) ?_;rintro _ _ _ ⟨rfl,⟨C,rfl,f1,f2⟩,rfl⟩;have hd:dy L' L'.length=dh bO l:=pn oJ e2 (by rw [hlen]; exact e3);rw [hd] at f2;have hle:=rF L' L'.length;have hdl:=o6 L' L'.length;rw [hd] at hdl;refine ⟨aJ _,only 1 C,cb (aj H2 1 C) 1,Fz.one al,?_,by rw [fG (by omega),au (by omega)]; exact g2⟩;refine nw (l:=(dh bO l).map av) f7 f1 (by omega) (by rw [dt]; exact hdl) (fun y hy=>?_) (fun i a c ha hc=>?_)
   ·obtain ⟨z,_,rfl⟩:=eE.1 hy; rfl
   ·rw [← f2,eX] at hc;split at hc
    ·rw [bU,hc] at ha; cases ha
     have hm:a ∈ (dh bO l).map av:=by
      rw [← f2];exact eG (i:=i) (by rw [eX,if_pos (by assumption)]; exact hc)
     obtain ⟨z,_,rfl⟩:=eE.1 hm;exact aD _ _
    ·cases hc
 clear d3 hsort
 repeat' (first|refine zW ?_|refine zO ?_|refine vY ?_|apply a_n)
 refine aA ev0 ev0 hcmp ?_;rintro r2 H3 nx3 ⟨f1,Hf,H4,hfz,hsn,g4⟩;have hmx:fo l=(dh bO l).filter fun s=>!bl (dh bO l) s:=rfl;rw [hmx];have hasc:=iw oJ l;generalize dh bO l=D at *
 repeat' (first|refine zO ?_|refine vY ?_|apply a_n)
 refine dp ?_;refine kE Hf H4 [(0,ay D),(2,.ptr 0 1 0)] hfz ⟨.inr hsn,.inl rfl,trivial⟩ ?_;clear hfz hsn
 repeat' (first|refine zO ?_|refine vY ?_|apply a_n)
 refine aA ev0 ev0 (iY D hDl (fun s h=>⟨(hD s h).1,by have:=(hD s h).2.1; omega⟩) _ _) ?_;rintro _ H5 nx5 ⟨ks,vs,rfl,hinc,hsame,hlt⟩;have g5:H5 0=some [.esl]:=(hsame 0 (by omega)).trans g4;have hOk:OkS D:=⟨hDl,fun s h=>⟨(hD s h).1,(hD s h).2.1⟩⟩
 have zz:=@ak; repeat' (first|refine zW ?_|refine zO ?_|refine vY ?_|refine alY ?_|apply a_n)
 refine aU (X:=Nat × AV) (fun x=>[(0,ay D),(2,.ptr 0 1 0),(3,.mp nx3),(4,.ptr nx5 1 0),(15,ay D),(16,.int .i64 D.length),(17,.int .i64 x.1)]) (fun x H' nx'=>x.1 ≤ D.length∧nx5 < nx'∧(∀ y,y < nx5→H' y=H5 y)∧H' nx5=some [x.2]∧Row H' 1 x.2 (((D.take x.1).filter fun s=>!bl D s).map av)∧∀ B,c7 x.2=some B→nx5 < B∧B < nx') (fun x=>D.length - x.1) (0,.esl) ⟨cP _,by omega,fun y hy=>au (by omega),al,Row.nil,fun B h=>(by cases h)⟩ (by (iterate 7 refine And.intro rfl ?_); trivial) ?_;rintro ⟨k,sv⟩ H' nx' ⟨h1,hnx',hsm,gb,hrow,hbd⟩;dsimp only at h1 gb hrow hbd ⊢;by_cases hk:k < D.length
 rotate_left
 ·rw [iJ (by omega)] at hrow;obtain ⟨o1,o2⟩:=hrow.one;have g6:H' 0=some [.esl]:=(hsm 0 (by omega)).trans g5;have zz:=aI @gb (aI @g6 (aI @o1 @o2)); repeat' (first|refine zW ?_|apply a_x|refine zO ?_|refine vY ?_|refine stY ?_|(refine zGY ?_ ?_ <;> (intro _hg; try (exfalso; omega)))|refine ai rfl ?_|refine r1Y ?_|apply a_n)
  exact oo (aB (gJ (hrow.same fun B hB=>au (by have:=hbd B hB; omega))) ae)
 have ix:=eT hk;have hDk:=hD _ (aX hk);have hpos:0 < (D.getD k default).length:=List.length_pos_iff.2 hDk.2.2;have hcv:=oZ D (D.getD k default) hOk (hOk.2 _ (aX hk)) hpos;have iy:=ix2 (l:=D.getD k default) (k:=0) hpos;rw [show ((0:Nat):Int)=0 from rfl] at iy;have hks:(D.getD k default).getD 0 default ∈ ks:=(hinc.dom _).2 (uo hk (aX hpos));have hmf:=pB ((D.getD k default).getD 0 default) ks;rw [if_pos hks] at hmf;obtain ⟨m1,m2⟩:=mw hks;have hr:=hinc.row _ m1;rw [m2] at hr;have hr':=hr.same (H':=H') (fun B hB=>hsm B (hinc.bnd _ B m1 hB).2.1);have hbox:=(hsm nx3 hinc.lt).trans hinc.box;have hft:=p6 (p:=fun s=>!bl D s) hk
 have hfl:(((D.take k).filter fun s=>!bl D s).map av).length ≤ 100000:=by
  rw [dt];have:=List.length_filter_le (fun s=>!bl D s) (D.take k);rw [il] at this; omega
 generalize hsk:D.getD k default=s at *;have zz:=aI @ix @iy; repeat' (first|refine zW ?_|refine zO ?_|refine vY ?_|(refine zGY ?_ ?_ <;> (intro _hg; try (exfalso; omega)))|apply a_n)
 refine su ev0 hbox ev0 (qW _) hmf ?_;rw [show mget .esl false (some (ks.idxOf (s.getD 0 default))) vs=vs.getD (ks.idxOf (s.getD 0 default)) .undef from rfl]
 repeat' (first|refine zO ?_|refine vY ?_|apply a_n)
 cases hb:bl D s
 ·rw [hb] at hcv hft;rw [if_pos (by decide)] at hft;refine dS ev0 ev0 hcv (ac (aB (bz _ _) (aB (rq hr') (aB (aD _ _) ae))) rfl) ?_
  repeat' (first|refine zO ?_|refine vY ?_|refine cTY ?_|apply a_n)
  refine pV nx5 gb fun S0 hS hsub=>?_;have zz:=@hS; repeat' (first|refine zO ?_|refine nvY ?_|apply a_n)
  refine nq ?_;refine xZ ev0 ev0 (u9 s (by omega)) (aB (aD _ _) ae) ?_;refine ru ⟨hsub _ gb,?_⟩;refine nq ?_;have zz:=aI @bP @bv; repeat' (first|refine zO ?_|refine blY ?_|apply a_n)
  refine ⟨hsub _ (by rw [au (by omega)]; exact gb),?_⟩;refine jq ?_;refine iq rfl ev0 (hrow.same fun B hB=>?_) ev0 gI rfl rfl Nat.one_pos (by omega) (by omega) ?_
  ·have:=hbd B hB; rw [au (by omega)]
  rintro s2 H2 nx2 hr2 i1 i2 i3 i4;have gb2:H2 nx5=some [sv]:=(i3 nx5 (by omega) (fun h=>by have:=hbd _ h; omega)).trans (by rw [au (by omega)]; exact gb);obtain ⟨o1,o2⟩:=hr2.one;have zz:=aI @gb2 (aI @o1 @o2); repeat' (first|refine zO ?_|refine vY ?_|refine nvY ?_|apply jq|refine stY ?_|apply a_n)
  refine ⟨(k + 1,s2),by dsimp only; omega,⟨by dsimp only; omega,by omega,fun y hy=>?_,by rw [al]; rfl,?_,fun B hB=>?_⟩,ag0⟩
  ·rw [au (by omega),i3 y (by omega) (fun h=>by have:=hbd _ h; omega),au (by omega)]; exact hsm y hy
  ·dsimp only;rw [hft,jF];refine hr2.same fun B hB=>au ?_;rcases i4 B hB with h | h
   ·have:=hbd B h; omega
   ·omega
  ·rcases i4 B hB with h | h
   ·have:=hbd B h; omega
   ·omega
 ·rw [hb] at hcv hft;rw [if_neg (by decide),mo] at hft;refine dS ev0 ev0 hcv (ac (aB (bz _ _) (aB (rq hr') (aB (aD _ _) ae))) rfl) ?_
  repeat' (first|refine zO ?_|refine vY ?_|refine cFY ?_|apply a_n)
  exact ⟨(k + 1,sv),by dsimp only; omega,⟨by dsimp only; omega,hnx',hsm,gb,by dsimp only; rw [hft]; exact hrow,hbd⟩,ag0⟩
theorem wA {H:Hp} {s:AV} {l:List Spx} (h:Row H 1 s (l.map av)):∃ Hf H',Fz Hf H H'∧Snap Hf s (ay l)∧∀ x,c7 s ≠ some x→H' x=H x:=by
 generalize hcs:l.map av=cs at h;cases h with
 | nil=>exact ⟨a9,H,Fz.none,gJ (by rw [hcs]; exact Row.nil),fun _ _=>rfl⟩
 | box b len cs g1 g2=>exact ⟨only b cs,cb H b,Fz.one g1,gJ (by rw [hcs]; exact Row.box b len cs f7 g2),fun x hx=>fG (fun e=>hx (by rw [e]; rfl))⟩
theorem uy (l:List Spx) (p:Spx→Bool) (g:Nat) (caps caps':List AV) (hl:l.length ≤ 1000000) (H:Hp) (nx:Nat) (hcap:∀ H':Hp,(∀ x,x < nx→H' x=H x)→a7 H' caps caps') (hg:∀ x ∈ l,Pure Try.prog g (av x :: caps') (.bool (p x))) :
    Abs.Fn Try.prog 38 [ay l,.func g caps] H nx fun r H' nx'=>Row H' 1 r ((l.filter p).map av)∧(∀ x,x < nx→H' x=H x)∧nx ≤ nx':=by
 refine Abs.Fn.of_c2 follows yp (bd rfl) ?_;simp only [b38,aK];have zz:=@ak; repeat' (first|refine zW ?_|refine zO ?_|refine vY ?_|apply a_n)
 refine aU (X:=Nat × AV) (fun x=>[(1,.func g caps),(5,x.2),(8,ay l),(9,.int .i64 l.length),(10,.int .i64 x.1)]) (fun x H' nx'=>x.1 ≤ l.length∧nx ≤ nx'∧(∀ y,y < nx→H' y=H y)∧Row H' 1 x.2 (((l.take x.1).filter p).map av)∧∀ b,c7 x.2=some b→nx ≤ b∧b < nx') (fun x=>l.length - x.1) (0,.esl) ⟨cP _,aJ _,fun _ _=>rfl,Row.nil,fun b h=>(by cases h)⟩ (by (iterate 5 refine And.intro rfl ?_); trivial) ?_;rintro ⟨k,sv⟩ H1 nx1 ⟨h1,h2,h3,hrow,hbd⟩;dsimp only at h1 hrow hbd ⊢;obtain ⟨o1,o2⟩:=hrow.one;by_cases hk:k < l.length
 rotate_left
 ·rw [iJ (by omega)] at hrow;have zz:=aI @o1 @o2; repeat' (first|refine zW ?_|apply a_x|refine zO ?_|refine vY ?_|(refine zGY ?_ ?_ <;> (intro _hg; try (exfalso; omega)))|refine ai rfl ?_|refine r1Y ?_|apply a_n)
  exact ⟨hrow,h3,h2⟩
 have ix:=eT hk;have hp:=hg _ (aX hk)
 have hft:(l.take (k + 1)).filter p=(l.take k).filter p ++ if p (l.getD k default)=true then [l.getD k default] else []:=by
  rw [cH hk,List.filter_append];cases h:p (l.getD k default)
  ·rw [List.filter_cons_of_neg (by rw [h]; decide),List.filter_nil,if_neg (by decide)]
  ·rw [List.filter_cons_of_pos h,List.filter_nil,if_pos rfl]
 have hfl:((l.take k).filter p).length ≤ l.length:=dQ (List.length_filter_le _ _) (by rw [il]; omega);generalize l.getD k default=v at *;have zz:=@ix; repeat' (first|refine zW ?_|refine zO ?_|refine vY ?_|(refine zGY ?_ ?_ <;> (intro _hg; try (exfalso; omega)))|apply a_n)
 refine dS ev0 ev0 hp (ac (aB (aD _ _) (hcap _ h3)) rfl) ?_;cases hpv:p v
 ·rw [hpv,if_neg (by decide),mo] at hft;have zz:=aI @o1 @o2; repeat' (first|refine zO ?_|refine vY ?_|refine cFY ?_|apply a_n)
  refine ⟨(k + 1,sv),by dsimp only; omega,⟨by dsimp only; omega,h2,h3,by dsimp only; rw [hft]; exact hrow,hbd⟩,ag0⟩
 ·rw [hpv,if_pos rfl] at hft;have zz:=aI @o1 (aI @o2 (aI @bP @bv)); repeat' (first|refine zO ?_|refine vY ?_|refine blY ?_|refine cTY ?_|apply a_n)
  refine iq rfl ev0 (hrow.same fun b hb=>?_) ev0 gI rfl rfl Nat.one_pos (by rw [dt]; omega) (by rw [dt]; omega) ?_
  ·have:=hbd b hb; rw [au (by omega)]
  rintro s2 H2 nx2 hr2 i1 i2 i3 i4;obtain ⟨o3,o4⟩:=hr2.one;have zz:=aI @o3 @o4; repeat' (first|refine zO ?_|refine vY ?_|apply a_n)
  refine ⟨(k + 1,s2),by dsimp only; omega,⟨by dsimp only; omega,by omega,fun y hy=>?_,?_,fun b hb=>?_⟩,ag0⟩
  ·rw [i3 y (by omega) (fun h=>by have:=hbd _ h; omega),au (by omega)]; exact h3 y hy
  ·dsimp only;rw [hft,jF]; exact hr2
  ·rcases i4 b hb with h | h
   ·have:=hbd b h; omega
   ·omega
theorem oS (s t:Spx) (hs:cr bm s∧s.length ≤ 1000000) (ht:cr bm t∧t.length ≤ 1000000):Pure Try.prog 39 [av t,.iptr [av s] 0] (.bool (cw s t)):=by
 refine Pure.of_c2 follows AZ (bd rfl) ?_;simp only [b39,aK]
 repeat' (first|refine zW ?_|refine zO ?_|refine vY ?_|refine cY ?_ (hp:=by exact wN s t hs.1 ht.1 hs.2 ht.2) (hs:=by (first | refine ac ?_ rfl | apply af); (repeat' (first | exact ae | apply am | apply ag | exact aD _)); first | done | fail)|refine ai rfl ?_|refine r1Y ?_|apply a_n)
 exact .bool _
theorem wD (c:List Spx) (s:Spx) (hc:c.length ≤ 1000000) (hcs:∀ t ∈ c,cr bm t∧t.length ≤ 1000000) (hs:cr bm s∧s.length ≤ 1000000) (H:Hp) (nx:Nat) :
    Abs.Fn Try.prog 17 [ca c,av s] H nx fun r H' nx'=>Row H' 1 r ((c.filter fun t=>cw s t).map av)∧(∀ x,x < nx→H' x=H x)∧nx ≤ nx':=by
 refine Abs.Fn.of_c2 follows yQ (bd rfl) ?_;simp only [b17,aK];have zz:=aI @bP (aI @bv (aI @aE @ax)); repeat' (first|refine zW ?_|refine zO ?_|refine vY ?_|refine bxY ?_|apply a_n)
 refine aA ev0 ev0 (uy c (fun t=>cw s t) 39 [.ptr (nx + 1) 1 0] [.iptr [av s] 0] hc _ _ (fun H' h=>aB (iI ((h (nx + 1) (by omega)).trans al) rfl (aB (aD _ _) ae)) ae) (fun t ht=>oS s t hs (hcs t ht))) ?_;rintro r H1 nx1 ⟨r1,r2,r3⟩;obtain ⟨o1,o2⟩:=r1.one;have zz:=aI @o1 @o2; repeat' (first|refine zO ?_|refine vY ?_|refine ai rfl ?_|refine r1Y ?_|apply a_n)
 exact ⟨r1,fun x hx=>(r2 x (by omega)).trans (by rw [au (by omega),au (by omega)]),by omega⟩
def bN (c:List Spx) (s:Spx):List Spx:=c.filter fun f=>cw s f
def fy (l:List Spx) (p:Vtx→Bool):List Spx:=(l.map fun f=>f.filter p).filter fun f=>decide (0 < f.length)
def fU (c:List Spx) (s:Spx):List Spx:=fo (fy (bN c s) fun v=>decide (v ∉ s))
theorem dA {c:List Spx} {s f:Spx}:f ∈ bN c s ↔ f ∈ c∧∀ v ∈ s,v ∈ f:=by
 unfold bN; rw [fR,dI]
theorem uG {L c:List Spx} {s:Spx} (h:∀ t ∈ L,t ∈ c) (hc:bl c s=false):bl L s=false:=by
 rw [← Bool.not_eq_true] at hc ⊢;refine fun h2=>hc ?_;obtain ⟨t,t1,t2⟩:=bB.1 h2;exact bB.2 ⟨t,h t t1,t2⟩
theorem r7 {L c:List Spx} (hc:aR c=0) (h:L.Sublist c):aR L=0:=by
 obtain ⟨c1,c2,c3,c4⟩:=bc hc;exact iS (dQ h.length_le c1) (fun s hs=>c2 s (h.subset hs)) (c3.sublist h) fun s hs=>uG (fun t ht=>h.subset ht) (c4 s (h.subset hs))
theorem dW {c:List Spx} {s:Spx} (hc:aR c=0):aR (bN c s)=0:=r7 hc List.filter_sublist
theorem j4 {c:List Spx} {s:Spx} (hc:aR c=0):fo (bN c s)=bN c s:=o8 (dW hc)
theorem kG {l:List Spx} {p:Vtx→Bool} {t:Spx}:t ∈ fy l p ↔ t ≠ []∧∃ f ∈ l,f.filter p=t:=by
 unfold fy;rw [fR,eE,gv,List.length_pos_iff];exact And.comm
theorem rp {f:Spx} {p:Vtx→Bool} (hf:bL f=0) (h:f.filter p ≠ []):bL (f.filter p)=0:=by
 obtain ⟨p1,p2,p3,p4⟩:=bQ hf;have hsub:(f.filter p).Sublist f:=List.filter_sublist;exact qY ⟨List.length_pos_iff.2 h,dQ hsub.length_le p2⟩ (p3.sublist hsub) fun v hv=>p4 v (hsub.subset hv)
theorem ph {l:List Spx} {p:Vtx→Bool} (hl:∀ f ∈ l,bL f=0):∀ t ∈ fy l p,bL t=0:=fun t ht=>by
 obtain ⟨h1,f,f1,rfl⟩:=kG.1 ht;exact rp (hl f f1) h1
theorem lv {l:List Spx} {p:Vtx→Bool}:(fy l p).length ≤ l.length:=by
 unfold fy;exact dQ (List.length_filter_le _ _) (by simp)
theorem gB {c:List Spx} {s t:Spx} (hc:aR c=0):t ∈ fU c s ↔ t ≠ []∧∃ f ∈ c,(∀ v ∈ s,v ∈ f)∧f.filter (fun v=>decide (v ∉ s))=t:=by
 obtain ⟨c1,c2,c3,c4⟩:=bc hc
 have hstar:t ∈ fy (bN c s) (fun v=>decide (v ∉ s)) ↔ t ≠ []∧∃ f ∈ c,(∀ v ∈ s,v ∈ f)∧f.filter (fun v=>decide (v ∉ s))=t:=by
  rw [kG];refine and_congr_right fun _=>⟨fun ⟨f,f1,f2⟩=>⟨f,(dA.1 f1).1,(dA.1 f1).2,f2⟩,fun ⟨f,f1,f2,f3⟩=>⟨f,dA.2 ⟨f1,f2⟩,f3⟩⟩
 unfold fU;rw [gF,hstar];refine ⟨fun h=>h.1,fun h=>⟨h,?_⟩⟩;rw [← Bool.not_eq_true];intro hcov;obtain ⟨u,u1,u2,u3⟩:=bB.1 hcov;obtain ⟨_,g,g1,rfl⟩:=kG.1 u1;obtain ⟨_,f,f1,f2,rfl⟩:=h;have hgc:=(dA.1 g1)
 have hfg:∀ v ∈ f,v ∈ g:=fun v hv=>by
  by_cases hs:v ∈ s
  ·exact hgc.2 v hs
  ·exact (fR.1 (u3 v (fR.2 ⟨hv,bD hs⟩))).1
 by_cases e:f=g
 ·subst e; omega
 ·have hlt:=sg (bQ (c2 f f1)).2.2.1 (bQ (c2 g hgc.1)).2.2.1 hfg e;have:=c4 f f1;rw [← Bool.not_eq_true] at this;exact this (bB.2 ⟨g,hgc.1,hlt,hfg⟩)
theorem po {s f:Spx} (hf:cr bm f) (h:∀ v ∈ s,v ∈ f):dh bm (s ++ f.filter fun v=>decide (v ∉ s))=f:=by
 refine fK lG (iw lG _) hf fun v=>?_;rw [fc,jk,fR,gv];constructor
 ·rintro (h1 | h1)
  ·exact h v h1
  ·exact h1.1
 ·intro h1;by_cases hs:v ∈ s
  ·exact .inl hs
  ·exact .inr ⟨h1,hs⟩
theorem uI {c:List Spx} {s:Spx} (hc:aR c=0) (hs:cr bm s) (hne:fU c s ≠ []):fo ((fU c s).map fun t=>dh bm (s ++ t))=bN c s:=by
 obtain ⟨c1,c2,c3,c4⟩:=bc hc
 have hmem:∀ f,f ∈ (fU c s).map (fun t=>dh bm (s ++ t)) ↔ f ∈ bN c s:=fun f=>by
  rw [eE,dA];constructor
  ·rintro ⟨t,t1,rfl⟩;obtain ⟨_,g,g1,g2,rfl⟩:=(gB hc).1 t1;rw [po (bQ (c2 g g1)).2.2.1 g2];exact ⟨g1,g2⟩
  ·rintro ⟨f1,f2⟩;refine ⟨f.filter fun v=>decide (v ∉ s),(gB hc).2 ⟨fun e=>hne ?_,f,f1,f2,rfl⟩,po (bQ (c2 f f1)).2.2.1 f2⟩
   have hfs:∀ v ∈ f,v ∈ s:=fun v hv=>Decidable.byContradiction fun h=>by
    have:v ∈ f.filter fun v=>decide (v ∉ s):=fR.2 ⟨hv,bD h⟩;rw [e] at this; cases this
   refine List.eq_nil_iff_forall_not_mem.2 fun t ht=>?_;obtain ⟨h0,g,g1,g2,rfl⟩:=(gB hc).1 ht;have hfg:∀ v ∈ f,v ∈ g:=fun v hv=>g2 v (hfs v hv);by_cases e2:f=g
   ·subst e2; exact h0 e
   ·have hlt:=sg (bQ (c2 f f1)).2.2.1 (bQ (c2 g g1)).2.2.1 hfg e2;have:=c4 f f1;rw [← Bool.not_eq_true] at this;exact this (bB.2 ⟨g,g1,hlt,hfg⟩)
 rw [rM hmem,j4 hc]
theorem wE {c:List Spx} {s f:Spx} (hc:aR c=0) (hf:f ∈ c) (hs:cr bm s) (hsf:∀ v ∈ s,v ∈ f) (h0:fU c s=[]):bN c s=[s]:=by
 obtain ⟨c1,c2,c3,c4⟩:=bc hc
 have hall:∀ g ∈ bN c s,g=s:=fun g hg=>by
  obtain ⟨g1,g2⟩:=dA.1 hg
  have e:g.filter (fun v=>decide (v ∉ s))=[]:=Decidable.byContradiction fun hne=>by
   have:=(gB hc).2 ⟨hne,g,g1,g2,rfl⟩;rw [h0] at this; cases this
  refine fK lG (bQ (c2 g g1)).2.2.1 hs fun v=>⟨fun hv=>Decidable.byContradiction fun h=>?_,g2 v⟩
  have:v ∈ g.filter fun v=>decide (v ∉ s):=fR.2 ⟨hv,bD h⟩;rw [e] at this; cases this
 have hfm:=dA.2 ⟨hf,hsf⟩;have hnd:(bN c s).Nodup:=cr.nodup oJ (c3.sublist List.filter_sublist);have hfe:=hall f hfm;rw [hfe] at hfm
 match hL:bN c s,hfm,hall,hnd with
 | [g],_,hall,_=>rw [hall g qj]
 | g :: k :: l,_,hall,hnd =>
  have e1:=hall g qj;have e2:=hall k (List.mem_cons_of_mem _ qj);rw [e1,e2] at hnd;exact absurd qj (List.nodup_cons.1 hnd).1
theorem sV {c:List Spx} {s:Spx} {v:Vtx} (hc:aR c=0) (hv:v ∈ s):fo (bN c [v] ++ bN c s)=bN c [v]:=by
 rw [← j4 (s:=[v]) hc];refine (rM fun f=>?_).trans rfl;rw [jk,j4 hc];refine ⟨fun h=>h.elim id fun h=>?_,.inl⟩;obtain ⟨h1,h2⟩:=dA.1 h;exact dA.2 ⟨h1,fun w hw=>by rw [fF.1 hw]; exact h2 v hv⟩
theorem qT {H:Hp} {r:AV} {l:List Spx} {b:Nat} (h:Row H 1 r (l.map av)) (hb:H b=some [.esl]):c7 r ≠ some b:=by
 generalize hcs:l.map av=cs at h;cases h with
 | nil=>exact fun e=>by cases e
 | box b' len cs k1 k2 =>
  intro e;cases e;rw [hb] at k1;have e2:=Option.some.inj k1;subst e2
  match l with
  | []=>simp at hcs
  | x :: l =>
   have e3:=(List.cons.inj hcs).1;unfold av fS at e3;cases e3
theorem dM {s:Spx} (h:bL s=0):cr bm s∧s.length ≤ 1000000:=⟨(bQ h).2.2.1,by have:=(bQ h).2.1; omega⟩
theorem fD {c:List Spx} (h:aR c=0):∀ t ∈ c,Shn t:=fun t ht=>by have:=(bQ ((bc h).2.1 t ht)).2.1; show _ ≤ _; omega
theorem tc (c:List Spx) (s:Spx) (hc:aR c=0) (hs:bL s=0):Pure Try.prog 16 [ca c,av s] (.int .i64 0):=by
 refine Pure.of_c2 follows z5 (bd rfl) ?_;simp only [b16,aK];have h1:=n6 c (show _ ≤ _ by have:=(bc hc).1; omega) (fD hc);have h2:=n8 s (show _ ≤ _ by have:=(dM hs).2; omega);rw [hc] at h1;rw [hs] at h2;have z0:decide ((0:Int) ≠ 0)=false:=rfl;have zz:=aI @aE (aI @ax @z0); repeat' (first|refine zW ?_|refine zO ?_|refine vY ?_|refine cY ?_ (hp:=by first | exact h1 | exact h2) (hs:=by (first | refine ac ?_ rfl | apply af); (repeat' (first | exact ae | apply am | apply ag | exact bF _ | exact aD _)); first | done | fail)|refine bxY ?_|refine cFY ?_|refine ai rfl ?_|refine r1Y ?_|apply a_n)
 exact .int _ _
theorem xc (c:List Spx) (s:Spx) (hc:aR c=0) (hs:bL s=0) (hne:bN c s ≠ []):Pure Try.prog 6 [ca c,av s] (.tup [ca (bN c s),.int .i64 0]):=by
 refine Pure.of_c2 follows is6 (bd rfl) ?_;simp only [b6,aK];have hpl:=tc c s hc hs;have z0:decide ((0:Int) ≠ 0)=false:=rfl;obtain ⟨c1,c2,c3,c4⟩:=bc hc;have zz:=aI @aE (aI @ax @z0); repeat' (first|refine zW ?_|refine zO ?_|refine vY ?_|refine cY ?_ (hp:=hpl) (hs:=by (first | refine ac ?_ rfl | apply af); (repeat' (first | exact ae | apply am | apply ag | exact bF _ | exact aD _)); first | done | fail)|refine alY ?_|refine bxY ?_|refine cFY ?_|apply a_n)
 refine aA ev0 ev0 (wD c s (by omega) (fun t h=>dM (c2 t h)) (dM hs) _ _) ?_;rintro r H1 nx1 ⟨r1,r2,r3⟩;have g1:H1 1=some [.esl]:=(r2 1 (by omega)).trans al;have hst:=dW (s:=s) hc;have hsm:=j4 (s:=s) hc
 have hco:=e7 (bN c s) (by have:=(bc hst).1; omega) (fun t ht=>by
  obtain ⟨p1,p2,p3,p4⟩:=bQ ((bc hst).2.1 t ht);exact ⟨p3,by omega,fun e=>by rw [e] at p1; simp at p1⟩)
 rw [hsm] at hco;change Row H1 1 r ((bN c s).map av) at r1;have hpos:=List.length_pos_iff.2 hne;generalize bN c s=L at *;have hls:=r1.lenS (n:=L.length) (by rw [dt,Nat.mul_one]) Nat.one_pos;have z:decide ((L.length:Int)=0)=false:=bw (by omega);have hb1:=qT r1 g1;obtain ⟨Hf,H4,hfz,hsn,hoth⟩:=wA r1;have g4:H4 1=some [.esl]:=(hoth 1 hb1).trans g1
 repeat' (first|refine zO ?_|refine vY ?_|apply a_n)
 refine dp (dp ?_);have zz:=aI @hls @z; repeat' (first|refine zO ?_|refine vY ?_|refine cFY ?_|apply a_n)
 refine dp ?_;refine kE Hf H4 [(4,.ptr 1 1 0),(7,ay L)] hfz ⟨.inl rfl,.inr hsn,trivial⟩ ?_;have zz:=aI @g4 (aI @aE @ax); repeat' (first|refine zO ?_|refine vY ?_|refine cY ?_ (hp:=hco) (hs:=by (first | refine ac ?_ rfl | apply af); (repeat' (first | exact ae | apply am | apply ag | exact bz _)); first | done | fail)|refine stY ?_|refine ai rfl ?_|refine r2Y ?_|apply a_n)
 exact lB (bz _).snap rfl
def szS (c:List Spx):Nat→Int × Bool
 | 0=>(-1,true)
 | k + 1=>(if (szS c k).1 < ((c.getD k default).length:Int) - 1 then ((c.getD k default).length:Int) - 1 else (szS c k).1,(szS c k).2 && (decide (k=0) || decide (((c.getD k default).length:Int) - 1=(szS c k).1)))
theorem wo {c:List Spx}:∀ {k:Nat},∀ i,i < k→((c.getD i default).length:Int) - 1 ≤ (szS c k).1
 | 0,i,h=>absurd h (by omega)
 | k + 1,i,h=>by
  unfold szS;rcases ig.1 h with h | rfl
  ·have:=wo (c:=c) i h;dsimp only; split <;> omega
  ·dsimp only; split <;> omega
theorem yK (c:List Spx) (hc:Shn c) (hs:∀ s ∈ c,Shn s):Pure Try.prog 13 [ca c] (.tup [.int .i64 (szS c c.length).1,.bool (szS c c.length).2]):=by
 refine Pure.of_c2 follows Bg (bd rfl) ?_;simp only [b13,aK];have hc':c.length ≤ 17592186044416:=hc;have zz:=aI @aE @ax; repeat' (first|refine zW ?_|refine zO ?_|refine vY ?_|refine bxY ?_|apply a_n)
 refine aU (X:=Nat) (fun k=>[(1,.ptr 0 1 0),(4,.int .i64 (szS c k).1),(5,.bool (szS c k).2),(6,.int .i64 k)]) (fun k H nx=>k ≤ c.length∧H 0=some [ay c]) (fun k=>c.length - k) 0 ⟨cP _,al⟩ (by (iterate 4 refine And.intro rfl ?_); trivial) ?_;rintro k H nx ⟨h1,g0⟩;by_cases hk:k < c.length
 rotate_left
 ·obtain rfl:k=c.length:=by omega
  have zz:=aI @g0 @ak; repeat' (first|refine zW ?_|apply a_x|refine zO ?_|refine vY ?_|(refine zGY ?_ ?_ <;> (intro _hg; try (exfalso; omega)))|refine ai rfl ?_|refine r2Y ?_|apply a_n)
  exact kw (aB (.int _ _) (aB (.bool _) ae))
 have ix:=eT hk;have hsl:(c.getD k default).length ≤ 17592186044416:=hs _ (aX hk);have e:szS c (k + 1)=(if (szS c k).1 < ((c.getD k default).length:Int) - 1 then ((c.getD k default).length:Int) - 1 else (szS c k).1,(szS c k).2 && (decide (k=0) || decide (((c.getD k default).length:Int) - 1=(szS c k).1))):=rfl;generalize c.getD k default=s at *;generalize szS c k=P at *;obtain ⟨m,p⟩:=P;dsimp only at e ⊢;by_cases hm:m < (s.length:Int) - 1
 ·have zm:decide (m < (s.length:Int) - 1)=true:=bD hm;rw [if_pos hm] at e;cases p
  ·rw [Bool.false_and] at e;have zz:=aI @g0 (aI @ix (aI @ak (aI @ar @zm))); repeat' (first|refine zW ?_|refine zO ?_|refine vY ?_|refine gFY ?_|refine cTY ?_|(refine zGY ?_ ?_ <;> (intro _hg; try (exfalso; omega)))|apply a_n)
   exact ⟨k + 1,by omega,⟨by omega,g0⟩,by rw [e]; (iterate 4 refine And.intro rfl ?_); trivial⟩
  ·rw [Bool.true_and] at e;by_cases hk0:k=0
   ·have zk:decide ((k:Int)=0)=true:=bD (by omega);rw [bD hk0,Bool.true_or] at e;have zz:=aI @g0 (aI @ix (aI @ak (aI @ar (aI @zm @zk)))); repeat' (first|refine zW ?_|refine zO ?_|refine vY ?_|refine gTY ?_|refine gFY ?_|refine cTY ?_|(refine zGY ?_ ?_ <;> (intro _hg; try (exfalso; omega)))|apply a_n)
    exact ⟨k + 1,by omega,⟨by omega,g0⟩,by rw [e]; (iterate 4 refine And.intro rfl ?_); trivial⟩
   ·have zk:decide ((k:Int)=0)=false:=bw (by omega);rw [bw hk0,Bool.false_or] at e;have zz:=aI @g0 (aI @ix (aI @ak (aI @ar (aI @zm @zk)))); repeat' (first|refine zW ?_|refine zO ?_|refine vY ?_|refine gTY ?_|refine cTY ?_|(refine zGY ?_ ?_ <;> (intro _hg; try (exfalso; omega)))|apply a_n)
    exact ⟨k + 1,by omega,⟨by omega,g0⟩,by rw [e]; (iterate 4 refine And.intro rfl ?_); trivial⟩
 ·have zm:decide (m < (s.length:Int) - 1)=false:=bw hm;rw [if_neg hm] at e;cases p
  ·rw [Bool.false_and] at e;have zz:=aI @g0 (aI @ix (aI @ak (aI @ar @zm))); repeat' (first|refine zW ?_|refine zO ?_|refine vY ?_|refine gFY ?_|refine cFY ?_|(refine zGY ?_ ?_ <;> (intro _hg; try (exfalso; omega)))|apply a_n)
   exact ⟨k + 1,by omega,⟨by omega,g0⟩,by rw [e]; (iterate 4 refine And.intro rfl ?_); trivial⟩
  ·rw [Bool.true_and] at e;by_cases hk0:k=0
   ·have zk:decide ((k:Int)=0)=true:=bD (by omega);rw [bD hk0,Bool.true_or] at e;have zz:=aI @g0 (aI @ix (aI @ak (aI @ar (aI @zm @zk)))); repeat' (first|refine zW ?_|refine zO ?_|refine vY ?_|refine gTY ?_|refine gFY ?_|refine cFY ?_|(refine zGY ?_ ?_ <;> (intro _hg; try (exfalso; omega)))|apply a_n)
    exact ⟨k + 1,by omega,⟨by omega,g0⟩,by rw [e]; (iterate 4 refine And.intro rfl ?_); trivial⟩
   ·have zk:decide ((k:Int)=0)=false:=bw (by omega);rw [bw hk0,Bool.false_or] at e;have zz:=aI @g0 (aI @ix (aI @ak (aI @ar (aI @zm @zk)))); repeat' (first|refine zW ?_|refine zO ?_|refine vY ?_|refine gTY ?_|refine cFY ?_|(refine zGY ?_ ?_ <;> (intro _hg; try (exfalso; omega)))|apply a_n)
    exact ⟨k + 1,by omega,⟨by omega,g0⟩,by rw [e]; (iterate 4 refine And.intro rfl ?_); trivial⟩
def wj (c:List Spx):Bool:=jc c && decide (aR c=0) && decide (c.length ≤ 12) && decide ((szS c c.length).1 ≤ 3)
theorem wz {c:List Spx} (h:wj c=true):jc c=true∧aR c=0∧c.length ≤ 12∧∀ s ∈ c,s.length ≤ 4:=by
 unfold wj at h;simp only [d8,gv] at h;refine ⟨h.1.1.1,h.1.1.2,h.1.2,fun s hs=>?_⟩;obtain ⟨i,hi,e⟩:=lh hs;have:=wo (c:=c) i hi;rw [show c.getD i default=s by simp [List.getD,hi,e]] at this;omega
theorem yH (c:List Spx) (hc:Shn c∧∀ s ∈ c,Shn s):Pure Try.prog 5 [ca c] (.bool (wj c)):=by
 refine Pure.of_c2 follows is5 (bd rfl) ?_;simp only [b5,aK];have hc':c.length ≤ 17592186044416:=hc.1;have h1:=yK c hc.1 hc.2;have h2:=xi c hc.1 hc.2;have h3:=xw c hc.1 hc.2;unfold wj;generalize szS c c.length=P at *;obtain ⟨m,p⟩:=P;dsimp only at h1 ⊢;cases hf:jc c
 ·rw [hf] at h2;have zz:=aI @aE @ax; repeat' (first|refine zW ?_|refine zO ?_|refine vY ?_|refine cY ?_ (hp:=by first | exact h1 | exact h2 | exact h3) (hs:=by (first | refine ac ?_ rfl | apply af); (repeat' (first | exact ae | apply am | apply ag | exact bF _)); first | done | fail)|refine bxY ?_|refine gFY ?_|refine ai rfl ?_|refine r1Y ?_|apply a_n)
  exact .bool _
 rw [hf] at h2;by_cases he:aR c=0
 rotate_left
 ·have z:decide (aR c=0)=false:=bw he;rw [z];have zz:=aI @aE (aI @ax @z); repeat' (first|refine zW ?_|refine zO ?_|refine vY ?_|refine cY ?_ (hp:=by first | exact h1 | exact h2 | exact h3) (hs:=by (first | refine ac ?_ rfl | apply af); (repeat' (first | exact ae | apply am | apply ag | exact bF _)); first | done | fail)|refine bxY ?_|refine gTY ?_|refine gFY ?_|refine ai rfl ?_|refine r1Y ?_|apply a_n)
  exact .bool _
 rw [he] at h3;rw [bD he];have z0:decide ((0:Int)=0)=true:=rfl;by_cases hl:c.length ≤ 12
 rotate_left
 ·have z:decide ((c.length:Int) ≤ 12)=false:=bw (by omega);rw [bw hl];have zz:=aI @aE (aI @ax (aI @ak (aI @z @z0))); repeat' (first|refine zW ?_|refine zO ?_|refine vY ?_|refine cY ?_ (hp:=by first | exact h1 | exact h2 | exact h3) (hs:=by (first | refine ac ?_ rfl | apply af); (repeat' (first | exact ae | apply am | apply ag | exact bF _)); first | done | fail)|refine bxY ?_|refine gTY ?_|refine gFY ?_|(refine zGY ?_ ?_ <;> (intro _hg; try (exfalso; omega)))|refine ai rfl ?_|refine r1Y ?_|apply a_n)
  exact .bool _
 have z:decide ((c.length:Int) ≤ 12)=true:=bD (by omega);rw [bD hl];have zz:=aI @aE (aI @ax (aI @ak (aI @z @z0))); repeat' (first|refine zW ?_|refine zO ?_|refine vY ?_|refine cY ?_ (hp:=by first | exact h1 | exact h2 | exact h3) (hs:=by (first | refine ac ?_ rfl | apply af); (repeat' (first | exact ae | apply am | apply ag | exact bF _)); first | done | fail)|refine bxY ?_|refine gTY ?_|(refine zGY ?_ ?_ <;> (intro _hg; try (exfalso; omega)))|refine ai rfl ?_|refine r1Y ?_|apply a_n)
 exact bZ (by simp)
end Go.Proofs.Ytpfkjcjgdilkkaa
namespace Go.Proofs.Ytpfkjcjgdilkkaa
open Go Go.Abs
open Nat (reduceEqDiff reduceAdd reduceLeDiff)
section
variable {P:Program} {T:Tm} {H:Hp} {nx:Nat}
theorem zf {dm:DM} {K:SP} {l:List Op2} {d:Option Nat} {sz bytes:Nat} {z:List AV} {s x:Opd} {k:IntKind} {n:Int} (hd:dm2 dm T (.apz sz bytes z s x)=true) (hs:ov T s=.esl) (hx:ov T x=.int k n) (h0:0 < n) (h1:n ≤ 9223372036854775807) (h2:n.toNat * bytes ≤ 140737488355328)
    (kk:aq P dm l (aH T d (.msl nx (n.toNat * sz) sz 0 n.toNat)) (aj H nx (bb (.agg z) n.toNat)) (nx + 1) K):aq P dm (⟨d,none,.apz sz bytes z s x⟩ :: l) T H nx K:=by
 refine kA rfl hd ?_ kk;simp only [e9,hs,hx];rw [if_pos ⟨h0,h1,h2⟩]
end
theorem tL (T:Tm) (H:Hp) (x:Opd):ba T H (.capE x)=match ov T x with | .esl=>some (.int .i64 0) | _=>none:=rfl
theorem xm (n:Nat):(bb (.agg [.int .i64 0,.int .i64 0]) n).length=n * 2:=by simp [bb,AV.cells]
attribute [local irreducible] aO aq bI bM bk bx aM bA bR cz Go.Abs.Fn bK Go.Abs.Pure aQ a7 Yl
theorem xf (n:Nat) (h0:0 < n) (h1:n ≤ 1000000) (H:Hp) (nx:Nat):Abs.Fn Try.prog 66 [.esl,.int .i64 n] H nx fun r H' nx'=>r=.msl nx (n * 2) 2 0 0∧H'=aj H nx (bb (.agg [.int .i64 0,.int .i64 0]) n)∧nx'=nx + 1:=by
 refine Abs.Fn.of_c2 follows AQ (bd rfl) ?_;simp only [b66,aK];have z1:decide ((n:Int) < 0)=false:=bw (by omega);have z2:decide ((0:Int) < n)=true:=bD (by omega);have s2:jD 2 .esl none (some (.int .i64 0)) none=some .esl:=rfl;have s3:=nj (B:=nx) (n:=n * 2) (len:=n) (k:=0) (by omega) (by omega);rw [show ((0:Nat):Int)=0 from rfl] at s3;have zz:=aI @z1 (aI @z2 (aI @s2 (aI @Int.sub_zero (aI @Int.sub_self @tL)))); repeat' (first|refine zW ?_|refine zO ?_|refine vY ?_|refine cTY ?_|refine cFY ?_|apply a_n)
 refine zf rfl (have zz:=@s2; evY) ev0 (by omega) (by omega) (by omega) ?_;have zz:=@s3; repeat' (first|refine zW ?_|refine zO ?_|refine vY ?_|refine ai rfl ?_|refine r1Y ?_|apply a_n)
 exact ⟨rfl,rfl,rfl⟩
theorem xP (H:Hp) (nx:Nat):Abs.Fn Try.prog 66 [.esl,.int .i64 0] H nx fun r H' nx'=>r=.esl∧H'=H∧nx'=nx:=by
 refine Abs.Fn.of_c2 follows AQ (bd rfl) ?_;simp only [b66,aK];have zz:=aI @Int.sub_zero (aI @Int.sub_self @tL); repeat' (first|refine zW ?_|refine zO ?_|refine vY ?_|(refine zGY ?_ ?_ <;> (intro _hg; try (exfalso; omega)))|refine ai rfl ?_|refine r1Y ?_|apply a_n)
 exact ⟨rfl,rfl,rfl⟩
theorem qa {c:List Spx} {k:Nat} (hk:k < c.length):(c.take (k + 1)).flatten=(c.take k).flatten ++ c.getD k default:=by
 rw [cH hk,List.flatten_append]; simp
theorem ux (c:List Spx) (h0:c ≠ []) (hs:∀ s ∈ c,s ≠ []) (hl:c.flatten.length ≤ 1000000) (hc:c.length ≤ 1000000) (H:Hp) (nx:Nat) :
    Abs.Fn Try.prog 48 [ay c] H nx fun r H' nx'=>r=.msl nx (c.flatten.length * 2) 2 0 c.flatten.length∧H'=aj H nx (cX c.flatten)∧nx'=nx + 1:=by
 refine Abs.Fn.of_c2 follows A0 (bd rfl) ?_;simp only [b48,aK]
 have hpos:0 < c.flatten.length:=by
  rw [List.length_pos_iff];intro e;obtain ⟨s,hm⟩:=List.exists_mem_of_ne_nil c h0;exact hs s hm (List.flatten_eq_nil_iff.1 e s hm)
 have hle:∀ k,(c.take k).flatten.length ≤ c.flatten.length:=fun k=>by
  have:c.flatten=(c.take k).flatten ++ (c.drop k).flatten:=by rw [← List.flatten_append,List.take_append_drop]
  rw [this,ea]; omega
 refine dp ?_
 repeat' (first|refine zO ?_|refine vY ?_|apply a_n)
 refine dp ?_
 repeat' (first|refine zO ?_|refine vY ?_|apply a_n)
 refine aZ (fun T H' nx'=>T 0=ay c∧T 3=.int .i64 (c.flatten.length:Nat)∧H=H'∧nx=nx') ?_ ?_
 ·have zz:=@ak; repeat' (first|refine zW ?_|refine zO ?_|refine vY ?_|apply a_n)
  refine yi (X:=Nat) (fun k=>[(0,ay c),(3,.int .i64 ((c.take k).flatten.length:Nat)),(9,ay c),(10,.int .i64 c.length),(11,.int .i64 (k:Nat))]) (fun k=>k ≤ c.length) (fun k=>c.length - k) 0 (by omega) (by simp (disch:=omega) only [agr,ZG,reduceEqDiff,↓reduceIte,List.take_zero,List.flatten_nil,er] <;> simp) ?_;intro k hk;by_cases hk2:k < c.length
  rotate_left
  ·rw [iJ (by omega)]
   repeat' (first|refine zW ?_|apply a_x|refine zO ?_|refine vY ?_|(refine zGY ?_ ?_ <;> (intro _hg; try (exfalso; omega)))|apply a_n)
   exact ⟨rfl,rfl,rfl,rfl⟩
  have ix:=eT hk2;have hle2:=hle (k + 1);have e:(((c.take (k + 1)).flatten.length:Nat):Int)=((c.take k).flatten.length:Nat) + ((c.getD k default).length:Nat):=by rw [qa hk2,ea]; omega
  rw [qa hk2,ea] at hle2;have z:decide ((((c.take k).flatten.length:Nat):Int) + ((c.getD k default).length:Nat) < 0)=false:=bw (by omega);generalize c.getD k default=s at *;have zz:=aI @ix (aI @ar @z); repeat' (first|refine zW ?_|refine zO ?_|refine vY ?_|refine cFY ?_|(refine zGY ?_ ?_ <;> (intro _hg; try (exfalso; omega)))|apply a_n)
  exact ⟨k + 1,by omega,by omega,(have zz:=@e; agZ),rfl,rfl⟩
 rintro T _ _ ⟨t0,t3,rfl,rfl⟩;have zz:=@t3; repeat' (first|refine zW ?_|refine zO ?_|refine vY ?_|apply a_n)
 refine aA ev0 (have zz:=@t3; evY) (xf c.flatten.length (by omega) (by omega) H nx) ?_;rintro _ _ _ ⟨rfl,rfl,rfl⟩;have zz:=aI @t0 @ak; repeat' (first|refine zW ?_|refine zO ?_|refine vY ?_|apply a_n)
 refine aU (X:=Nat) (fun k=>[(6,.msl nx (c.flatten.length * 2) 2 0 (c.take k).flatten.length),(25,ay c),(26,.int .i64 c.length),(27,.int .i64 (k:Nat))]) (fun k H' nx'=>k ≤ c.length∧(∃ C,H'=aj H nx C∧C.length=c.flatten.length * 2∧C.take ((c.take k).flatten.length * 2)=cX (c.take k).flatten)∧nx'=nx + 1) (fun k=>c.length - k) 0 ⟨by omega,⟨_,rfl,xm _,rfl⟩,rfl⟩ (by simp (disch:=omega) only [agr,ZG,reduceEqDiff,↓reduceIte,List.take_zero,List.flatten_nil,er]) ?_;rintro k _ _ ⟨hk,⟨C,rfl,h1,h2⟩,rfl⟩;by_cases hk2:k < c.length
 rotate_left
 ·have ek:c.take k=c:=iJ (by omega);rw [ek] at h2 ⊢;rw [iJ (by omega)] at h2;subst h2
  repeat' (first|refine zW ?_|apply a_x|refine zO ?_|refine vY ?_|(refine zGY ?_ ?_ <;> (intro _hg; try (exfalso; omega)))|refine ai rfl ?_|refine r1Y ?_|apply a_n)
  exact ⟨rfl,rfl,rfl⟩
 have ix:=eT hk2;have hle2:=hle (k + 1);have e:=qa hk2;have hsp:0 < (c.getD k default).length:=List.length_pos_iff.2 (hs _ (aX hk2));rw [e,ea] at hle2;have hcl:=fN (c.getD k default);have hcp:=fN (c.take k).flatten;generalize c.getD k default=s at *;have zz:=@ix; repeat' (first|refine zW ?_|refine zO ?_|refine vY ?_|(refine zGY ?_ ?_ <;> (intro _hg; try (exfalso; omega)))|apply a_n)
 refine yW (b:=nx) (m:=c.flatten.length * 2) (off:=0) (len:=(c.take k).flatten.length) (n:=s.length) (cs:=C) rfl ev0 al ev0 vW (pG _) h1 (fun _=>by omega) (by omega) (by omega) ?_
 repeat' (first|refine zO ?_|refine vY ?_|apply a_n)
 refine ⟨k + 1,by omega,⟨by omega,⟨_,ap _ _ _ _,?_,?_⟩,rfl⟩,by simp (disch:=omega) only [agr,ZG,reduceEqDiff,↓reduceIte,e,ea]⟩
 ·simp only [bn,ea,il,List.length_drop,hcl,h1];omega
 ·rw [e,kH,ea,← h2];simp only [bn,bU];rw [List.take_append_of_le_length (by rw [ea,il,h1,hcl]; omega),iJ (by rw [ea,il,h1,hcl]; omega)]
theorem uH (H:Hp) (nx:Nat):Abs.Fn Try.prog 48 [ay []] H nx fun r H' nx'=>r=.esl∧H'=H∧nx'=nx:=by
 refine Abs.Fn.of_c2 follows A0 (bd rfl) ?_;simp only [b48,aK];have hal:cU (ay [])=some (.int .i64 0):=rfl;have zz:=@hal; repeat' (first|refine zW ?_|refine zO ?_|refine vY ?_|apply a_n)
 refine aU (X:=Unit) (fun _=>[(0,ay []),(3,.int .i64 0),(9,ay []),(10,.int .i64 0),(11,.int .i64 0)]) (fun _ H' nx'=>H'=H∧nx'=nx) (fun _=>0) () ⟨rfl,rfl⟩ ag0 ?_;rintro _ _ _ ⟨rfl,rfl⟩
 repeat' (first|refine zW ?_|apply a_x|refine zO ?_|refine vY ?_|(refine zGY ?_ ?_ <;> (intro _hg; try (exfalso; omega)))|apply a_n)
 refine aA ev0 ev0 (xP _ _) ?_;rintro _ Ha na ⟨rfl,rfl,rfl⟩;have zz:=@hal; repeat' (first|refine zW ?_|refine zO ?_|refine vY ?_|apply a_n)
 refine aU (X:=Unit) (fun _=>[(6,.esl),(25,ay []),(26,.int .i64 0),(27,.int .i64 0)]) (fun _ H1 nx1=>H1=Ha∧nx1=na) (fun _=>0) () ⟨rfl,rfl⟩ ag0 ?_;rintro _ _ _ ⟨rfl,rfl⟩
 repeat' (first|refine zW ?_|apply a_x|refine zO ?_|refine vY ?_|(refine zGY ?_ ?_ <;> (intro _hg; try (exfalso; omega)))|refine ai rfl ?_|refine r1Y ?_|apply a_n)
 exact ⟨rfl,rfl,rfl⟩
theorem vM {v w:Vtx}:bO [v] [w]=bm v w:=by
 rw [ul];split
 ·rfl
 ·rename_i h;have:=oM h;rw [this]; rfl
theorem vI (v w:Vtx):Pure Try.prog 50 [bV v,bV w] (.int .i64 (bm v w)):=by
 refine Pure.of_c2 follows Bj (bd rfl) ?_;simp only [b50,aK];have hc:=je [v] [w] (show 1 ≤ _ by omega) (show 1 ≤ _ by omega);rw [vM] at hc
 repeat' (first|refine zW ?_|refine zO ?_|refine vY ?_|refine bxY ?_|refine blY ?_|apply a_n)
 refine dS ev0 ev0 hc (ac (aB (qs (Row.box 2 1 (cX [v]) ?_ rfl)) (aB (qs (Row.box 3 1 (cX [w]) ?_ rfl)) ae)) rfl) ?_
 ·rw [au (by omega),al]; rfl
 ·rw [al]; rfl
 repeat' (first|refine zO ?_|refine vY ?_|refine ai rfl ?_|refine r1Y ?_|apply a_n)
 exact .int _ _
theorem zG:Cmp2 Try.prog bV bm (fun _=>True) 50 [] where
 len _:=rfl
 agg _:=rfl
 ones _:=rfl
 dat x:=bW x
 dcaps x hx:=by cases hx
 run x y _ _:=vI x y
 ord:=lG.ord
theorem sU (H:Hp) (nx:Nat):Abs.Fn Try.prog 51 [.esl] H nx fun r H' nx'=>r=.esl∧H'=H∧nx'=nx:=by
 refine Abs.Fn.of_c2 follows yr (bd rfl) ?_;simp only [b51,aK]
 repeat' (first|refine zW ?_|apply a_r|refine zO ?_|refine vY ?_|(refine zGY ?_ ?_ <;> (intro _hg; try (exfalso; omega)))|refine ai rfl ?_|refine r1Y ?_|apply a_n)
 exact ⟨rfl,rfl,rfl⟩
theorem nI (c:List Spx) (hs:∀ s ∈ c,s ≠ []) (hl:c.flatten.length ≤ 100000) (hc:c.length ≤ 100000):Pure Try.prog 25 [ay c] (av (dh bm c.flatten)):=by
 refine Pure.of_c2 follows Bk (bd rfl) ?_;simp only [b25,aK];by_cases h0:c=[]
 ·subst h0
  repeat' (first|refine zW ?_|refine zO ?_|refine vY ?_|apply a_n)
  refine aA ev0 ev0 (uH _ _) ?_;rintro _ _ _ ⟨rfl,rfl,rfl⟩
  repeat' (first|refine zW ?_|refine zO ?_|refine vY ?_|apply a_n)
  refine aA ev0 ev0 v4 ?_;rintro _ _ _ ⟨rfl,rfl⟩
  repeat' (first|refine zW ?_|refine zO ?_|refine vY ?_|apply a_n)
  refine aA ev0 ev0 (sU _ _) ?_;rintro _ _ _ ⟨rfl,rfl,rfl⟩
  repeat' (first|refine zO ?_|refine vY ?_|refine ai rfl ?_|refine r1Y ?_|apply a_n)
  exact .eslsl 2
 have hpos:0 < c.flatten.length:=by
  rw [List.length_pos_iff];intro e;obtain ⟨s,hm⟩:=List.exists_mem_of_ne_nil c h0;exact hs s hm (List.flatten_eq_nil_iff.1 e s hm)
 repeat' (first|refine zW ?_|refine zO ?_|refine vY ?_|apply a_n)
 refine aA ev0 ev0 (ux c h0 hs (by omega) (by omega) _ _) ?_;rintro _ _ _ ⟨rfl,rfl,rfl⟩;generalize c.flatten=M at *
 repeat' (first|refine zW ?_|refine zO ?_|refine vY ?_|apply a_n)
 refine aA ev0 ev0 (xg zG (L:=M) (b:=0) (n:=M.length) al (by omega) rfl hpos (fun _ _=>trivial) (by omega)) ?_;rintro _ H3 nx3 ⟨L,ps,hperm,hsort⟩;have hLl:L.length=M.length:=hperm.length_eq;have hL0:L ≠ []:=fun e=>by rw [e] at hLl; simp at hLl; omega
 have hB3:H3 0=some (cX L):=ps.at_;rw [← hLl]
 repeat' (first|refine zW ?_|refine zO ?_|refine vY ?_|apply a_n)
 refine aA ev0 ev0 (sk L (show _ ≤ _ by omega) hL0 H3 0 nx3 hB3 (by have:=ps.le; omega)) ?_;rintro _ H4 nx4 ⟨rfl,⟨C,rfl,c1,c2⟩,rfl⟩;have hd:dy L L.length=dh bm M:=pn lG hperm (by rw [hLl]; exact hsort);rw [hd] at c2;have hle:=rF L L.length;have hdl:=o6 L L.length;rw [hd] at hdl
 repeat' (first|refine zO ?_|refine vY ?_|refine ai rfl ?_|refine r1Y ?_|apply a_n)
 exact sC al c1 (by omega) hdl c2
end Go.Proofs.Ytpfkjcjgdilkkaa
namespace Go.Proofs.Ytpfkjcjgdilkkaa
open Go Go.Abs
theorem tE {H:Hp} {s:AV} {l:Spx} (h:Row H 2 s (cX l)):∃ Hf H',Fz Hf H H'∧Snap Hf s (av l)∧∀ x,c7 s ≠ some x→H' x=H x:=by
 generalize hcs:cX l=cs at h;cases h with
 | nil =>
  have:l=[]:=by
   have:=fN l;rw [hcs] at this;exact eF.1 (by simp at this; omega)
  subst this;exact ⟨a9,H,Fz.none,.eslsl 2,fun _ _=>rfl⟩
 | box b len cs k1 k2 =>
  refine ⟨only b cs,cb H b,Fz.one k1,qs (by rw [hcs]; exact Row.box b len cs f7 k2),fun x hx=>fG (fun e=>hx (by rw [e]; rfl))⟩
attribute [local irreducible] aO aq bI bM bk bx aM bA bR cz Go.Abs.Fn bK Go.Abs.Pure aQ a7 Yl
theorem uA (l:Spx) (p:Vtx→Bool) (g:Nat) (caps caps':List AV) (hl:l.length ≤ 1000000) (H:Hp) (nx:Nat) (hcap:∀ H':Hp,(∀ x,x < nx→H' x=H x)→a7 H' caps caps') (hg:∀ x ∈ l,Pure Try.prog g (bV x :: caps') (.bool (p x))) :
    Abs.Fn Try.prog 46 [av l,.func g caps] H nx fun r H' nx'=>Row H' 2 r (cX (l.filter p))∧(∀ x,x < nx→H' x=H x)∧nx ≤ nx'∧∀ d,c7 r=some d→nx ≤ d∧d < nx':=by
 refine Abs.Fn.of_c2 follows zt (bd rfl) ?_;simp only [b46,aK];have zz:=@ar; repeat' (first|refine zW ?_|refine zO ?_|refine vY ?_|apply a_n)
 refine aU (X:=Nat × AV) (fun x=>[(1,.func g caps),(5,x.2),(8,av l),(9,.int .i64 l.length),(10,.int .i64 x.1)]) (fun x H' nx'=>x.1 ≤ l.length∧nx ≤ nx'∧(∀ y,y < nx→H' y=H y)∧Row H' 2 x.2 (cX ((l.take x.1).filter p))∧∀ b,c7 x.2=some b→nx ≤ b∧b < nx') (fun x=>l.length - x.1) (0,.esl) ⟨cP _,aJ _,fun _ _=>rfl,Row.nil,fun b h=>(by cases h)⟩ (by (iterate 5 refine And.intro rfl ?_); trivial) ?_;rintro ⟨k,sv⟩ H1 nx1 ⟨h1,h2,h3,hrow,hbd⟩;dsimp only at h1 hrow hbd ⊢;obtain ⟨o1,o2⟩:=hrow.one;by_cases hk:k < l.length
 rotate_left
 ·rw [iJ (by omega)] at hrow;have zz:=aI @o1 @o2; repeat' (first|refine zW ?_|apply a_x|refine zO ?_|refine vY ?_|(refine zGY ?_ ?_ <;> (intro _hg; try (exfalso; omega)))|refine ai rfl ?_|refine r1Y ?_|apply a_n)
  exact ⟨hrow,h3,h2,hbd⟩
 have ix:=ix2 hk;have hp:=hg _ (aX hk)
 have hft:(l.take (k + 1)).filter p=(l.take k).filter p ++ if p (l.getD k default)=true then [l.getD k default] else []:=by
  rw [cH hk,List.filter_append];cases h:p (l.getD k default)
  ·rw [List.filter_cons_of_neg (by rw [h]; decide),List.filter_nil,if_neg (by decide)]
  ·rw [List.filter_cons_of_pos h,List.filter_nil,if_pos rfl]
 have hcl:=fN ((l.take k).filter p);have hfl:((l.take k).filter p).length ≤ l.length:=dQ (List.length_filter_le _ _) (by rw [il]; omega);generalize l.getD k default=v at *;have zz:=@ix; repeat' (first|refine zW ?_|refine zO ?_|refine vY ?_|refine alY ?_|refine stY ?_|(refine zGY ?_ ?_ <;> (intro _hg; try (exfalso; omega)))|apply a_n)
 refine dS ev0 ev0 hp (ac (aB (bW _ _) (hcap _ fun x hx=>by (repeat rw [au (by omega)]); exact h3 x hx)) rfl) ?_;cases hpv:p v
 ·rw [hpv,if_neg (by decide),mo] at hft;have zz:=aI @o1 @o2; repeat' (first|refine zO ?_|refine vY ?_|refine cFY ?_|apply a_n)
  refine ⟨(k + 1,sv),by dsimp only; omega,⟨by dsimp only; omega,by omega,fun y hy=>by (repeat rw [au (by omega)]); exact h3 y hy,by dsimp only; rw [hft]; exact hrow.same fun b hb=>by have:=hbd b hb; (repeat rw [au (by omega)]),fun b hb=>by have:=hbd b hb; omega⟩,ag0⟩
 ·rw [hpv,if_pos rfl] at hft;have zz:=aI @o1 @o2; repeat' (first|refine zO ?_|refine vY ?_|refine blY ?_|refine cTY ?_|apply a_n)
  refine iq rfl ev0 (hrow.same fun b hb=>?_) ev0 o5 rfl rfl (by omega) (by omega) (by omega) ?_
  ·have:=hbd b hb; (repeat rw [au (by omega)])
  rintro s2 H2 nx2 hr2 i1 i2 i3 i4;obtain ⟨o3,o4⟩:=hr2.one;have zz:=aI @o3 @o4; repeat' (first|refine zO ?_|refine vY ?_|apply a_n)
  refine ⟨(k + 1,s2),by dsimp only; omega,⟨by dsimp only; omega,by omega,fun y hy=>?_,?_,fun b hb=>?_⟩,ag0⟩
  ·rw [i3 y (by omega) (fun h=>by have:=hbd _ h; omega)]; (repeat rw [au (by omega)]); exact h3 y hy
  ·dsimp only;rw [hft,kH]; exact hr2
  ·rcases i4 b hb with h | h
   ·have:=hbd b h; omega
   ·omega
theorem sZ (l:List Spx) (p:Spx→Bool) (g:Nat) (caps caps':List AV) (hl:l.length ≤ 1000000) (H:Hp) (nx:Nat) (hcap:∀ H':Hp,(∀ x,x < nx→H' x=H x)→a7 H' caps caps') (hg:∀ x ∈ l,Pure Try.prog g (av x :: caps') (.bool (p x))) :
    Abs.Fn Try.prog 38 [ay l,.func g caps] H nx fun r H' nx'=>Row H' 1 r ((l.filter p).map av)∧(∀ x,x < nx→H' x=H x)∧nx ≤ nx'∧∀ d,c7 r=some d→nx ≤ d∧d < nx':=by
 refine Abs.Fn.of_c2 follows yp (bd rfl) ?_;simp only [b38,aK];have zz:=@ak; repeat' (first|refine zW ?_|refine zO ?_|refine vY ?_|apply a_n)
 refine aU (X:=Nat × AV) (fun x=>[(1,.func g caps),(5,x.2),(8,ay l),(9,.int .i64 l.length),(10,.int .i64 x.1)]) (fun x H' nx'=>x.1 ≤ l.length∧nx ≤ nx'∧(∀ y,y < nx→H' y=H y)∧Row H' 1 x.2 (((l.take x.1).filter p).map av)∧∀ b,c7 x.2=some b→nx ≤ b∧b < nx') (fun x=>l.length - x.1) (0,.esl) ⟨cP _,aJ _,fun _ _=>rfl,Row.nil,fun b h=>(by cases h)⟩ (by (iterate 5 refine And.intro rfl ?_); trivial) ?_;rintro ⟨k,sv⟩ H1 nx1 ⟨h1,h2,h3,hrow,hbd⟩;dsimp only at h1 hrow hbd ⊢;obtain ⟨o1,o2⟩:=hrow.one;by_cases hk:k < l.length
 rotate_left
 ·rw [iJ (by omega)] at hrow;have zz:=aI @o1 @o2; repeat' (first|refine zW ?_|apply a_x|refine zO ?_|refine vY ?_|(refine zGY ?_ ?_ <;> (intro _hg; try (exfalso; omega)))|refine ai rfl ?_|refine r1Y ?_|apply a_n)
  exact ⟨hrow,h3,h2,hbd⟩
 have ix:=eT hk;have hp:=hg _ (aX hk)
 have hft:(l.take (k + 1)).filter p=(l.take k).filter p ++ if p (l.getD k default)=true then [l.getD k default] else []:=by
  rw [cH hk,List.filter_append];cases h:p (l.getD k default)
  ·rw [List.filter_cons_of_neg (by rw [h]; decide),List.filter_nil,if_neg (by decide)]
  ·rw [List.filter_cons_of_pos h,List.filter_nil,if_pos rfl]
 have hfl:((l.take k).filter p).length ≤ l.length:=dQ (List.length_filter_le _ _) (by rw [il]; omega);generalize l.getD k default=v at *;have zz:=@ix; repeat' (first|refine zW ?_|refine zO ?_|refine vY ?_|(refine zGY ?_ ?_ <;> (intro _hg; try (exfalso; omega)))|apply a_n)
 refine dS ev0 ev0 hp (ac (aB (aD _ _) (hcap _ h3)) rfl) ?_;cases hpv:p v
 ·rw [hpv,if_neg (by decide),mo] at hft;have zz:=aI @o1 @o2; repeat' (first|refine zO ?_|refine vY ?_|refine cFY ?_|apply a_n)
  refine ⟨(k + 1,sv),by dsimp only; omega,⟨by dsimp only; omega,h2,h3,by dsimp only; rw [hft]; exact hrow,hbd⟩,ag0⟩
 ·rw [hpv,if_pos rfl] at hft;have zz:=aI @o1 (aI @o2 (aI @bP @bv)); repeat' (first|refine zO ?_|refine vY ?_|refine blY ?_|refine cTY ?_|apply a_n)
  refine iq rfl ev0 (hrow.same fun b hb=>?_) ev0 gI rfl rfl Nat.one_pos (by rw [dt]; omega) (by rw [dt]; omega) ?_
  ·have:=hbd b hb; rw [au (by omega)]
  rintro s2 H2 nx2 hr2 i1 i2 i3 i4;obtain ⟨o3,o4⟩:=hr2.one;have zz:=aI @o3 @o4; repeat' (first|refine zO ?_|refine vY ?_|apply a_n)
  refine ⟨(k + 1,s2),by dsimp only; omega,⟨by dsimp only; omega,by omega,fun y hy=>?_,?_,fun b hb=>?_⟩,ag0⟩
  ·rw [i3 y (by omega) (fun h=>by have:=hbd _ h; omega),au (by omega)]; exact h3 y hy
  ·dsimp only;rw [hft,jF]; exact hr2
  ·rcases i4 b hb with h | h
   ·have:=hbd b h; omega
   ·omega
theorem vv (c:List Spx) (s:Spx) (hc:c.length ≤ 1000000) (hcs:∀ t ∈ c,cr bm t∧t.length ≤ 1000000) (hs:cr bm s∧s.length ≤ 1000000) (H:Hp) (nx:Nat) :
    Abs.Fn Try.prog 17 [ca c,av s] H nx fun r H' nx'=>Row H' 1 r ((c.filter fun t=>cw s t).map av)∧(∀ x,x < nx→H' x=H x)∧nx ≤ nx'∧∀ d,c7 r=some d→nx ≤ d∧d < nx':=by
 refine Abs.Fn.of_c2 follows yQ (bd rfl) ?_;simp only [b17,aK];have zz:=aI @bP (aI @bv (aI @aE @ax)); repeat' (first|refine zW ?_|refine zO ?_|refine vY ?_|refine bxY ?_|apply a_n)
 refine aA ev0 ev0 (sZ c (fun t=>cw s t) 39 [.ptr (nx + 1) 1 0] [.iptr [av s] 0] hc _ _ (fun H' h=>aB (iI ((h (nx + 1) (by omega)).trans al) rfl (aB (aD _ _) ae)) ae) (fun t ht=>oS s t hs (hcs t ht))) ?_;rintro r H1 nx1 ⟨r1,r2,r3,r4⟩;obtain ⟨o1,o2⟩:=r1.one;have zz:=aI @o1 @o2; repeat' (first|refine zO ?_|refine vY ?_|refine ai rfl ?_|refine r1Y ?_|apply a_n)
 exact ⟨r1,fun x hx=>(r2 x (by omega)).trans (by rw [au (by omega),au (by omega)]),by omega,fun d hd=>by have:=r4 d hd; omega⟩
theorem sO {l:List Spx} {p:Vtx→Bool} {k:Nat} (h:k < l.length):fy (l.take (k + 1)) p=fy (l.take k) p ++ if 0 < ((l.getD k default).filter p).length then [(l.getD k default).filter p] else []:=by
 unfold fy;rw [cH h,jF,List.filter_append]
 congr 1
 show List.filter _ [(l.getD k default).filter p]=_;by_cases hp:0 < ((l.getD k default).filter p).length
 ·rw [if_pos hp,List.filter_cons_of_pos (by simpa using hp)]; rfl
 ·rw [if_neg hp,List.filter_cons_of_neg (by simpa using hp)]; rfl
theorem y5 (l:List Spx) (p:Vtx→Bool) (g:Nat) (caps caps':List AV) (hl:l.length ≤ 1000000) (hs:∀ s ∈ l,s.length ≤ 1000000) (H:Hp) (nx:Nat) (hcap:∀ H':Hp,(∀ x,x < nx→H' x=H x)→a7 H' caps caps') (hg:∀ x,Pure Try.prog g (bV x :: caps') (.bool (p x))) :
    Abs.Fn Try.prog 19 [ay l,.func g caps] H nx fun r H' nx'=>Row H' 1 r ((fy l p).map av)∧(∀ x,x < nx→H' x=H x)∧nx ≤ nx'∧∀ d,c7 r=some d→nx ≤ d∧d < nx':=by
 refine Abs.Fn.of_c2 follows z6 (bd rfl) ?_;simp only [b19,aK];have zz:=@ak; repeat' (first|refine zW ?_|refine zO ?_|refine vY ?_|apply a_n)
 refine aU (X:=Nat × AV) (fun x=>[(1,.func g caps),(5,x.2),(9,ay l),(10,.int .i64 l.length),(11,.int .i64 x.1)]) (fun x H' nx'=>x.1 ≤ l.length∧nx ≤ nx'∧(∀ y,y < nx→H' y=H y)∧Row H' 1 x.2 ((fy (l.take x.1) p).map av)∧∀ b,c7 x.2=some b→nx ≤ b∧b < nx') (fun x=>l.length - x.1) (0,.esl) ⟨cP _,aJ _,fun _ _=>rfl,Row.nil,fun b h=>(by cases h)⟩ (by (iterate 5 refine And.intro rfl ?_); trivial) ?_;rintro ⟨k,sv⟩ H1 nx1 ⟨h1,h2,h3,hrow,hbd⟩;dsimp only at h1 hrow hbd ⊢;obtain ⟨o1,o2⟩:=hrow.one;by_cases hk:k < l.length
 rotate_left
 ·rw [iJ (by omega)] at hrow;have zz:=aI @o1 @o2; repeat' (first|refine zW ?_|apply a_x|refine zO ?_|refine vY ?_|(refine zGY ?_ ?_ <;> (intro _hg; try (exfalso; omega)))|refine ai rfl ?_|refine r1Y ?_|apply a_n)
  exact ⟨hrow,h3,h2,hbd⟩
 have ix:=eT hk;have het:=sO (p:=p) hk;have hsl:=hs _ (aX hk);have hel:(fy (l.take k) p).length ≤ l.length:=dQ lv (by rw [il]; omega);generalize l.getD k default=s at *;have zz:=@ix; repeat' (first|refine zW ?_|refine zO ?_|refine vY ?_|(refine zGY ?_ ?_ <;> (intro _hg; try (exfalso; omega)))|apply a_n)
 refine aA ev0 ev0 (uA s p g caps caps' hsl H1 nx1 (fun H' h=>hcap H' fun x hx=>(h x (by omega)).trans (h3 x hx)) (fun x _=>hg x)) ?_;rintro r H2 nx2 ⟨r1,r2,r3,r4⟩;obtain ⟨Hf,H4,hfz,hsn,hoth⟩:=tE r1;have hlow:∀ x,x < nx1→H4 x=H1 x:=fun x hx=>(hoth x (fun e=>by have:=r4 x e; omega)).trans (r2 x hx);have hrow4:Row H4 1 sv ((fy (l.take k) p).map av):=hrow.same fun b hb=>hlow b (by have:=hbd b hb; omega);generalize s.filter p=q at *
 repeat' (first|refine zO ?_|refine vY ?_|apply a_n)
 refine dp ?_;refine kE Hf H4 [(1,.func g caps),(5,sv),(8,av q),(9,ay l),(10,.int .i64 l.length),(11,.int .i64 k)] hfz ⟨.inl rfl,.inl rfl,.inr hsn,.inl rfl,.inl rfl,.inl rfl,trivial⟩ ?_;by_cases hq:0 < q.length
 rotate_left
 ·have z:decide ((0:Int) < q.length)=false:=bw (by omega);rw [if_neg hq,mo] at het;have zz:=aI @ar @z; repeat' (first|refine zO ?_|refine vY ?_|refine cFY ?_|apply a_n)
  exact ⟨(k + 1,sv),by dsimp only; omega,⟨by dsimp only; omega,by omega,fun y hy=>(hlow y (by omega)).trans (h3 y hy),by dsimp only; rw [het]; exact hrow4,fun b hb=>by have:=hbd b hb; omega⟩,ag0⟩
 have z:decide ((0:Int) < q.length)=true:=bD (by omega);rw [if_pos hq] at het;have zz:=aI @ar (aI @z (aI @bP @bv)); repeat' (first|refine zO ?_|refine vY ?_|refine blY ?_|refine cTY ?_|apply a_n)
 refine iq rfl ev0 (hrow4.same fun b hb=>?_) ev0 gI rfl rfl Nat.one_pos (by rw [dt]; omega) (by rw [dt]; omega) ?_
 ·have:=hbd b hb; rw [au (by omega)]
 rintro s2 H5 nx5 hr2 i1 i2 i3 i4
 repeat' (first|refine zO ?_|refine vY ?_|apply a_n)
 refine ⟨(k + 1,s2),by dsimp only; omega,⟨by dsimp only; omega,by omega,fun y hy=>?_,?_,fun b hb=>?_⟩,ag0⟩
 ·rw [i3 y (by omega) (fun h=>by have:=hbd _ h; omega),au (by omega)]; exact (hlow y (by omega)).trans (h3 y hy)
 ·dsimp only;rw [het,jF]; exact hr2
 ·rcases i4 b hb with h | h
  ·have:=hbd b h; omega
  ·omega
theorem xB (s:Spx) (v:Vtx) (hs:Shn s):Pure Try.prog 20 [bV v,.iptr [av s] 0] (.bool (decide (v ∉ s))):=by
 refine Pure.of_c2 follows AF (bd rfl) ?_;simp only [b20,aK];have h:=rY s v hs
 repeat' (first|refine zW ?_|refine zO ?_|refine vY ?_|refine cY ?_ (hp:=h) (hs:=by (first | refine ac ?_ rfl | apply af); (repeat' (first | exact ae | apply am | apply ag | exact aD _ | exact bW _)); first | done | fail)|refine bxY ?_|refine ai rfl ?_|refine r1Y ?_|apply a_n)
 refine bZ ?_;by_cases hv:v ∈ s
 ·simp [hv]
 ·simp [hv]
theorem xE {g:FuncId} {r:AV} {l:List Spx} (hp:Pure Try.prog g [ay l] r) {H:Hp} {nx:Nat} {s:AV} (hrow:Row H 1 s (l.map av)):Abs.Fn Try.prog g [s] H nx fun r' H' nx'=>r'=r∧nx'=nx∧∀ x,c7 s ≠ some x→H' x=H x:=by
 generalize hcs:l.map av=cs at hrow;cases hrow with
 | nil=>exact Abs.Fn.of_pureZ hp (Hf:=a9) (H':=H) (fun b cs h=>by cases h) (fun b cs h=>⟨h,rfl⟩) (aB (gJ (by rw [hcs]; exact Row.nil)) ae) ⟨rfl,rfl,fun _ _=>rfl⟩
 | box b len cs g1 g2 =>
  refine Abs.Fn.of_pureZ hp (Hf:=only b cs) (H':=cb H b) (fun a cs' h=>?_) (fun a cs' h=>?_) (aB (gJ (by rw [hcs]; exact Row.box b len cs f7 g2)) ae) ⟨rfl,rfl,fun x hx=>fG (fun e=>hx (by rw [e]; rfl))⟩
  ·unfold only at h;split at h
   ·rename_i e; cases h; subst e; exact g1
   ·cases h
  ·unfold cb at h;split at h
   ·cases h
   ·rename_i e; exact ⟨h,by unfold only; rw [if_neg e]⟩
theorem zj (c:List Spx) (s:Spx) (hc:aR c=0) (hs:bL s=0) (hne:bN c s ≠ []):Pure Try.prog 7 [ca c,av s] (.tup [ca (fU c s),.int .i64 0]):=by
 refine Pure.of_c2 follows is7 (bd rfl) ?_;simp only [b7,aK];have hpl:=tc c s hc hs;have z0:decide ((0:Int) ≠ 0)=false:=rfl;obtain ⟨c1,c2,c3,c4⟩:=bc hc;have zz:=aI @aE (aI @ax (aI @bP (aI @bv @z0))); repeat' (first|refine zW ?_|refine zO ?_|refine vY ?_|refine cY ?_ (hp:=hpl) (hs:=by (first | refine ac ?_ rfl | apply af); (repeat' (first | exact ae | apply am | apply ag | exact bF _ | exact aD _)); first | done | fail)|refine alY ?_|refine bxY ?_|refine cFY ?_|apply a_n)
 refine aA ev0 ev0 (vv c s (by omega) (fun t h=>dM (c2 t h)) (dM hs) _ _) ?_;rintro r H1 nx1 ⟨r1,r2,r3,r4⟩;have g1:H1 2=some [.esl]:=(r2 2 (by omega)).trans al;have g0:H1 1=some [av s]:=(r2 1 (by omega)).trans (by rw [au (by omega),al]);have hst:=dW (s:=s) hc;obtain ⟨e1,e2,e3,e4⟩:=bc hst
 have hco:=e7 (fy (bN c s) fun v=>decide (v ∉ s)) (by have:=lv (l:=bN c s) (p:=fun v=>decide (v ∉ s)); omega) (fun t ht=>by
  obtain ⟨p1,p2,p3,p4⟩:=bQ (ph e2 t ht);exact ⟨p3,by omega,fun e=>by rw [e] at p1; simp at p1⟩)
 change Pure Try.prog 18 _ (ca (fU c s)) at hco;change Row H1 1 r ((bN c s).map av) at r1;have hpos:=List.length_pos_iff.2 hne;have heach:=y5 (bN c s) (fun v=>decide (v ∉ s)) 20 [.ptr 1 1 0] [.iptr [av s] 0] (by omega) (fun t ht=>(dM (e2 t ht)).2);generalize fU c s=K at *;generalize fy (bN c s) (fun v=>decide (v ∉ s))=E at *;generalize bN c s=L at *;have hls:=r1.lenS (n:=L.length) (by rw [dt,Nat.mul_one]) Nat.one_pos;have z:decide ((L.length:Int)=0)=false:=bw (by omega);have hb1:c7 r ≠ some 2:=fun e=>by have:=r4 2 e; omega
 have hb0:c7 r ≠ some 1:=fun e=>by have:=r4 1 e; omega
 obtain ⟨Hf,H4,hfz,hsn,hoth⟩:=wA r1;have g4:H4 2=some [.esl]:=(hoth 2 hb1).trans g1;have g5:H4 1=some [av s]:=(hoth 1 hb0).trans g0
 repeat' (first|refine zO ?_|refine vY ?_|apply a_n)
 refine dp (dp ?_);have zz:=aI @hls @z; repeat' (first|refine zO ?_|refine vY ?_|refine cFY ?_|apply a_n)
 refine dp ?_;refine kE Hf H4 [(3,.ptr 1 1 0),(4,.ptr 2 1 0),(7,ay L)] hfz ⟨.inl rfl,.inl rfl,.inr hsn,trivial⟩ ?_
 repeat' (first|refine zO ?_|refine vY ?_|apply a_n)
 refine aA ev0 ev0 (heach H4 nx1 (fun H' h=>aB (iI ((h 1 (by omega)).trans g5) rfl (aB (aD _ _) ae)) ae) (fun v=>xB s v (show _ ≤ _ by have:=(dM hs).2; omega))) ?_;rintro r5 H5 nx5 ⟨q1,q2,q3,q4⟩;have g6:H5 2=some [.esl]:=(q2 2 (by omega)).trans g4;refine aA ev0 ev0 (xE hco q1) ?_;rintro _ H6 nx6 ⟨rfl,rfl,k3⟩;have g7:H6 2=some [.esl]:=(k3 2 (fun e=>by have:=q4 2 e; omega)).trans g6;have zz:=aI @g7 (aI @aE @ax); repeat' (first|refine zO ?_|refine vY ?_|refine stY ?_|refine ai rfl ?_|refine r2Y ?_|apply a_n)
 exact lB (bz _).snap rfl
end Go.Proofs.Ytpfkjcjgdilkkaa
namespace Go.Proofs.Ytpfkjcjgdilkkaa
open Go Go.Abs
open Nat (reduceEqDiff reduceAdd reduceLeDiff)
theorem y9 {g:FuncId} {args args':List AV} {r:AV} (hp:Pure Try.prog g args' r) {H:Hp} {nx b:Nat} {cs:List AV} (hb:H b=some cs) (hs:a7 (only b cs) args args'):Abs.Fn Try.prog g args H nx fun r' H' nx'=>r'=r∧H'=cb H b∧nx'=nx :=
 Abs.Fn.of_pureZ hp (Hf:=only b cs) (H':=cb H b) (fun a cs' h=>by
  unfold only at h;split at h
  ·rename_i e; cases h; subst e; exact hb
  ·cases h) (fun a cs' h=>by
  unfold cb at h;split at h
  ·cases h
  ·rename_i e; exact ⟨h,by unfold only; rw [if_neg e]⟩) hs ⟨rfl,rfl,rfl⟩
theorem vT {l:List Spx}:AV.ones (l.map av)=true:=by
 unfold AV.ones;rw [eu];intro x hx;obtain ⟨y,_,rfl⟩:=eE.1 hx;rfl
attribute [local irreducible] aO aq bI bM bk bx aM bA bR cz Go.Abs.Fn bK Go.Abs.Pure aQ a7 Yl
theorem vE (c d:List Spx) (hc:aR c=0) (hd:aR d=0):Pure Try.prog 22 [ca c,ca d] (.int .i64 0):=by
 refine Pure.of_c2 follows Bl (bd rfl) ?_;simp only [b22,aK];have h1:=n6 c (show _ ≤ _ by have:=(bc hc).1; omega) (fD hc);have h2:=n6 d (show _ ≤ _ by have:=(bc hd).1; omega) (fD hd);rw [hc] at h1;rw [hd] at h2;have z0:decide ((0:Int) ≠ 0)=false:=rfl;have zz:=aI @aE (aI @ax @z0); repeat' (first|refine zW ?_|refine zO ?_|refine vY ?_|refine cY ?_ (hp:=by first | exact h1 | exact h2) (hs:=by (first | refine ac ?_ rfl | apply af); (repeat' (first | exact ae | apply am | apply ag | exact bF _)); first | done | fail)|refine bxY ?_|refine cFY ?_|refine ai rfl ?_|refine r1Y ?_|apply a_n)
 exact .int _ _
def i5 (c:List Spx):Nat→Int × Int
 | 0=>(8,0)
 | k + 1=>(min (i5 c k).1 ((c.getD k default).length:Int),max (i5 c k).2 ((c.getD k default).length:Int))
theorem my {c:List Spx} {m:Int} (h0:0 ≤ m) (h:∀ s ∈ c,(s.length:Int) ≤ m):∀ {k:Nat},k ≤ c.length→0 ≤ (i5 c k).2∧(i5 c k).2 ≤ m
 | 0,_=>⟨Int.le_refl _,h0⟩
 | k + 1,hk=>by
  have:=my h0 h (k:=k) (by omega);have h2:=h _ (aX (l:=c) (i:=k) (by omega));unfold i5;dsimp only;omega
theorem lN (c:List Spx) (hc:Shn c) (hs:∀ s ∈ c,Shn s):Pure Try.prog 26 [ca c] (.tup [.int .i64 ((i5 c c.length).2 - 1),.bool (decide ((i5 c c.length).2=0) || decide ((i5 c c.length).1=(i5 c c.length).2))]):=by
 refine Pure.of_c2 follows A6 (bd rfl) ?_;simp only [b26,aK];have hc':c.length ≤ 17592186044416:=hc;have zz:=aI @aE (aI @ax @ak); repeat' (first|refine zW ?_|refine zO ?_|refine vY ?_|refine bxY ?_|apply a_n)
 refine aU (X:=Nat) (fun k=>[(4,.int .i64 (i5 c k).1),(5,.int .i64 (i5 c k).2),(9,ay c),(10,.int .i64 c.length),(11,.int .i64 k)]) (fun k H nx=>k ≤ c.length) (fun k=>c.length - k) 0 (cP _) (by (iterate 5 refine And.intro rfl ?_); trivial) ?_;rintro k H nx h1;have hb:=my (m:=17592186044416) (by omega) (fun s h=>by have:s.length ≤ _:=hs s h; omega) h1;by_cases hk:k < c.length
 rotate_left
 ·obtain rfl:k=c.length:=by omega
  generalize i5 c c.length=P at *;obtain ⟨a,m⟩:=P;dsimp only at hb ⊢;by_cases h0:m=0
  ·have z:decide (m=0)=true:=bD h0;rw [z,Bool.true_or];have zz:=@z; repeat' (first|refine zW ?_|apply a_x|refine zO ?_|refine vY ?_|refine gFY ?_|(refine zGY ?_ ?_ <;> (intro _hg; try (exfalso; omega)))|refine ai rfl ?_|refine r2Y ?_|apply a_n)
   exact kw (aB (.int _ _) (aB (.bool _) ae))
  ·have z:decide (m=0)=false:=bw h0;rw [z,Bool.false_or];have zz:=@z; repeat' (first|refine zW ?_|apply a_x|refine zO ?_|refine vY ?_|refine gTY ?_|(refine zGY ?_ ?_ <;> (intro _hg; try (exfalso; omega)))|refine ai rfl ?_|refine r2Y ?_|apply a_n)
   exact kw (aB (.int _ _) (aB (.bool _) ae))
 have ix:=eT hk;have hsl:(c.getD k default).length ≤ 17592186044416:=hs _ (aX hk);have e:i5 c (k + 1)=(min (i5 c k).1 ((c.getD k default).length:Int),max (i5 c k).2 ((c.getD k default).length:Int)):=rfl;generalize c.getD k default=s at *;have zz:=aI @ix @ar; repeat' (first|refine zW ?_|refine zO ?_|refine vY ?_|(refine zGY ?_ ?_ <;> (intro _hg; try (exfalso; omega)))|apply a_n)
 exact ⟨k + 1,by omega,by omega,by rw [e]; simp (disch:=omega) only [agr,ZG,reduceEqDiff,↓reduceIte]⟩
theorem u4 (l:List Spx) (hl:l.length ≤ 100000) (hs:∀ s ∈ l,cr bm s∧s.length ≤ 1000∧s ≠ []) (hm:(fo l).length ≤ 4096):Pure Try.prog 28 [ay l] (.tup [ca (fo l),.int .i64 0]):=by
 refine Pure.of_c2 follows A2 (bd rfl) ?_;simp only [b28,aK];have hco:=e7 l hl hs;generalize fo l=K at *;have z:decide ((4096:Int) < K.length)=false:=bw (by omega);have zz:=aI @aE (aI @ax (aI @ak @z)); repeat' (first|refine zW ?_|refine zO ?_|refine vY ?_|refine cY ?_ (hp:=hco) (hs:=by (first | refine ac ?_ rfl | apply af); (repeat' (first | exact ae | apply am | apply ag | exact bz _)); first | done | fail)|refine alY ?_|refine stY ?_|refine cFY ?_|refine ai rfl ?_|refine r2Y ?_|apply a_n)
 exact lB (bz _).snap rfl
theorem xW (c d:List Spx) (hc:aR c=0) (hd:aR d=0) (hne:c ≠ []) (hm:(fo (c ++ d)).length ≤ 4096):Pure Try.prog 10 [ca c,ca d] (.tup [ca (fo (c ++ d)),.int .i64 0]):=by
 refine Pure.of_c2 follows Bp (bd rfl) ?_;simp only [b10,aK];have hbo:=vE c d hc hd;have z0:decide ((0:Int) ≠ 0)=false:=rfl;obtain ⟨c1,c2,c3,c4⟩:=bc hc;obtain ⟨d1,d2,d3,d4⟩:=bc hd;have hn:eP (ay c)=some c.length:=by unfold ay fS; simp [eP]
 have hlim:=u4 (c ++ d) (by rw [ea]; omega) (fun t ht=>by
  obtain ⟨p1,p2,p3,p4⟩:=bQ ((jk.1 ht).elim (c2 t) (d2 t));exact ⟨p3,by omega,fun e=>by rw [e] at p1; simp at p1⟩) hm
 have zz:=aI @aE (aI @ax @z0); repeat' (first|refine zW ?_|refine zO ?_|refine vY ?_|refine cY ?_ (hp:=hbo) (hs:=by (first | refine ac ?_ rfl | apply af); (repeat' (first | exact ae | apply am | apply ag | exact bF _)); first | done | fail)|refine alY ?_|refine bxY ?_|refine cFY ?_|apply a_n)
 have g0:aj (aj (aj a9 0 [ay c]) (0 + 1) [ay d]) (0 + 1 + 1) [AV.esl] 0=some [ay c]:=by rw [au (by omega),au (by omega),al]
 have g1:aj (aj (aj a9 0 [ay c]) (0 + 1) [ay d]) (0 + 1 + 1) [AV.esl] 1=some [ay d]:=by rw [au (by omega),al]
 have g2:aj (aj (aj a9 0 [ay c]) (0 + 1) [ay d]) (0 + 1 + 1) [AV.esl] 2=some [.esl]:=al;generalize aj (aj (aj a9 0 [ay c]) (0 + 1) [ay d]) (0 + 1 + 1) [AV.esl]=H0 at *;refine pH 0 1 g0 g1 (by omega) fun S hS0 hS1 hsub=>?_;simp only [im,List.map_nil,List.getD_cons_succ,List.getD_cons_zero];have zz:=aI @hS0 @hS1; repeat' (first|refine zO ?_|refine nvY ?_|apply a_n)
 refine nq ?_;refine aA ev0 ev0 (kR _ c (by omega) _ _ hn (fun H' _=>mM)) ?_;rintro r H1 nx1 ⟨k1,k2,k3,k4⟩;rw [if_neg hne] at k4;have q0:=(k3 0 (by omega)).trans g0;have q1:=(k3 1 (by omega)).trans g1;have q2:=(k3 2 (by omega)).trans g2;obtain ⟨rfl,rfl,rfl⟩:=k4;refine ru ⟨hsub _ q0 q1,?_⟩;generalize fo (c ++ d)=K at *;have zz:=aI @hS0 @hS1; repeat' (first|refine zO ?_|apply jq|apply a_n)
 have hrow:Row (aj H0 (0 + 1 + 1 + 1) (c.map av)) 1 (.msl (0 + 1 + 1 + 1) c.length 1 0 c.length) (c.map av):=by
  have:=Row.box (sz:=1) (0 + 1 + 1 + 1) c.length (c.map av) (al (H:=H0)) (by rw [dt,Nat.mul_one])
  rwa [Nat.mul_one] at this
 refine iq rfl ev0 hrow ev0 mM vT (by rw [dt,Nat.mul_one]) Nat.one_pos (by rw [dt]; omega) (by rw [dt]; omega) ?_;rintro s2 H2 nx2 hr2 i1 i2 i3 i4;rw [← jF] at hr2;have r2:=(i3 2 (by omega) (fun h=>by simp [c7] at h)).trans q2
 have hb:c7 s2 ≠ some 2:=fun e=>by
  rcases i4 2 e with h | h
  ·simp [c7] at h
  ·omega
 repeat' (first|refine zO ?_|apply jq|apply a_n)
 refine aA ev0 ev0 (xE hlim hr2) ?_;rintro _ H3 nx3 ⟨rfl,rfl,j3⟩;have r3:=(j3 2 hb).trans r2;have zz:=aI @r3 (aI @aE @ax); repeat' (first|refine zO ?_|refine nvY ?_|apply jq|refine stY ?_|refine ai rfl ?_|refine r2Y ?_|apply a_n)
 exact lB (bz _).snap rfl
end Go.Proofs.Ytpfkjcjgdilkkaa
namespace Go.Proofs.Ytpfkjcjgdilkkaa
open Go Go.Abs
theorem v9 {s:Spx} {v:Vtx} (h:v ∉ s):gc [s] 1 v=[]:=by
 unfold gc;rw [show List.range 1=[0] from rfl];simp [h]
theorem uZ {c:List Spx} {m:Nat} (h:∀ s ∈ c,s.length ≤ m):c.flatten.length ≤ c.length * m:=by
 induction c with
 | nil=>simp
 | cons a l ih =>
  have h1:=ih fun s hs=>h s (List.mem_cons_of_mem _ hs);have h2:=h a (qj ..);rw [List.flatten_cons,ea,dX,d9];omega
def jV (s:Spx) (d:List Spx):List Spx:=if d=[] then [s] else fo (d.map fun t=>dh bm (s ++ t))
theorem qu {s:Spx} (h:bL s=0):aR [s]=0:=by
 refine iS (by simp) (fun t ht=>?_) (List.pairwise_singleton ..) (fun t ht=>?_)
 ·rw [fF.1 ht]; exact h
 ·rw [fF.1 ht];unfold bl;simp
attribute [local irreducible] aO aq bI bM bk bx aM bA bR cz Go.Abs.Fn bK Go.Abs.Pure aQ a7 Yl
set_option maxHeartbeats 4000000 in
theorem yL (s:Spx) (d:List Spx) (hs:bL s=0) (hd:aR d=0) (hdis:∀ t ∈ d,∀ v ∈ t,v ∉ s) (hdim:∀ t ∈ d,s.length + t.length ≤ 8):Pure Try.prog 8 [ca [s],ca d] (.tup [ca (jV s d),.int .i64 0]):=by
 refine Pure.of_c2 follows is8 (bd rfl) ?_;simp only [b8,aK];obtain ⟨c,hcs⟩:∃ c,c=[s]:=⟨_,rfl⟩
 have hc:aR c=0:=by rw [hcs]; exact qu hs
 have hinF:∀ v,v ∉ s→gc c c.length v=[]:=fun v hv=>by rw [hcs]; exact v9 hv
 rw [← hcs];have hcl:c.length=1:=by rw [hcs]; rfl
 have hcz:(c.length:Int)=1:=by rw [hcl]; rfl
 have hbo:=vE c d hc hd;obtain ⟨c1,c2,c3,c4⟩:=bc hc;obtain ⟨d1,d2,d3,d4⟩:=bc hd;obtain ⟨s1,s2,s3,s4⟩:=bQ hs;have z0:decide ((0:Int) ≠ 0)=false:=rfl;have z1:decide ((1:Int)=0)=false:=rfl;have hn:eP (ay c)=some c.length:=by unfold ay fS; simp [eP]
 by_cases hd0:d=[]
 ·have hdz:(d.length:Int)=0:=by rw [hd0]; rfl
  have z2:decide ((0:Int)=0)=true:=rfl
  have hco:=e7 (c ++ d) (by rw [ea]; omega) (fun t ht=>by
   obtain ⟨p1,p2,p3,p4⟩:=bQ ((jk.1 ht).elim (c2 t) (d2 t));exact ⟨p3,by omega,fun e=>by rw [e] at p1; simp at p1⟩)
  rw [show fo (c ++ d)=jV s d by unfold jV; rw [if_pos hd0,hd0,mo,o8 hc,hcs]] at hco;have zz:=aI @aE (aI @ax (aI @ak (aI @hcz (aI @hdz (aI @z0 (aI @z1 @z2)))))); repeat' (first|refine zW ?_|refine zO ?_|refine vY ?_|refine cY ?_ (hp:=hbo) (hs:=by (first | refine ac ?_ rfl | apply af); (repeat' (first | exact ae | apply am | apply ag | exact bF _)); first | done | fail)|refine alY ?_|refine bxY ?_|refine gTY ?_|refine cFY ?_|(refine zGY ?_ ?_ <;> (intro _hg; try (exfalso; omega)))|apply a_n)
  have g0:aj (aj (aj a9 0 [ay c]) (0 + 1) [ay d]) (0 + 1 + 1) [AV.esl] 0=some [ay c]:=by rw [au (by omega),au (by omega),al]
  have g1:aj (aj (aj a9 0 [ay c]) (0 + 1) [ay d]) (0 + 1 + 1) [AV.esl] 1=some [ay d]:=by rw [au (by omega),al]
  have g2:aj (aj (aj a9 0 [ay c]) (0 + 1) [ay d]) (0 + 1 + 1) [AV.esl] 2=some [.esl]:=al;generalize aj (aj (aj a9 0 [ay c]) (0 + 1) [ay d]) (0 + 1 + 1) [AV.esl]=H0 at *;refine pH 0 1 g0 g1 (by omega) fun S hS0 hS1 hsub=>?_;simp only [im,List.map_nil,List.getD_cons_succ,List.getD_cons_zero];have zz:=aI @hS0 @hS1; repeat' (first|refine zO ?_|refine nvY ?_|apply a_n)
  refine nq ?_;refine aA ev0 ev0 (kR _ c (by omega) _ _ hn (fun H' _=>mM)) ?_;rintro r H1 nx1 ⟨k1,k2,k3,k4⟩;rw [if_neg (fun e=>by rw [e] at hcl; simp at hcl)] at k4;have q0:=(k3 0 (by omega)).trans g0;have q1:=(k3 1 (by omega)).trans g1;have q2:=(k3 2 (by omega)).trans g2;obtain ⟨rfl,rfl,rfl⟩:=k4;refine ru ⟨hsub _ q0 q1,?_⟩;generalize jV s d=K at *;have zz:=aI @hS0 @hS1; repeat' (first|refine zO ?_|apply jq|apply a_n)
  have hrow:Row (aj H0 (0 + 1 + 1 + 1) (c.map av)) 1 (.msl (0 + 1 + 1 + 1) c.length 1 0 c.length) (c.map av):=by
   have:=Row.box (sz:=1) (0 + 1 + 1 + 1) c.length (c.map av) (al (H:=H0)) (by rw [dt,Nat.mul_one])
   rwa [Nat.mul_one] at this
  refine iq rfl ev0 hrow ev0 mM vT (by rw [dt,Nat.mul_one]) Nat.one_pos (by rw [dt]; omega) (by rw [dt]; omega) ?_;rintro s2 H2 nx2 hr2 i1 i2 i3 i4;rw [← jF] at hr2;have r2:=(i3 2 (by omega) (fun h=>by simp [c7] at h)).trans q2
  have hb:c7 s2 ≠ some 2:=fun e=>by
   rcases i4 2 e with h | h
   ·simp [c7] at h
   ·omega
  repeat' (first|refine zO ?_|apply jq|apply a_n)
  refine aA ev0 ev0 (xE hco hr2) ?_;rintro _ H3 nx3 ⟨rfl,rfl,j3⟩;have r3:=(j3 2 hb).trans r2;have zz:=aI @r3 (aI @aE @ax); repeat' (first|apply a_r|refine zO ?_|refine nvY ?_|apply jq|refine stY ?_|refine ai rfl ?_|refine r2Y ?_|apply a_n)
  exact lB (bz _).snap rfl
 have hdz:decide ((d.length:Int)=0)=false:=bw (by have:=List.length_pos_iff.2 hd0; omega);have hfl:d.flatten.length ≤ 32768:=dQ (uZ (m:=8) fun t ht=>by have:=(bQ (d2 t ht)).2.1; omega) (by omega);have hv:=nI d (fun t ht e=>by have:=(bQ (d2 t ht)).1; rw [e] at this; simp at this) (by omega) (by omega);have hVl:(dh bm d.flatten).length ≤ 32768:=dQ kc hfl
 have hVs:∀ v ∈ dh bm d.flatten,v ∉ s:=fun v hv=>by
  obtain ⟨t,ht,hvt⟩:=List.mem_flatten.1 (fc.1 hv);exact hdis t ht v hvt
 generalize dh bm d.flatten=V at *;have zz:=aI @aE (aI @ax (aI @ak (aI @hcz (aI @z0 (aI @z1 @hdz))))); repeat' (first|refine zW ?_|refine zO ?_|refine vY ?_|refine cY ?_ (hp:=hbo) (hs:=by (first | refine ac ?_ rfl | apply af); (repeat' (first | exact ae | apply am | apply ag | exact bF _)); first | done | fail)|refine alY ?_|refine bxY ?_|refine gTY ?_|refine cFY ?_|apply a_n)
 refine aA ev0 ev0 (iY c (by omega) (fun t h=>dM (c2 t h)) _ _) ?_;rintro _ H1 nx1 ⟨ks,vs,rfl,hinc,hsame,hlt⟩;have g0:H1 0=some [ay c]:=(hsame 0 (by omega)).trans (by rw [au (by omega),au (by omega),al]);have g1:H1 1=some [ay d]:=(hsame 1 (by omega)).trans (by rw [au (by omega),al]);have g2:H1 2=some [.esl]:=(hsame 2 (by omega)).trans al;have zz:=aI @g1 (aI @aE (aI @ax @ar)); repeat' (first|refine zW ?_|refine zO ?_|refine vY ?_|refine cY ?_ (hp:=hv) (hs:=by (first | refine ac ?_ rfl | apply af); (repeat' (first | exact ae | apply am | apply ag | exact bz _)); first | done | fail)|apply a_n)
 refine aU (X:=Nat) (fun k=>[(2,.ptr 0 1 0),(3,.ptr 1 1 0),(4,.ptr 2 1 0),(7,.mp 3),(48,av V),(49,.int .i64 V.length),(50,.int .i64 k)]) (fun k H nx=>k ≤ V.length∧nx1 ≤ nx∧∀ y,y < nx1→H y=H1 y) (fun k=>V.length - k) 0 ⟨cP _,aJ _,fun _ _=>rfl⟩ (by (iterate 7 refine And.intro rfl ?_); trivial) ?_;rintro k H nx ⟨h1,h2,h3⟩;by_cases hk:k < V.length
 ·have ix:=ix2 hk;have hv2:V.getD k default ∉ ks:=fun h=>(hinc.dom _).1 h (hinF _ (hVs _ (aX hk)));have hmf:=pB (V.getD k default) ks;rw [if_neg hv2] at hmf;have hbox:=(h3 3 (by omega)).trans hinc.box;generalize V.getD k default=v at *;have zz:=@ix; repeat' (first|refine zW ?_|refine zO ?_|refine vY ?_|refine alY ?_|refine stY ?_|(refine zGY ?_ ?_ <;> (intro _hg; try (exfalso; omega)))|apply a_n)
  refine su ev0 (by (repeat rw [au (by omega)]); exact hbox) ev0 (qW _) hmf ?_;rw [show mget .esl false none vs=.esl from rfl];have zl:cU .esl=some (.int .i64 0):=rfl;have zg:decide ((0:Int) < 0)=false:=rfl;have zz:=aI @zl @zg; repeat' (first|refine zO ?_|refine vY ?_|refine cFY ?_|apply a_n)
  exact ⟨k + 1,by omega,⟨by omega,by omega,fun y hy=>by (repeat rw [au (by omega)]); exact h3 y hy⟩,ag0⟩
 have q0:=(h3 0 (by omega)).trans g0;have q1:=(h3 1 (by omega)).trans g1;have q2:=(h3 2 (by omega)).trans g2;have e1:=lN c (show _ ≤ _ by omega) (fD hc);have e2:=lN d (show _ ≤ _ by omega) (fD hd);have m1:=my (c:=c) (m:=s.length) (by omega) (fun t ht=>by rw [hcs] at ht; rw [fF.1 ht]; exact Int.le_refl _) (aJ c.length);have m2:=my (c:=d) (m:=8 - s.length) (by omega) (fun t ht=>by have:=hdim t ht; omega) (aJ d.length);generalize i5 c c.length=P1 at *;generalize i5 d d.length=P2 at *;obtain ⟨a1,b1⟩:=P1;obtain ⟨a2,b2⟩:=P2;dsimp only at e1 e2 m1 m2;have zA:decide ((8:Int) < b1 - 1 + (b2 - 1) + 2)=false:=bw (by omega);have zB:decide ((4096:Int) < 1 * d.length)=false:=bw (by omega)
 have hJ:∀ t ∈ d,cr bm (dh bm (s ++ t))∧(dh bm (s ++ t)).length ≤ 1000∧dh bm (s ++ t) ≠ []:=fun t ht=>by
  have h2:=(bQ (d2 t ht)).2.1;refine ⟨iw lG _,?_,fun e=>?_⟩
  ·have:=kc (K:=bm) (l:=s ++ t);rw [ea] at this; omega
  ·have hm:s.getD 0 default ∈ dh bm (s ++ t):=fc.2 (List.mem_append_left _ (aX (by omega)));rw [e] at hm; simp at hm
 have hco:=e7 (d.map fun t=>dh bm (s ++ t)) (by rw [dt]; omega) (fun x hx=>by
  obtain ⟨t,ht,rfl⟩:=eE.1 hx;exact hJ t ht)
 rw [show fo (d.map fun t=>dh bm (s ++ t))=jV s d by unfold jV; rw [if_neg hd0]] at hco;generalize jV s d=K at *;clear hinc hsame hVs hinF hv h3 g0 g1 g2;have hk':decide ((k:Int) < V.length)=false:=bw (by omega);have zz:=aI @q0 (aI @q1 (aI @q2 (aI @aE (aI @ax (aI @ak (aI @hcz (aI @zA (aI @zB @hk')))))))); repeat' (first|refine zW ?_|apply a_x|refine zO ?_|refine vY ?_|refine cY ?_ (hp:=by first | exact e1 | exact e2) (hs:=by (first | refine ac ?_ rfl | apply af); (repeat' (first | exact ae | apply am | apply ag | exact bF _)); first | done | fail)|refine gTY ?_|refine cFY ?_|apply a_n)
 refine aU (X:=Nat × AV) (fun x=>[(3,.ptr 1 1 0),(4,.ptr 2 1 0),(14,x.2),(88,ay c),(89,.int .i64 1),(90,.int .i64 x.1)]) (fun x H' nx'=>x.1 ≤ 1∧3 ≤ nx'∧(∀ y,y < 3→H' y=H y)∧Row H' 1 x.2 ((if x.1=0 then [] else d.map fun t=>dh bm (s ++ t)).map av)∧∀ b,c7 x.2=some b→3 ≤ b∧b < nx') (fun x=>1 - x.1) (0,.esl) ⟨by omega,by omega,fun y hy=>rfl,Row.nil,fun b hb=>by cases hb⟩ (by (iterate 6 refine And.intro rfl ?_); trivial) ?_;rintro ⟨i,sv⟩ H2 nx2 ⟨f1,f2,f3,hrow,hbd⟩;dsimp only at f1 hrow hbd ⊢;by_cases hi:i=0
 rotate_left
 ·rw [if_neg hi] at hrow;have z:decide ((i:Int) < 1)=false:=bw (by omega);have r2:=(f3 2 (by omega)).trans q2;have zz:=@z; repeat' (first|refine zW ?_|apply a_x|refine zO ?_|refine vY ?_|refine cFY ?_|apply a_n)
  refine aA ev0 ev0 (xE hco hrow) ?_;rintro _ H3 nx3 ⟨rfl,rfl,j3⟩;have r3:=(j3 2 (fun e=>by have:=hbd 2 e; omega)).trans r2;have zz:=aI @r3 (aI @aE @ax); repeat' (first|refine zO ?_|refine vY ?_|refine stY ?_|refine ai rfl ?_|refine r2Y ?_|apply a_n)
  exact lB (bz _).snap rfl
 have z:decide ((i:Int) < 1)=true:=bD (by omega);rw [if_pos hi] at hrow;have ix:=eT (l:=c) (k:=i) (by omega);rw [show c.getD i default=s by rw [hi,hcs]; rfl] at ix;have r1:=(f3 1 (by omega)).trans q1;have zz:=aI @z (aI @ix (aI @r1 @ak)); repeat' (first|refine zW ?_|refine zO ?_|refine vY ?_|refine cTY ?_|apply a_n)
 refine aU (X:=Nat × AV) (fun x=>[(3,.ptr 1 1 0),(4,.ptr 2 1 0),(14,x.2),(88,ay c),(89,.int .i64 1),(90,.int .i64 i),(16,av s),(95,ay d),(96,.int .i64 d.length),(97,.int .i64 x.1)]) (fun x H' nx'=>x.1 ≤ d.length∧3 ≤ nx'∧(∀ y,y < 3→H' y=H2 y)∧Row H' 1 x.2 (((d.take x.1).map fun t=>dh bm (s ++ t)).map av)∧∀ b,c7 x.2=some b→3 ≤ b∧b < nx') (fun x=>d.length - x.1) (0,sv) ⟨by omega,f2,fun _ _=>rfl,by simpa using hrow,hbd⟩ (by (iterate 10 refine And.intro rfl ?_); trivial) ?_;rintro ⟨j,tv⟩ H3 nx3 ⟨l1,l2,l3,lrow,lbd⟩;dsimp only at l1 lrow lbd ⊢;by_cases hj:j < d.length
 rotate_left
 ·rw [iJ (by omega)] at lrow
  repeat' (first|refine zW ?_|apply a_x|refine zO ?_|refine vY ?_|(refine zGY ?_ ?_ <;> (intro _hg; try (exfalso; omega)))|apply a_n)
  exact ⟨(i + 1,tv),by dsimp only; omega,⟨by dsimp only; omega,l2,fun y hy=>(l3 y hy).trans (f3 y hy),by dsimp only; rw [if_neg (by omega)]; exact lrow,lbd⟩,ag0⟩
 have iy:=eT hj;have hft:(d.take (j + 1)).map (fun t=>dh bm (s ++ t))=(d.take j).map (fun t=>dh bm (s ++ t)) ++ [dh bm (s ++ d.getD j default)]:=by rw [cH hj,jF]; rfl
 have ht8:=bQ (d2 _ (aX hj))
 have hvt:=nI [s,d.getD j default] (fun t ht e=>by
  rcases ij.1 ht with rfl | ht
  ·rw [e] at s1; simp at s1
  ·rw [fF] at ht;rw [← ht,e] at ht8; simp at ht8) (by rw [show [s,d.getD j default].flatten=s ++ d.getD j default by simp,ea]; have:=ht8.2.1; omega) (by simp)
 rw [show [s,d.getD j default].flatten=s ++ d.getD j default by simp] at hvt;have hll:((d.take j).map fun t=>dh bm (s ++ t)).length ≤ 4096:=by rw [dt,il]; omega
 generalize d.getD j default=t at *;generalize dh bm (s ++ t)=jt at *;have zz:=aI @iy (aI @bP @bv); repeat' (first|refine zW ?_|refine zO ?_|refine vY ?_|refine blY ?_|(refine zGY ?_ ?_ <;> (intro _hg; try (exfalso; omega)))|apply a_n)
 refine aA ev0 ev0 (y9 hvt (b:=nx3) (cs:=[av s,av t]) al (aB (gJ (l:=[s,t]) (Row.box (sz:=1) nx3 2 [av s,av t] f7 rfl)) ae)) ?_;rintro _ H4 nx4 ⟨rfl,rfl,rfl⟩;have k4:∀ y,y < nx3→cb (aj H3 nx3 [av s,av t]) nx3 y=H3 y:=fun y hy=>by rw [fG (by omega),au (by omega)]
 generalize cb (aj H3 nx3 [av s,av t]) nx3=H4 at *;have hr4:Row H4 1 tv (((d.take j).map fun t=>dh bm (s ++ t)).map av):=lrow.same fun b hb=>k4 b (by have:=lbd b hb; omega);have zz:=aI @bP @bv; repeat' (first|refine zO ?_|refine blY ?_|apply a_n)
 refine iq rfl ev0 (hr4.same fun b hb=>?_) ev0 gI rfl rfl Nat.one_pos (by rw [dt]; omega) (by rw [dt]; omega) ?_
 ·have:=lbd b hb; rw [au (by omega)]
 rintro s2 H5 nx5 hr2 i1 i2 i3 i4
 repeat' (first|refine zO ?_|refine vY ?_|apply a_n)
 refine ⟨(j + 1,s2),by dsimp only; omega,⟨by dsimp only; omega,by omega,fun y hy=>?_,?_,fun b hb=>?_⟩,ag0⟩
 ·rw [i3 y (by omega) (fun h=>by have:=lbd _ h; omega),au (by omega)]; exact (k4 y (by omega)).trans (l3 y hy)
 ·dsimp only;rw [hft,jF]; exact hr2
 ·rcases i4 b hb with h | h
  ·have:=lbd b h; omega
  ·omega
def zT:List (Nat × F2):=[(4,b4),(7,b7),(11,b11),(12,b12),(16,b16),(17,b17),(18,b18),(19,b19),(20,b20),(21,b21),(23,b23),(24,b24),(29,b29),(30,b30),(31,b31),(32,b32),(37,b37),(38,b38),(39,b39),(40,b40),(41,b41),(42,b42),(43,b43),(44,b44),(45,b45),(46,b46),(47,b47),(49,b49),(51,b51),(53,b53),(54,b54),(59,b59),(60,b60),(61,b61),(62,b62),(63,b63),(64,b64),(65,b65),(67,b67),(68,b68),(69,b69),(70,b70),(71,b71),(72,b72),(73,b73),(74,b74),(75,b75),(76,b76),(77,b77),(78,b78),(79,b79),(80,b80),(81,b81),(82,b82),(83,b83),(84,b84),(85,b85),(86,b86),(87,b87),(88,b88),(89,b89),(90,b90),(91,b91),(92,b92),(93,b93),(94,b94),(95,b95),(96,b96),(97,b97),(98,b98),(99,b99),(100,yN),(101,yV)]
theorem zJ:iK Try.prog (lookup zT) :=
 (an is4 (an is7 (an Bh (an AB (an z5 (an yQ (an AM (an z6 (an AF (an zq (an Au (an AU (an Ba (an An (an Bu (an A7 (an zU (an yp (an AZ (an z9 (an y3 (an AI (an yz (an zH (an zs (an zt (an AP (an y7 (an yr (an Bs (an Bn (an AN (an Ac (an yC (an yx (an zZ (an zr (an zI (an zc (an Bo (an Bt (an AS (an zC (an yY (an z8 (an zw (an zx (an Ag (an Am (an AC (an zE (an Bm (an yw (an Aq (an y1 (an zY (an AR (an zR (an Ah (an zD (an Ai (an Av (an Aw (an Az (an AA (an zK (an AL (an Ao (an Ab (an AK (an zN (an yb (an yd uD)))))))))))))))))))))))))))))))))))))))))))))))))))))))))))))))))))))))))
set_option maxRecDepth 100000 in
theorem mB:Go.Abs.Pure Try.prog 4 [] (.bool true):=Pure.of_run follows zJ (pf:=yg [12]) (n:=2000) (good:=isTrue) (by decide +kernel) uw
def iH (f:Spx) (m:Nat):Nat→Spx
 | 0=>[]
 | k + 1=>iH f m k ++ if m / 2 ^ k % 2=1 then [f.getD k default] else []
theorem kM {f:Spx} {m:Nat}:∀ {k:Nat},k ≤ f.length→(iH f m k).Sublist (f.take k)
 | 0,_=>List.nil_sublist _
 | k + 1,h=>by
  unfold iH;rw [cH (show k < f.length by omega)];refine (kM (by omega)).append ?_;split
  ·exact List.Sublist.refl _
  ·exact List.nil_sublist _
theorem oU {f:Spx} {m:Nat}:∀ {k:Nat},iH f m k=[]→m < 2 ^ k→m=0
 | 0,_,h=>by rw [Nat.pow_zero] at h; omega
 | k + 1,h0,h=>by
  unfold iH at h0;obtain ⟨h1,h2⟩:=List.append_eq_nil_iff.1 h0;have h3:¬ m / 2 ^ k % 2=1:=fun e=>by rw [if_pos e] at h2; cases h2
  have hp:0 < 2 ^ k:=Nat.pow_pos (by omega);have h4:m / 2 ^ k < 2:=Nat.div_lt_of_lt_mul (by rw [Nat.pow_succ] at h; omega);have h5:m / 2 ^ k=0:=by generalize m / 2 ^ k=q at h3 h4; omega
  exact oU h1 ((Nat.div_eq_zero_iff_lt hp).1 h5)
theorem qH {s f:Spx} (hf:bL f=0) (hs:s.Sublist f) (h0:s ≠ []):bL s=0:=by
 obtain ⟨p1,p2,p3,p4⟩:=bQ hf;have:=hs.length_le;have:=List.length_pos_iff.2 h0;exact qY ⟨by omega,by omega⟩ (p3.sublist hs) fun v hv=>p4 v (hs.subset hv)
theorem pF {c:List Spx} {s:Spx} (hc:aR c=0):aR (fU c s)=0:=by
 have hst:=bc (dW (s:=s) hc);exact qf (dQ lv hst.1) (ph hst.2.1)
theorem sB {c:List Spx} {s f:Spx} (hc:aR c=0) (hf:f ∈ c) (hs:cr bm s) (hsf:∀ v ∈ s,v ∈ f):jV s (fU c s)=bN c s:=by
 unfold jV;by_cases h:fU c s=[]
 ·rw [if_pos h,wE hc hf hs hsf h]
 ·rw [if_neg h,uI hc hs h]
set_option maxHeartbeats 4000000 in
set_option maxRecDepth 100000 in
theorem u6 (c:List Spx) (w:Nat) (hc:Shn c∧∀ s ∈ c,Shn s) (hw:w < 256):Pure Try.prog 3 [ca c,.int .u8 w] (.bool true):=by
 refine Pure.of_c2 follows is3 (bd rfl) ?_;simp only [b3,aK];have hc':c.length ≤ 17592186044416:=hc.1;have f1:=yH c hc;cases e1:wj c
 ·rw [e1] at f1;have zz:=aI @aE @ax; repeat' (first|refine zW ?_|apply a_r|refine zO ?_|refine vY ?_|refine cY ?_ (hp:=by first | exact f1 | exact mB) (hs:=by (first | refine ac ?_ rfl | apply af); (repeat' (first | exact ae | apply am | apply ag | exact bF _)); first | done | fail)|refine bxY ?_|refine gFY ?_|refine cTY ?_|refine cFY ?_|refine ai rfl ?_|refine r1Y ?_|apply a_n)
  exact .bool _
 rw [e1] at f1;obtain ⟨t1,t2,t3,t4⟩:=wz e1;by_cases h0:c.length=0
 ·have z:decide ((c.length:Int)=0)=true:=bD (by omega);have zz:=aI @aE (aI @ax (aI @ak @z)); repeat' (first|refine zW ?_|apply a_r|refine zO ?_|refine vY ?_|refine cY ?_ (hp:=by first | exact f1 | exact mB) (hs:=by (first | refine ac ?_ rfl | apply af); (repeat' (first | exact ae | apply am | apply ag | exact bF _)); first | done | fail)|refine bxY ?_|refine gTY ?_|refine cTY ?_|refine cFY ?_|refine ai rfl ?_|refine r1Y ?_|apply a_n)
  exact .bool _
 have z1:decide ((c.length:Int)=0)=false:=bw (by omega);have hconv:IntKind.wrap .i64 (w:Int)=w:=lr (by omega) (by omega);have hrm:∀ tb tf,aV .rem tb tf (.int .i64 (w:Int)) (.int .i64 (c.length:Int))=some (.int .i64 ((w % c.length:Nat):Int)):=fun _ _=>(xq (by omega) (by omega)).trans (by rw [Int.natCast_emod]);have hwl:w % c.length < c.length:=Nat.mod_lt _ (by omega);have ix:=eT hwl;have hfm:=aX hwl;generalize c.getD (w % c.length) default=f at *;have hfe:=(bc t2).2.1 f hfm;obtain ⟨x1,x2,x3,x4⟩:=bQ hfe;have hf4:=t4 f hfm;have zz:=aI @aE (aI @ax (aI @ak (aI @ar (aI @z1 (aI @hconv (aI @hrm @ix)))))); repeat' (first|refine zW ?_|refine zO ?_|refine vY ?_|refine cY ?_ (hp:=by first | exact f1 | exact mB) (hs:=by (first | refine ac ?_ rfl | apply af); (repeat' (first | exact ae | apply am | apply ag | exact bF _)); first | done | fail)|refine bxY ?_|refine gTY ?_|refine cFY ?_|apply a_n)
 have hN:2 ^ f.length ≤ 16:=dQ (Nat.pow_le_pow_right (by omega) hf4) (by decide);have hN0:1 ≤ 2 ^ f.length:=Nat.pow_pos (by omega);refine aU (X:=Nat) (fun m=>[(2,.ptr 0 1 0),(5,av f),(6,.int .i64 m)]) (fun m H nx=>1 ≤ m∧m ≤ 2 ^ f.length∧1 ≤ nx∧H 0=some [ay c]) (fun m=>2 ^ f.length - m) 1 ⟨aJ _,hN0,by omega,al⟩ (by (iterate 3 refine And.intro rfl ?_); trivial) ?_;rintro m H nx ⟨m1,m2,m3,g0⟩
 have hshl:∀ tb tf,aV .shl tb tf (.int .i64 1) (.int .i64 (f.length:Int))=some (.int .i64 ((2 ^ f.length:Nat):Int)):=fun tb tf=>by
  have:=tM (k:=.i64) (a:=1) (b:=f.length) (tb:=tb) (tf:=tf) (k':=.i64) (by show f.length ≤ 64; omega) (by rw [Nat.one_mul]; show 2 ^ f.length < 2 ^ 63; omega);rw [Nat.one_mul] at this;exact this
 have hnil:=fun h=>oU (f:=f) (m:=m) (k:=f.length) h;generalize hNN:2 ^ f.length=N at *;by_cases hm:m < N
 rotate_left
 ·have z:decide ((m:Int) < N)=false:=bw (by omega);have zz:=aI @ar (aI @hshl @z); repeat' (first|refine zW ?_|apply a_x|refine zO ?_|refine vY ?_|refine cFY ?_|refine ai rfl ?_|refine r1Y ?_|apply a_n)
  exact .bool _
 have zm:decide ((m:Int) < N)=true:=bD (by omega);have zz:=aI @ar (aI @hshl @zm); repeat' (first|refine zW ?_|refine zO ?_|refine vY ?_|refine cTY ?_|apply a_n)
 refine aU (X:=Nat × AV) (fun x=>[(2,.ptr 0 1 0),(5,av f),(6,.int .i64 m),(7,x.2),(50,av f),(51,.int .i64 f.length),(52,.int .i64 x.1)]) (fun x H' nx'=>x.1 ≤ f.length∧1 ≤ nx'∧H' 0=some [ay c]∧Row H' 2 x.2 (cX (iH f m x.1))∧∀ b,c7 x.2=some b→1 ≤ b∧b < nx') (fun x=>f.length - x.1) (0,.esl) ⟨cP _,m3,g0,Row.nil,fun b hb=>by cases hb⟩ (by (iterate 7 refine And.intro rfl ?_); trivial) ?_;rintro ⟨k,sv⟩ H1 nx1 ⟨k1,k2,q0,hrow,hbd⟩;dsimp only at k1 hrow hbd ⊢;by_cases hk:k < f.length
 ·have iy:=ix2 hk;have zk:decide ((k:Int) < f.length)=true:=bD (by omega);have hpk:2 ^ k ≤ 16:=dQ (Nat.pow_le_pow_right (by omega) (show k ≤ 4 by omega)) (by decide);have hshr:∀ tb tf,aV .shr tb tf (.int .i64 (m:Int)) (.int .i64 (k:Int))=some (.int .i64 ((m / 2 ^ k:Nat):Int)):=fun tb tf=>pM (k:=.i64) (k':=.i64) (by show k ≤ 64; omega);have hdm:m / 2 ^ k ≤ m:=Nat.div_le_self _ _
  have hand:∀ tb tf,aV .and tb tf (.int .i64 ((m / 2 ^ k:Nat):Int)) (.int .i64 1)=some (.int .i64 ((m / 2 ^ k % 2:Nat):Int)):=fun tb tf=>by
   have:=xK (k:=.i64) (a:=m / 2 ^ k) (b:=1) (tb:=tb) (tf:=tf) (by show m / 2 ^ k < 2 ^ 63; omega) (by show 1 < 2 ^ 63; omega);rw [Nat.and_one_is_mod] at this;exact this
  have hbl:iH f m (k + 1)=iH f m k ++ if m / 2 ^ k % 2=1 then [f.getD k default] else []:=rfl
  have hcl:=fN (iH f m k);have hbk:=(kM (m:=m) k1).length_le;rw [il] at hbk;generalize f.getD k default=v at *;generalize hdv:m / 2 ^ k=dv at *;by_cases hb:dv % 2=1
  ·have zb:decide (((dv % 2:Nat):Int)=1)=true:=bD (by omega);rw [if_pos hb] at hbl;have zz:=aI @iy (aI @zk (aI @hshr (aI @hand @zb))); repeat' (first|refine zW ?_|refine zO ?_|refine vY ?_|refine alY ?_|refine stY ?_|refine blY ?_|refine cTY ?_|apply a_n)
   refine iq rfl ev0 (hrow.same fun b hb=>?_) ev0 o5 rfl rfl (by omega) (by omega) (by omega) ?_
   ·have:=hbd b hb; (repeat rw [au (by omega)])
   rintro s2 H2 nx2 hr2 i1 i2 i3 i4
   repeat' (first|refine zO ?_|refine vY ?_|apply a_n)
   refine ⟨(k + 1,s2),by dsimp only; omega,⟨by dsimp only; omega,by omega,?_,?_,fun b hb=>?_⟩,ag0⟩
   ·rw [i3 0 (by omega) (fun h=>by have:=hbd _ h; omega)]; (repeat rw [au (by omega)]); exact q0
   ·dsimp only;rw [hbl,kH]; exact hr2
   ·rcases i4 b hb with h | h
    ·have:=hbd b h; omega
    ·omega
  ·have zb:decide (((dv % 2:Nat):Int)=1)=false:=bw (by omega);rw [if_neg hb,mo] at hbl;have zz:=aI @iy (aI @zk (aI @hshr (aI @hand @zb))); repeat' (first|refine zW ?_|refine zO ?_|refine vY ?_|refine alY ?_|refine stY ?_|refine cTY ?_|refine cFY ?_|apply a_n)
   exact ⟨(k + 1,sv),by dsimp only; omega,⟨by dsimp only; omega,by omega,by (repeat rw [au (by omega)]); exact q0,by dsimp only; rw [hbl]; exact hrow.same fun b hb=>by have:=hbd b hb; (repeat rw [au (by omega)]),fun b hb=>by have:=hbd b hb; omega⟩,ag0⟩
 obtain rfl:k=f.length:=by omega
 have hsub:=kM (f:=f) (m:=m) (aJ _);rw [List.take_length] at hsub;have hne:iH f m f.length ≠ []:=fun e=>by have:=hnil e hm; omega
 generalize iH f m f.length=s at *;have hse:=qH hfe hsub hne;have hsf:∀ v ∈ s,v ∈ f:=fun v hv=>hsub.subset hv;have hsl:=hsub.length_le
 have hfS:∀ t:Spx,(∀ v ∈ t,v ∈ s)→bN c t ≠ []:=fun t ht e=>by
  have:=dA.2 ⟨hfm,fun v hv=>hsf v (ht v hv)⟩;rw [e] at this; cases this
 have s1:=xc c s t2 hse (hfS s fun v hv=>hv);have s2:=zj c s t2 hse (hfS s fun v hv=>hv);have hL:=pF (s:=s) t2
 have s3:=yL s (fU c s) hse hL (fun t ht v hv hv2=>by
  obtain ⟨_,g,_,_,e⟩:=(gB t2).1 ht;rw [← e] at hv;exact of_decide_eq_true (fR.1 hv).2 hv2) (fun t ht=>by
  obtain ⟨_,g,hg,_,e⟩:=(gB t2).1 ht;have h4:=t4 g hg;have:=List.length_filter_le (fun v=>decide (v ∉ s)) g;rw [e] at this;omega)
 rw [sB t2 hfm (bQ hse).2.2.1 hsf] at s3;have hS:=dW (s:=s) t2;have s4:=rf (bN c s) (bN c s) (show _ ≤ _ by have:=(bc hS).1; omega) (show _ ≤ _ by have:=(bc hS).1; omega) (fD hS) (fD hS);rw [bD rfl] at s4
 have hU:∀ v ∈ s,Pure Try.prog 6 [ca c,av [v]] (.tup [ca (bN c [v]),.int .i64 0])∧Pure Try.prog 10 [ca (bN c [v]),ca (bN c s)] (.tup [ca (bN c [v]),.int .i64 0])∧Pure Try.prog 9 [ca (bN c [v]),ca (bN c [v])] (.bool true):=fun v hv=>by
  have hv1:bL [v]=0:=qH hse (List.singleton_sublist.2 hv) (by simp);have hvS:=dW (s:=[v]) t2;have hvn:=hfS [v] fun u hu=>by rw [fF.1 hu]; exact hv
  have a1:=xc c [v] t2 hv1 hvn;have hun:=sV t2 hv;have a2:=xW (bN c [v]) (bN c s) hvS hS hvn (by rw [hun]; exact (bc hvS).1);rw [hun] at a2;have a3:=rf (bN c [v]) (bN c [v]) (show _ ≤ _ by have:=(bc hvS).1; omega) (show _ ≤ _ by have:=(bc hvS).1; omega) (fD hvS) (fD hvS);rw [bD rfl] at a3;exact ⟨a1,a2,a3⟩
 obtain ⟨Hf,H4,hfz,hsn,hoth⟩:=tE hrow;have g4:H4 0=some [ay c]:=(hoth 0 (fun e=>by have:=hbd 0 e; omega)).trans q0;have zk:decide (((f.length:Nat):Int) < f.length)=false:=bw (by omega);refine dp ?_;have zz:=@zk; repeat' (first|refine zO ?_|refine vY ?_|apply a_n)
 refine dp ?_;have zz:=@zk; repeat' (first|apply a_x|refine zO ?_|refine cFY ?_|apply a_n)
 refine dp ?_;refine kE Hf H4 [(2,.ptr 0 1 0),(5,av f),(6,.int .i64 m),(7,av s)] hfz ⟨.inl rfl,.inl rfl,.inl rfl,.inr hsn,trivial⟩ ?_;clear hnil hshl hfz hoth;generalize fU c s=K at *;generalize bN c s=S at *;have z00:decide ((0:Int) + 0 + 0 ≠ 0)=false:=rfl;have z0:decide ((0:Int) + 0 ≠ 0)=false:=rfl;have zz:=aI @g4 (aI @aE (aI @ax (aI @bP @bv))); repeat' (first|refine zW ?_|refine zO ?_|refine vY ?_|refine cY ?_ (hp:=by first | exact s1 | exact s2) (hs:=by (first | refine ac ?_ rfl | apply af); (repeat' (first | exact ae | apply am | apply ag | exact bF _ | exact aD _)); first | done | fail)|refine alY ?_|refine stY ?_|refine blY ?_|apply a_n)
 refine aA ev0 ev0 (y9 s3 (b:=nx1 + 1 + 1) (cs:=[av s]) al (aB (oo (aB (gJ (l:=[s]) (Row.box (sz:=1) (nx1 + 1 + 1) 1 [av s] f7 rfl)) ae)) (aB (bF K _) ae))) ?_;rintro _ H5 nx5 ⟨rfl,rfl,rfl⟩;have zz:=aI @g4 (aI @aE (aI @ax (aI @bP (aI @bv (aI @ar @z00))))); repeat' (first|refine zW ?_|refine zO ?_|refine vY ?_|refine cY ?_ (hp:=s4) (hs:=by (first | refine ac ?_ rfl | apply af); (repeat' (first | exact ae | apply am | apply ag | exact bF _ | exact aD _)); first | done | fail)|refine alY ?_|refine stY ?_|refine gTY ?_|refine cFY ?_|apply a_n)
 refine aU (X:=Nat) (fun i=>[(2,.ptr 0 1 0),(5,av f),(6,.int .i64 m),(10,.ptr nx1 1 0),(99,av s),(100,.int .i64 s.length),(101,.int .i64 i)]) (fun i H' nx'=>i ≤ s.length∧nx1 < nx'∧H' 0=some [ay c]∧H' nx1=some [ay S]) (fun i=>s.length - i) 0 ⟨cP _,by omega,?_,?_⟩ (by (iterate 7 refine And.intro rfl ?_); trivial) ?_
 ·rw [au (by omega),au (by omega),fG (by omega)]
  (repeat rw [au (by omega)])
  exact g4
 ·rw [au (by omega),au (by omega),fG (by omega)]
  (repeat rw [au (by omega)])
  rw [al];rfl
 rintro i H6 nx6 ⟨i1,i2,p0,p1⟩;by_cases hi:i < s.length
 rotate_left
 ·have z:decide ((i:Int) < s.length)=false:=bw (by omega);have zz:=@z; repeat' (first|refine zW ?_|apply a_x|refine zO ?_|refine vY ?_|refine cFY ?_|apply a_n)
  exact ⟨m + 1,by omega,⟨by omega,by omega,by omega,p0⟩,ag0⟩
 have zi:decide ((i:Int) < s.length)=true:=bD (by omega);have iz:=ix2 hi;obtain ⟨b1,b2,b3⟩:=hU _ (aX hi);generalize s.getD i default=v at *;generalize bN c [v]=W at *;have zz:=aI @zi (aI @iz (aI @p0 (aI @aE @ax))); repeat' (first|refine zW ?_|refine zO ?_|refine vY ?_|refine alY ?_|refine stY ?_|refine blY ?_|refine cTY ?_|apply a_n)
 refine aA ev0 ev0 (y9 b1 (b:=nx6 + 1) (cs:=cX [v]) al (aB (bF c _) (aB (qs (Row.box (sz:=2) (nx6 + 1) 1 (cX [v]) f7 rfl)) ae))) ?_;rintro _ H7 nx7 ⟨rfl,rfl,rfl⟩;have zz:=aI @p0 (aI @p1 (aI @aE (aI @ax @z0))); repeat' (first|refine zW ?_|refine zO ?_|refine vY ?_|refine cY ?_ (hp:=by first | exact b2 | exact b3) (hs:=by (first | refine ac ?_ rfl | apply af); (repeat' (first | exact ae | apply am | apply ag | exact bF _)); first | done | fail)|refine alY ?_|refine stY ?_|refine gTY ?_|refine cFY ?_|apply a_n)
 have lo:∀ x,x < nx6→aj (aj (aj (aj (cb (aj (aj (aj H6 nx6 [AV.int IntKind.i64 0,AV.int IntKind.i64 0]) nx6 (bn [AV.int IntKind.i64 0,AV.int IntKind.i64 0] 0 [AV.int IntKind.i64 v.color,AV.int IntKind.i64 v.label])) (nx6 + 1) [AV.int IntKind.i64 v.color,AV.int IntKind.i64 v.label]) (nx6 + 1)) (nx6 + 1 + 1) [AV.esl]) (nx6 + 2) (bn [AV.esl] 0 [ay W])) (nx6 + 1 + 1 + 1) [AV.esl]) (nx6 + 3) (bn [AV.esl] 0 [ay W]) x=H6 x:=fun x hx=>by
  rw [au (by omega),au (by omega),au (by omega),au (by omega),fG (by omega)]
  (repeat rw [au (by omega)])
 exact ⟨i + 1,by omega,⟨by omega,by omega,(lo 0 (by omega)).trans p0,(lo nx1 (by omega)).trans p1⟩,ag0⟩
end Go.Proofs.Ytpfkjcjgdilkkaa
namespace Go.Proofs.Ytpfkjcjgdilkkaa
open Go Go.Abs Go.RowKit
section
variable {H:Type} {enc:TypeId × Value→H} {W:World}
theorem oi:dE enc Try.prog W 3 (AV.int .i64) (fun n=>(Lit.int .i64 n).wf=true):=pm Try.underlying3
set_option maxRecDepth 100000 in
theorem A8:dE enc Try.prog W 29 bV (fun _=>True) :=
 (jT Try.underlying29 (by kernel_rfl) (i7 (off:=0) (off':=1) rfl (by kernel_rfl) oi (i7 (off:=1) (off':=2) rfl (by kernel_rfl) oi oh))).map
  (fun a=>(⟨a.1,a.2.1⟩:Vtx)) (fun _ _=>trivial) (fun _ _=>rfl)
theorem oXs:dE enc Try.prog W 27 av Shn :=
 (l4 Try.underlying27 (sz:=2) (by_:=16) (by kernel_rfl) (by kernel_rfl) (by omega) (fun _=>rfl) A8).mono fun l h=>by have:=h.2.2; show _ ≤ _; omega
theorem Bb:dE enc Try.prog W 22 ay (fun l=>Shn l∧∀ x ∈ l,Shn x) :=
 (l4 Try.underlying22 (sz:=1) (by_:=24) (by kernel_rfl) (by kernel_rfl) Nat.one_pos (fun _=>rfl) oXs).mono fun l h=>⟨by have:=h.2.2; show _ ≤ _; omega,h.1⟩
set_option maxRecDepth 100000 in
theorem oCx:dE enc Try.prog W 24 ca (fun l=>Shn l∧∀ x ∈ l,Shn x) :=
 (jT Try.underlying24 (by kernel_rfl) (i7 (off:=0) (off':=1) rfl (by kernel_rfl) Bb oh)).map
  (fun a=>a.1) (by rintro ⟨n,u⟩ ⟨h1,_⟩; exact h1) (fun _ _=>rfl)
end
theorem mC {f:FuncId} {xs:List AV} {vs:List Value} (h:Go.Abs.Pure Try.prog f xs (.bool true)) (w:World) (hv:cA (E0 (oE w)) w xs vs) :
    Calls Try.prog f vs.toArray w fun e w'=>e=.returned (.bool true)∧Below w.heap.size w w':=by
 refine (h.2 (oE w) w vs (fun _ h=>h) hv).mono ?_;rintro e w' ⟨v,imm',rfl,hb,_,_,_,hr⟩;cases hr;exact ⟨rfl,hb⟩
theorem A3:laidOutB Try.prog=true:=by kernel_rfl
end Go.Proofs.Ytpfkjcjgdilkkaa
namespace Go.Proofs.Ytpfkjcjgdilkkaa
open Go Go.Abs
attribute [local irreducible] aO aq bI bM bk bx aM bA bR cz Go.Abs.Fn bK Go.Abs.Pure aQ a7 Yl
def Bw (x:List Int):AV:=.agg (x.map (AV.int .i64))
def K16:Type:={x:List Int // x.length=16}
instance:DecidableEq K16:=inferInstanceAs (DecidableEq {x:List Int // x.length=16})
def eK (x:K16):AV:=Bw x.1
def vQ (l:List Nat):List Int:=l.map fun (n:Nat)=>(n:Int)
structure MatOk (H:Hp) (b lo hi n:Nat) (F:Nat→List Nat) (vs:List AV):Prop where
 box:H b=some vs
 len:vs.length=n
 row:∀ j,j < n→Row H 1 (vs.getD j .undef) ((F j).map uE)
 bnd:∀ j B,j < n→c7 (vs.getD j .undef)=some B→lo ≤ B∧B < hi∧B ≠ b
 apart:∀ i j B,i < n→j < n→i ≠ j→c7 (vs.getD i .undef)=some B→c7 (vs.getD j .undef) ≠ some B
theorem MatOk.same {H H':Hp} {b lo hi hi' n:Nat} {F G:Nat→List Nat} {vs:List AV} (h:MatOk H b lo hi n F vs) (hb:H' b=H b) (hs:∀ x,lo ≤ x→x < hi→x ≠ b→H' x=H x) (hh:hi ≤ hi') (hG:∀ j,j < n→G j=F j):MatOk H' b lo hi' n G vs :=
 ⟨hb.trans h.box,h.len,fun j hj=>by rw [hG j hj]; exact (h.row j hj).same fun B hB=>by have:=h.bnd j B hj hB; exact hs B this.1 this.2.1 this.2.2,fun j B hj hB=>by have:=h.bnd j B hj hB; exact ⟨this.1,by omega,this.2.2⟩,h.apart⟩
theorem MatOk.put {H H':Hp} {b lo hi hi' n i x:Nat} {F G:Nat→List Nat} {vs:List AV} {sv:AV} (h:MatOk H b lo hi n F vs) (hin:i < n) (hG:∀ j,j < n→G j=if j=i then F j ++ [x] else F j) (hrow:Row H' 1 sv ((F i ++ [x]).map uE)) (hB:∀ B,c7 sv=some B→c7 (vs.getD i .undef)=some B ∨ hi ≤ B∧B < hi'∧B ≠ b) (hb:H' b=some (vs.set i sv))
    (hs:∀ x,lo ≤ x→x < hi→x ≠ b→c7 (vs.getD i .undef) ≠ some x→H' x=H x) (hh:hi ≤ hi') (hlo:lo ≤ hi):MatOk H' b lo hi' n G (vs.set i sv):=by
 have hl:=h.len;have hg:∀ j,(vs.set i sv).getD j .undef=if i=j then sv else vs.getD j .undef:=fun j=>pk (by omega)
 refine ⟨hb,by simp [hl],fun j hj=>?_,fun j B hj=>?_,fun p q B hp hq hpq=>?_⟩
 ·rw [hg,hG j hj];by_cases e:i=j
  ·rw [if_pos e,if_pos e.symm,← e]; exact hrow
  ·rw [if_neg e,if_neg (fun h=>e h.symm)]
   exact (h.row j hj).same fun B hB'=>by
    have:=h.bnd j B hj hB';exact hs B this.1 this.2.1 this.2.2 fun h'=>h.apart i j B hin hj e h' hB'
 ·rw [hg];by_cases e:i=j
  ·rw [if_pos e];intro hB';rcases hB B hB' with h' | h'
   ·have:=h.bnd _ B hin h'; exact ⟨this.1,by omega,this.2.2⟩
   ·exact ⟨by omega,h'.2⟩
  ·rw [if_neg e];intro hB';have:=h.bnd j B hj hB';exact ⟨this.1,by omega,this.2.2⟩
 ·rw [hg,hg];by_cases e1:i=p
  ·rw [if_pos e1,if_neg (by omega)];intro h1 h2;rcases hB B h1 with h' | h'
   ·exact h.apart i q B hin hq (by omega) h' h2
   ·have:=h.bnd q B hq h2; omega
  ·rw [if_neg e1];by_cases e2:i=q
   ·rw [if_pos e2];intro h1 h2;rcases hB B h2 with h' | h'
    ·exact h.apart p i B hp hin (by omega) h1 h'
    ·have:=h.bnd p B hp h1; omega
   ·rw [if_neg e2]; exact h.apart p q B hp hq hpq
theorem MatOk.snap {H:Hp} {b lo hi n:Nat} {F:Nat→List Nat} {vs:List AV} (h:MatOk H b lo hi n F vs):Snap H (.msl b n 1 0 n) (f0 ((List.range n).map fun i=>vQ (F i))):=by
 refine nw (l:=((List.range n).map fun i=>vQ (F i)).map dV) h.box h.len (by omega) (by simp) (fun y hy=>?_) (fun i a c ha hc=>?_)
 ·obtain ⟨z,_,rfl⟩:=eE.1 hy; rfl
 ·have hin:i < n:=by
    have:=(bj.1 hc).1;simpa using this
  have hr:=h.row i hin;rw [bU] at ha;have e1:vs.getD i .undef=a:=by rw [List.getD_eq_getElem?_getD,ha]; rfl
  rw [e1] at hr
  have e2:c=dV (vQ (F i)):=by
   rw [jH,jH,List.getElem?_range hin] at hc;simpa using hc.symm
  rw [e2];exact rq hr
theorem MatOk.new {H:Hp} {b lo hi n:Nat} {F:Nat→List Nat} (hb:H b=some (List.replicate n .esl)) (hF:∀ j,j < n→F j=[]):MatOk H b lo hi n F (List.replicate n .esl):=by
 have hg:∀ j,j < n→(List.replicate n AV.esl).getD j .undef=.esl:=fun j hj=>by simp [List.getD,List.getElem?_replicate,hj]
 refine ⟨hb,by simp,fun j hj=>?_,fun j B hj h=>?_,fun i j B hi hj _ h=>?_⟩
 ·rw [hg j hj,hF j hj]; exact Row.nil
 ·rw [hg j hj] at h; cases h
 ·rw [hg i hi] at h; cases h
structure PairV where
 a:List Spx
 b:List Spx
 d:Int
end Go.Proofs.Ytpfkjcjgdilkkaa
namespace Go.Proofs.Ytpfkjcjgdilkkaa
open Go Go.Abs Go.RowKit
theorem wf8 {n:Int} (h:(Lit.int .u8 n).wf=true):0 ≤ n∧n < 256:=by
 simp only [Lit.wf,d8,gv] at h;have h1:IntKind.min .u8=0:=by decide
 have h2:IntKind.max .u8=255:=by decide
 omega
section
variable {H:Type} {enc:TypeId × Value→H} {W:World}
theorem ou8:dE enc Try.prog W 5 (fun n:Nat=>AV.int .u8 (n:Int)) (fun n=>n < 256) :=
 (pm Try.underlying5).map (fun n=>n.toNat) (fun n h=>by
  have h2:=wf8 h;omega) (fun n h=>by
  have h2:=wf8 h;rw [Int.toNat_of_nonneg h2.1])
end
end Go.Proofs.Ytpfkjcjgdilkkaa
namespace Go.Proofs.Ytpfkjcjgdilkkaa
open Go Go.Abs
section
variable {α:Type} {K:α→α→Int}
end
section
variable {α:Type} [DecidableEq α] {K:α→α→Int}
end
section
variable {g:Vtx→Vtx}
end
attribute [local irreducible] aO aq bI bM bk bx aM bA bR cz Go.Abs.Fn bK Go.Abs.Pure aQ a7 Yl
def Aa (l:List Int):Prop:=l.Pairwise (· < ·)
theorem Aa.nodup {l:List Int} (h:Aa l):l.Nodup:=List.Pairwise.imp (fun {x y} (h:x < y) e=>by omega) h
def tZ (l:List (List Spx)):AV:=fS 1 ay l
theorem qG (l:List (List Spx)):Dat (tZ l):=pq (fun _=>rfl) bz
instance datI_encXsss {l:List (List Spx)}:DatI (tZ l):=⟨qG l⟩
end Go.Proofs.Ytpfkjcjgdilkkaa
namespace Go.Proofs.Ytpfkjcjgdilkkaa
open Go Go.Abs
open Nat (reduceEqDiff reduceAdd reduceLeDiff)
attribute [local irreducible] aO aq bI bM bk bx aM bA bR cz Go.Abs.Fn bK Go.Abs.Pure aQ a7 Yl
end Go.Proofs.Ytpfkjcjgdilkkaa
namespace Go.Proofs.Ytpfkjcjgdilkkaa
open Go Go.Abs
def vw:Nat→Spx→List Int
 | 0,_=>[]
 | n + 1,[]=>0 :: 0 :: vw n []
 | n + 1,v :: l=>v.color :: v.label :: vw n l
theorem ol:∀ {n:Nat} {s:Spx},(vw n s).length=2 * n
 | 0,_=>rfl
 | n + 1,[]=>by show (vw n []).length + 1 + 1=_; rw [ol]; omega
 | n + 1,v :: l=>by show (vw n l).length + 1 + 1=_; rw [ol]; omega
def kZ (s:Spx):K16:=⟨vw 8 s,by rw [ol]⟩
structure BOk (H:Hp) (n:Nat) (c:Spx→Nat) (O:List Spx) (bs:List Nat) (ck:Nat):Prop where
 box:H 0=some [.bmap ((O.map kZ).map eK) (O.map av) bs ck]
 len:bs.length=O.length
 asc:bs.Pairwise (· < ·)
 below:∀ s ∈ bs,s < ck
 nd:O.Nodup
 all:∀ f ∈ O,f.length=n
 odd:∀ f,f ∈ O ↔ c f % 2=1
theorem BOk.same {H H':Hp} {n:Nat} {c c':Spx→Nat} {O:List Spx} {bs:List Nat} {ck:Nat} (h:BOk H n c O bs ck) (hs:H' 0=H 0) (hc:∀ f,c' f % 2=c f % 2):BOk H' n c' O bs ck :=
 ⟨hs.trans h.box,h.len,h.asc,h.below,h.nd,h.all,fun f=>by rw [hc]; exact h.odd f⟩
theorem BOk.put {H H':Hp} {n:Nat} {c c':Spx→Nat} {O:List Spx} {bs:List Nat} {ck:Nat} {f:Spx} (h:BOk H n c O bs ck) (hf:f ∉ O) (hl:f.length=n) (hH:H' 0=some [.bmap ((O.map kZ).map eK ++ [eK (kZ f)]) (O.map av ++ [av f]) (bs ++ [ck]) (ck + 1)]) (hc:∀ g,c' g=c g + if g=f then 1 else 0):BOk H' n c' (O ++ [f]) (bs ++ [ck]) (ck + 1):=by
 refine ⟨by rw [hH]; simp,by rw [ea,ea,h.len]; rfl,?_,fun s hs=>?_,?_,fun g hg=>?_,fun g=>?_⟩
 ·exact List.pairwise_append.2 ⟨h.asc,List.pairwise_singleton _ _,fun a ha b hb=>by rw [fF.1 hb]; exact h.below a ha⟩
 ·rcases jk.1 hs with q | q
  ·have:=h.below s q; omega
  ·rw [fF.1 q]; omega
 ·exact List.nodup_append.2 ⟨h.nd,by simp,fun a ha b hb e=>by rw [e,fF.1 hb] at ha; exact hf ha⟩
 ·rcases jk.1 hg with q | q
  ·exact h.all g q
  ·rw [fF.1 q]; exact hl
 ·rw [jk,fF,h.odd,hc];by_cases e:g=f
  ·subst e;have:¬ c g % 2=1:=fun q=>hf ((h.odd g).2 q);rw [if_pos rfl];exact ⟨fun _=>by omega,fun _=>.inr rfl⟩
  ·rw [if_neg e]; simp [e]
theorem e5 {α β:Type} {f:α→β}:∀ {l:List α} {i:Nat},(l.map f).eraseIdx i=(l.eraseIdx i).map f
 | [],_=>rfl
 | a :: l,0=>rfl
 | a :: l,i + 1=>by show f a :: (l.map f).eraseIdx i=f a :: (l.eraseIdx i).map f; rw [e5]
theorem BOk.del {H H':Hp} {n:Nat} {c c':Spx→Nat} {O:List Spx} {bs:List Nat} {ck i:Nat} {f:Spx} (h:BOk H n c O bs ck) (hf:f ∈ O) (hi:O.idxOf f=i) (hH:H' 0=some [.bmap (((O.map kZ).map eK).eraseIdx i) ((O.map av).eraseIdx i) (bs.eraseIdx i) ck]) (hc:∀ g,c' g=c g + if g=f then 1 else 0):BOk H' n c' (O.erase f) (bs.eraseIdx i) ck:=by
 have hil:i < O.length:=by rw [← hi]; exact List.idxOf_lt_length_iff.2 hf
 have he:O.erase f=O.eraseIdx i:=List.erase_eq_eraseIdx_of_idxOf hi;refine ⟨?_,?_,h.asc.sublist (List.eraseIdx_sublist _ _),fun s hs=>h.below s ((List.eraseIdx_sublist _ _).subset hs),h.nd.erase _,fun g hg=>h.all g (List.mem_of_mem_erase hg),fun g=>?_⟩
 ·rw [hH,he];rw [e5,e5,e5]
 ·rw [he,List.length_eraseIdx_of_lt hil,List.length_eraseIdx_of_lt (by rw [h.len]; exact hil),h.len]
 ·rw [h.nd.mem_erase_iff,h.odd,hc];by_cases e:g=f
  ·subst e;have:=(h.odd g).1 hf;rw [if_pos rfl];constructor
   ·exact fun q=>absurd rfl q.1
   ·intro q; omega
  ·rw [if_neg e]; simp [e]
attribute [local irreducible] aO aq bI bM bk bx aM bA bR cz Go.Abs.Fn bK Go.Abs.Pure aQ a7 Yl
def Ay (l:List Nat):AV:=fS 1 (fun n:Nat=>AV.int .u8 (n:Int)) l
theorem wP (l:List Nat):Dat (Ay l):=pq (fun _=>rfl) (fun _=>Dat.int)
instance datI_encU {l:List Nat}:DatI (Ay l):=⟨wP l⟩
end Go.Proofs.Ytpfkjcjgdilkkaa
namespace Go.Proofs.Ytpfkjcjgdilkkaa
open Go Go.Abs Go.RowKit
section
variable {H:Type} {enc:TypeId × Value→H} {W:World}
end
end Go.Proofs.Ytpfkjcjgdilkkaa
namespace Go.Proofs.Ytpfkjcjgdilkkaa
open Go Go.Abs Go.RowKit Go.ChangeShapes Go.WideShapes Go.ChangeAt
theorem oA {H:Type} {enc:TypeId × Value→H} {P:Program} {f:Func} {s:ChangeSpec} {apart fresh handsOn again:Bool} {W W':World} {args:Array Value} {v:Value} {ds gs:List (DataW H)} {before pa pv:List MemPlace}
    (hW:DataW.Whole enc P f.params.toList s.vars apart W args.toList ds gs before)
    (hres:∀ (b:Nat) (sp:Nat→Bool) (hd:Bool),DataW.TrodAll enc P W' b sp hd f.resultTypes.toList (v.resultList f.resultTypes.size) (s.fn H (ds ++ gs)).results [])
    (hargs:∀ sp:Nat→Bool,(∀ p ∈ before,sp p.block=true)→DataW.TrodAll enc P W' 0 sp true f.params.toList args.toList (s.fn H (ds ++ gs)).args pa)
    (hvars:∀ sp:Nat→Bool,(∀ p ∈ before,sp p.block=true)→DataW.TrodVars enc P W' sp s.vars (s.fn H (ds ++ gs)).vars pv)
    (hps:before=pa ++ pv) (hb:Below W.heap.size W W')
    (hok:∀ (j:Nat) (t:TypeId) (r:Value),f.resultTypes[j]?=some t→(v.resultList f.resultTypes.size)[j]?=some r→Value.okWide P W' .any 0 t r) :
    s.post enc P f apart fresh handsOn again W args v W':=by
 have hold:∀ p ∈ before,(fun b=>decide (b < W.heap.size)) p.block=true:=fun p hp=>by simpa using hW.lt p hp
 have hlt:=fun p hp=>hW.lt p hp;refine ⟨ds,gs,before,[],pa,pv,hW,hres _ _ _,hargs _ hold,hvars _ hold,World.keptBut_mono (fun p hp=>⟨hp,?_⟩) (hb.frame _),fun _=>?_⟩
 ·rw [hps,jk] at hp;exact Or.inr hp
 ·obtain ⟨_,_,_,_,_,hz,hn⟩:=hW;refine ⟨hok,_,_,([] ++ pa) ++ pv,⟨[] ++ pa,pv,trodAll_append (hargs _ (fun _ _=>rfl)) (hres _ _ _),hvars _ (fun _ _=>rfl),rfl,?_,?_⟩,?_⟩
  ·intro b off hp;have hp':MemPlace.cell b off ∈ before:=by rw [hps]; simpa using hp
   rw [hb.frozen (hlt _ hp')];exact hz b off hp'
  ·intro ha;have:=hn ha;rw [hps] at this;simpa using this
  ·intro p hp _;rw [hps];simpa using hp
theorem vK {E:Env} {w:World}:cA E w [] []:=⟨rfl,fun i x y h=>(by cases h)⟩
theorem pj {E:Env} {w:World} {x:AV} {y:Value} {xs:List AV} {ys:List Value} (h:Rel E w x y) (hs:cA E w xs ys):cA E w (x :: xs) (y :: ys):=by
 refine ⟨by simp [hs.1],fun i a b ha hb=>?_⟩;cases i with
 | zero=>simp at ha hb; subst ha hb; exact h
 | succ i=>simp at ha hb; exact hs.2 i a b ha hb
theorem own:ownKnob Try.prog.godebug=none:=by kernel_rfl
end Go.Proofs.Ytpfkjcjgdilkkaa