/- Texts of this claim, one after the other: T175, T176, T177, T179, T143, T178, T180, T181, A33, T122, T133, T144, T147, T148, T182, T183, T185, T163, T164, T160, T161, T162, T165, T190, T186, T187, T188, T118, T184, T149, T121. -/
import Derived.Test.YtfcenbapjhecfaaXG5
import Derived.Test.YtfcenbapjhecfaaXG4
import Derived.Test.YtfcenbapjhecfaaXG3
import Derived.Test.YtfcenbapjhecfaaRows
import Derived.WalkKit
import Derived.ProofKit
import Derived.OpenShut

set_option linter.unusedSimpArgs false
set_option linter.unusedVariables false
namespace Go.Proofs.Ytfcenbapjhecfaa
open Go Go.Abs
open Nat (reduceEqDiff reduceAdd reduceLeDiff)
def dW:Nat→Spx→List Int
 | 0,_=>[]
 | n + 1,[]=>0 :: 0 :: dW n []
 | n + 1,v :: l=>v.color :: v.label :: dW n l
theorem jM:∀ {n:Nat} {s:Spx},(dW n s).length=2 * n
 | 0,_=>rfl
 | n + 1,[]=>by show (dW n []).length + 1 + 1=_; rw [jM]; omega
 | n + 1,v :: l=>by show (dW n l).length + 1 + 1=_; rw [jM]; omega
theorem rL:∀ {n:Nat} {s t:Spx},s.length=t.length→t.length ≤ n→dW n s=dW n t→s=t
 | _,[],[],_,_,_=>rfl
 | _,[],w :: m,h,_,_=>absurd h (by simp)
 | _,v :: l,[],h,_,_=>absurd h (by simp)
 | 0,v :: l,w :: m,_,h,_=>absurd h (by simp)
 | n + 1,v :: l,w :: m,hl,hm,e=>by
  obtain ⟨e1,e2⟩:=List.cons.inj e
  obtain ⟨e2,e3⟩:=List.cons.inj e2
  have:=rL (n:=n) (by simpa using hl) (by simpa using hm) e3
  rw [this,iU.2 ⟨e1,e2⟩]
abbrev z16:List AV:=[.int .i64 0,.int .i64 0,.int .i64 0,.int .i64 0,.int .i64 0,.int .i64 0,.int .i64 0,.int .i64 0,.int .i64 0,.int .i64 0,.int .i64 0,.int .i64 0,.int .i64 0,.int .i64 0,.int .i64 0,.int .i64 0]
theorem yN:z16=(dW 8 []).map (AV.int .i64):=rfl
theorem qs:∀ {n:Nat} {s:Spx},s.length ≤ n→cX s ++ ((dW n []).map (AV.int .i64)).drop (s.length * 2)=(dW n s).map (AV.int .i64)
 | n,[],_=>by simp [cX]
 | 0,_ :: _,h=>absurd h (by simp)
 | n + 1,v :: l,h=>by
  have:=qs (n:=n) (s:=l) (by simp at h; omega)
  show [AV.int .i64 v.color,AV.int .i64 v.label] ++ cX l ++ _=AV.int .i64 v.color :: AV.int .i64 v.label :: (dW n l).map (AV.int .i64)
  rw [← this,List.length_cons,show (l.length + 1) * 2=l.length * 2 + 1 + 1 by omega]
  rfl
def kZ (s:Spx):K16:=⟨dW 8 s,by rw [jM]⟩
theorem vM {s t:Spx} (h:s.length=t.length) (h8:t.length ≤ 8) (e:kZ s=kZ t):s=t:=rL h h8 (congrArg Subtype.val e)
theorem wM {O:List Spx} {f:Spx} {n:Nat} (hn:n ≤ 8) (hO:∀ s ∈ O,s.length=n) (hf:f.length=n):kZ f ∈ O.map kZ ↔ f ∈ O:=by
 rw [List.mem_map]
 exact ⟨fun ⟨s,h1,h2⟩=>by rw [← vM (by rw [hO s h1,hf]) (by omega) h2]; exact h1,fun h=>⟨f,h,rfl⟩⟩
theorem v4 {f:Spx} {n:Nat} (hn:n ≤ 8) (hf:f.length=n):∀ {O:List Spx},(∀ s ∈ O,s.length=n)→(O.map kZ).idxOf (kZ f)=O.idxOf f
 | [],_=>rfl
 | g :: O,hO=>by
  have ih:=v4 hn hf (O:=O) fun s hs=>hO s (List.mem_cons_of_mem _ hs)
  have hg:=hO g List.mem_cons_self
  rw [List.map_cons,List.idxOf_cons,List.idxOf_cons,ih]
  have e:(kZ g == kZ f)=(g == f):=by
   rw [Bool.eq_iff_iff,beq_iff_eq,beq_iff_eq]
   exact ⟨fun h=>vM (by rw [hg,hf]) (by omega) h,fun h=>by rw [h]⟩
  rw [e]
structure BOk (H:Hp) (n:Nat) (c:Spx→Nat) (O:List Spx) (bs:List Nat) (ck:Nat):Prop where
 box:H 0=some [.bmap ((O.map kZ).map eK) (O.map av) bs ck]
 len:bs.length=O.length
 asc:bs.Pairwise (· < ·)
 below:∀ s ∈ bs,s < ck
 nd:O.Nodup
 all:∀ f ∈ O,f.length=n
 odd:∀ f,f ∈ O ↔ c f % 2=1
theorem BOk.same {H H':Hp} {n:Nat} {c c':Spx→Nat} {O:List Spx} {bs:List Nat} {ck:Nat} (h:BOk H n c O bs ck) (hs:H' 0=H 0) (hc:∀ f,c' f % 2=c f % 2):BOk H' n c' O bs ck :=
 ⟨hs.trans h.box,h.len,h.asc,h.below,h.nd,h.all,fun f=>by rw [hc]; exact h.odd f⟩
theorem BOk.put {H H':Hp} {n:Nat} {c c':Spx→Nat} {O:List Spx} {bs:List Nat} {ck:Nat} {f:Spx} (h:BOk H n c O bs ck) (hf:f ∉ O) (hl:f.length=n) (hH:H' 0=some [.bmap ((O.map kZ).map eK ++ [eK (kZ f)]) (O.map av ++ [av f]) (bs ++ [ck]) (ck + 1)]) (hc:∀ g,c' g=c g + if g=f then 1 else 0):BOk H' n c' (O ++ [f]) (bs ++ [ck]) (ck + 1):=by
 refine ⟨by rw [hH]; simp,by rw [List.length_append,List.length_append,h.len]; rfl,?_,fun s hs=>?_,?_,fun g hg=>?_,fun g=>?_⟩
 ·exact List.pairwise_append.2 ⟨h.asc,List.pairwise_singleton _ _,fun a ha b hb=>by rw [List.mem_singleton.1 hb]; exact h.below a ha⟩
 ·rcases List.mem_append.1 hs with q | q
  ·have:=h.below s q; omega
  ·rw [List.mem_singleton.1 q]; omega
 ·exact List.nodup_append.2 ⟨h.nd,by simp,fun a ha b hb e=>by rw [e,List.mem_singleton.1 hb] at ha; exact hf ha⟩
 ·rcases List.mem_append.1 hg with q | q
  ·exact h.all g q
  ·rw [List.mem_singleton.1 q]; exact hl
 ·rw [List.mem_append,List.mem_singleton,h.odd,hc]
  by_cases e:g=f
  ·subst e
   have:¬ c g % 2=1:=fun q=>hf ((h.odd g).2 q)
   rw [if_pos rfl]
   exact ⟨fun _=>by omega,fun _=>.inr rfl⟩
  ·rw [if_neg e]; simp [e]
theorem dY {α β:Type} {f:α→β}:∀ {l:List α} {i:Nat},(l.map f).eraseIdx i=(l.eraseIdx i).map f
 | [],_=>rfl
 | a :: l,0=>rfl
 | a :: l,i + 1=>by show f a :: (l.map f).eraseIdx i=f a :: (l.eraseIdx i).map f; rw [dY]
theorem BOk.del {H H':Hp} {n:Nat} {c c':Spx→Nat} {O:List Spx} {bs:List Nat} {ck i:Nat} {f:Spx} (h:BOk H n c O bs ck) (hf:f ∈ O) (hi:O.idxOf f=i) (hH:H' 0=some [.bmap (((O.map kZ).map eK).eraseIdx i) ((O.map av).eraseIdx i) (bs.eraseIdx i) ck]) (hc:∀ g,c' g=c g + if g=f then 1 else 0):BOk H' n c' (O.erase f) (bs.eraseIdx i) ck:=by
 have hil:i < O.length:=by rw [← hi]; exact List.idxOf_lt_length_iff.2 hf
 have he:O.erase f=O.eraseIdx i:=List.erase_eq_eraseIdx_of_idxOf hi
 refine ⟨?_,?_,h.asc.sublist (List.eraseIdx_sublist _ _),fun s hs=>h.below s ((List.eraseIdx_sublist _ _).subset hs),h.nd.erase _,fun g hg=>h.all g (List.mem_of_mem_erase hg),fun g=>?_⟩
 ·rw [hH,he]
  rw [dY,dY,dY]
 ·rw [he,List.length_eraseIdx_of_lt hil,List.length_eraseIdx_of_lt (by rw [h.len]; exact hil),h.len]
 ·rw [h.nd.mem_erase_iff,h.odd,hc]
  by_cases e:g=f
  ·subst e
   have:=(h.odd g).1 hf
   rw [if_pos rfl]
   constructor
   ·exact fun q=>absurd rfl q.1
   ·intro q; omega
  ·rw [if_neg e]; simp [e]
theorem gw {α:Type} [DecidableEq α] {a b:List α} (h:a.Nodup) (hs:∀ x ∈ a,x ∈ b):a.length ≤ b.length:=List.Nodup.length_le_of_subset h hs
theorem uX {l:List Spx} {s f:Spx}:ib (l ++ [s]) f=ib l f + (bm s).count f:=by unfold ib; simp
theorem sw {D:List Spx} {f g:Spx} {m:Nat}:m + (D ++ [f]).count g=m + D.count g + if g=f then 1 else 0:=by
 rw [List.count_append,List.count_singleton,Nat.add_assoc]
 congr 2
 by_cases e:g=f
 ·subst e; simp
 ·rw [if_neg e,if_neg]; simp only [beq_iff_eq]; exact fun h=>e h.symm
theorem oE {O:List Spx} {i:Nat} (h:i < O.length):(O.map av).getD i .undef=av (O.getD i default):=by simp [List.getD,h]
attribute [local irreducible] aB ai aW aN aG aH ay aJ aO ba Go.Abs.Fn aM Go.Abs.Pure ar aE Yl
theorem wO {n:Nat} {c:Spx→Nat} {O:List Spx} {bs:List Nat} {ck:Nat} {f:Spx} {H:Hp} (hn:n ≤ 8) (h:BOk H n c O bs ck) (hf:f.length=n) :
    bE (.st [.int,.int,.int,.int,.int,.int,.int,.int,.int,.int,.int,.int,.int,.int,.int,.int]) (eK (kZ f)) ((O.map kZ).map eK)=some (if f ∈ O then some (O.idxOf f) else none):=by
 rw [w9,v4 hn hf h.all]
 by_cases e:f ∈ O
 ·rw [if_pos e,if_pos ((wM hn h.all hf).2 e)]
 ·rw [if_neg e,if_neg fun q=>e ((wM hn h.all hf).1 q)]
set_option maxHeartbeats 1000000 in
theorem l6 (a:List Spx) (n:Nat) (hn:n ≤ 8) (ha:a.length ≤ 4096) (hv:∀ s ∈ a,bi bt s) (hl:∀ s ∈ a,s.length=n + 1 ∨ s.length < 2) (h8:∀ s ∈ a,s.length ≤ 8):Pure Try.prog 46 [au a] (au (bA a)):=by
 refine Pure.of_c2 follows A6 (Nat.le_of_ble_eq_true rfl) ?_
 simp only [b46,cO,cG,cN,cM,cD,cF,cB,aA,aR]
 refine dE ?_
 (have zz:=and_self; repeat' (first|apply a_n|refine zO ?_|refine vY ?_|fail)) <;> (try clear zz)
 refine dE ?_
 (have zz:=and_self; repeat' (first|apply a_n|refine zO ?_|fail)) <;> (try clear zz)
 refine yE ?_
 refine pp (cs:=[.nilm]) rfl rfl rfl ?_
 (have zz:=and_self; repeat' (first|apply a_n|refine zO ?_|refine stY ?_|fail)) <;> (try clear zz)
 refine bv (fun T H nx=>T 3=.ptr 1 1 0∧2 ≤ nx∧H 1=some [.mp 0]∧∃ O bs ck,BOk H n (ib a) O bs ck) ?_ ?_
 ·(have zz:=@ag; repeat' (first|refine zW ?_|apply a_n|refine zO ?_|refine vY ?_|fail)) <;> (try clear zz)
  refine bd (X:=Nat) (fun k=>[(3,.ptr 1 1 0),(14,au a),(15,.int .i64 a.length),(16,.int .i64 k)]) (fun k H nx=>k ≤ a.length∧2 ≤ nx∧H 1=some [.mp 0]∧∃ O bs ck,BOk H n (ib (a.take k)) O bs ck) (fun k=>a.length - k) 0 ⟨Nat.zero_le _,Nat.le_refl _,by rw [ah]; rfl,[],[],0,⟨by rw [af (by omega),af (by omega),ah]; rfl,rfl,List.Pairwise.nil,fun s h=>(by cases h),List.nodup_nil,fun s h=>(by cases h),fun f=>⟨fun h=>(by cases h),fun h=>absurd h (by rw [List.take_zero]; exact (by decide:¬ (0:Nat) % 2=1))⟩⟩⟩ (by (iterate 4 refine And.intro rfl ?_); trivial) ?_
  rintro k H nx ⟨h1,h2,h3,O,bs,ck,h4⟩
  by_cases hk:k < a.length
  rotate_left
  ·rw [List.take_of_length_le (by omega)] at h4
   (have zz:=and_self; repeat' (first|refine zW ?_|apply a_n|apply a_x|refine zO ?_|refine vY ?_|(refine zGY ?_ ?_ <;> (intro _hg; try (exfalso; omega)))|fail)) <;> (try clear zz)
   exact ⟨rfl,h2,h3,O,bs,ck,h4⟩
  have ix:=dH hk
  have hts:=cC hk
  have hvs:=hv _ (aP hk)
  have hls:=hl _ (aP hk)
  have h8s:=h8 _ (aP hk)
  generalize a.getD k default=s at *
  (have zz:=@ix; repeat' (first|refine zW ?_|apply a_n|refine zO ?_|refine vY ?_|(refine zGY ?_ ?_ <;> (intro _hg; try (exfalso; omega)))|fail)) <;> (try clear zz)
  refine aV ev0 ev0 (oC s H nx) ?_
  rintro _ H1 nx1 ⟨rfl,rfl,rfl⟩
  (have zz:=and_self; repeat' (first|refine zW ?_|apply a_n|refine zO ?_|fail)) <;> (try clear zz)
  refine kq (nx + 1) (nx + 2) rfl rfl ev0 (fun c0 cj hy=>?_)
  refine Abs.Fn.mono (oo (nx:=nx + 2) (y:=nx + 1) (sb:=nx) (s:=s) (by omega) (fun D H' nx'=>nx + 2 ≤ nx'∧H' nx=some [av s]∧H' (nx + 1)=some [c0]∧H' 1=some [.mp 0]∧∃ O bs ck,BOk H' n (fun f=>ib (a.take k) f + D.count f) O bs ck) ?_ ?_ ?_ ?_) ?_
  ·rintro D H' nx' ⟨g1,g2,g3,g4⟩
   exact g2
  ·rintro D H' H'' n1 n2 ⟨g1,g2,g3,g4,O,bs,ck,g5⟩ hle hsm
   exact ⟨by omega,(hsm _ (by omega)).trans g2,(hsm _ (by omega)).trans g3,(hsm _ (by omega)).trans g4,O,bs,ck,g5.same (hsm _ (by omega)) fun _=>rfl⟩
  ·rintro D f H' nx' ⟨g1,g2,g3,g4,O,bs,ck,g5⟩ hlt hfe hDe
   refine hy _ _ _ _ g3 rfl ?_
   clear hy
   have h2s:2 ≤ s.length:=Nat.le_of_not_lt fun h=>by
    have:fcs s=[]:=by unfold fcs; rw [if_pos h]
    rw [this] at hlt; simp at hlt
   have hfl:f.length=n:=by
    rw [hfe,tB h2s (by rw [pb h2s] at hlt; exact hlt),List.length_append,List.length_take,List.length_drop]
    rw [pb h2s] at hlt
    omega
   clear hfe hDe
   (have zz:=and_self; repeat' (first|apply a_n|refine zO ?_|refine vY ?_|fail)) <;> (try clear zz)
   refine ⟨g3,?_⟩
   have hmf:=wO hn g5 hfl
   have q0:=(ce (H:=H') (b:=nx + 1) (x:=0) (by omega)).trans g5.box
   have q1:=(ce (H:=H') (b:=nx + 1) (x:=1) (by omega)).trans g4
   have q2:=(ce (H:=H') (b:=nx + 1) (x:=nx) (by omega)).trans g2
   generalize bT H' (nx + 1)=H2 at *
   (have zz:=and_self; repeat' (first|refine zW ?_|apply a_n|refine zO ?_|refine alY ?_|fail)) <;> (try clear zz)
   generalize hH3:aq H2 nx' z16=H3
   have p0:H3 0=H2 0:=by rw [← hH3]; exact af (by omega)
   have p1:H3 1=H2 1:=by rw [← hH3]; exact af (by omega)
   have p2:H3 nx=H2 nx:=by rw [← hH3]; exact af (by omega)
   have p3:H3 nx'=some z16:=by rw [← hH3]; exact ah
   clear hH3
   refine yv rfl p3 rfl rfl ?_
   (have zz:=and_self; repeat' (first|apply a_n|refine zO ?_|refine vY ?_|fail)) <;> (try clear zz)
   refine yn (n:=f.length) (H':=aq H3 nx' ((dW 8 f).map (AV.int .i64))) ?_ ?_
   ·((try simp only [bQ,ZA,reduceEqDiff,↓reduceIte,reduceAdd,reduceLeDiff]); (try with_reducible rfl))
    have hnn:dJ (av f)=some f.length:=by unfold av eW; simp [dJ]
    have htr:ou f.length (av f)=av f:=by unfold av eW; simp [ou]; exact List.take_of_length_le (by simp)
    have hmin:min f.length 8=f.length:=Nat.min_eq_left (by omega)
    have hal:dJ (.msl nx' 16 2 0 8)=some 8:=rfl
    have hlp:bo z16 0 (cX f)=(dW 8 f).map (AV.int .i64):=by
     rw [← qs (n:=8) (s:=f) (by omega),yN]
     simp only [bo,List.take_zero,List.nil_append,Nat.zero_add,fl]
    by_cases hf0:f.length=0
    ·obtain rfl:=List.length_eq_zero_iff.1 hf0
     have e0:(dW 8 []).map (AV.int .i64)=z16:=rfl
     rw [e0,← uh p3]
     simp only [kX,hal,hnn,hmin]
     rfl
    ·simp only [kX,hal,hnn,hmin,if_neg hf0,p3,htr,qF]
     rw [if_pos (by refine ⟨?_,?_,?_,?_⟩ <;> first | rfl | trivial | omega | exact gP f),hlp]
   have hl16:((dW 8 f).map (AV.int .i64)).length=16:=by rw [List.length_map,jM]
   have ht:((dW 8 f).map (AV.int .i64)).take 16=(dW 8 f).map (AV.int .i64):=List.take_of_length_le (by omega)
   have r0:=(af (H:=H3) (b:=nx') (x:=0) (cs:=(dW 8 f).map (AV.int .i64)) (by omega)).trans (p0.trans q0)
   have r1:=(af (H:=H3) (b:=nx') (x:=1) (cs:=(dW 8 f).map (AV.int .i64)) (by omega)).trans (p1.trans q1)
   have r2:=(af (H:=H3) (b:=nx') (x:=nx) (cs:=(dW 8 f).map (AV.int .i64)) (by omega)).trans (p2.trans q2)
   have r3:aq H3 nx' ((dW 8 f).map (AV.int .i64)) nx'=some ((dW 8 f).map (AV.int .i64)):=ah
   generalize aq H3 nx' ((dW 8 f).map (AV.int .i64))=H4 at *
   have hek:eK (kZ f)=.agg ((dW 8 f).map (AV.int .i64)):=rfl
   have hkf:=tV (kZ f)
   rw [hek] at hmf hkf
   have hcnt:∀ g,ib (a.take k) g + (D ++ [f]).count g=ib (a.take k) g + D.count g + if g=f then 1 else 0:=fun g=>sw
   by_cases hf:f ∈ O
   ·rw [if_pos hf] at hmf
    have hil:O.idxOf f < O.length:=List.idxOf_lt_length_iff.2 hf
    have hgv:mget .esl true (some (O.idxOf f)) (O.map av)=.tup [av (O.getD (O.idxOf f) default),.bool true]:=by
     rw [← oE hil]; rfl
    generalize hKK:(dW 8 f).map (AV.int .i64)=KK at *
    (have zz:=aI @r1 (aI @r3 (aI @hl16 @ht)); repeat' (first|refine zW ?_|apply a_n|refine zO ?_|refine vY ?_|fail)) <;> (try clear zz)
    refine tF ev0 r0 ev0 hkf hmf ?_
    rw [hgv]
    (have zz:=aI @r1 (aI @r3 (aI @hl16 @ht)); repeat' (first|refine zW ?_|apply a_n|refine zO ?_|refine vY ?_|refine cTY ?_|fail)) <;> (try clear zz)
    refine yW ev0 r0 ev0 hkf hmf ?_
    (have zz:=and_self; repeat' (first|apply a_n|refine zO ?_|fail)) <;> (try clear zz)
    exact ⟨rfl,by omega,by rw [af (by omega),af (by omega)]; exact r2,ah,by rw [af (by omega),af (by omega)]; exact r1,O.erase f,bs.eraseIdx (O.idxOf f),ck,g5.del hf rfl (by rw [af (by omega),ah]; rfl) hcnt⟩
   ·rw [if_neg hf] at hmf
    have hgv:mget .esl true none (O.map av)=.tup [.esl,.bool false]:=rfl
    generalize hKK:(dW 8 f).map (AV.int .i64)=KK at *
    (have zz:=aI @r1 (aI @r3 (aI @hl16 @ht)); repeat' (first|refine zW ?_|apply a_n|refine zO ?_|refine vY ?_|fail)) <;> (try clear zz)
    refine tF ev0 r0 ev0 hkf hmf ?_
    rw [hgv]
    (have zz:=aI @r1 (aI @r3 (aI @hl16 @ht)); repeat' (first|refine zW ?_|apply a_n|refine zO ?_|refine vY ?_|refine cFY ?_|fail)) <;> (try clear zz)
    refine xZ ev0 r0 ev0 ev0 hkf hmf ?_
    (have zz:=and_self; repeat' (first|apply a_n|refine zO ?_|fail)) <;> (try clear zz)
    exact ⟨rfl,by omega,by rw [af (by omega),af (by omega)]; exact r2,ah,by rw [af (by omega),af (by omega)]; exact r1,O ++ [f],bs ++ [ck],ck + 1,g5.put hf hfl (by rw [af (by omega),ah,hek]; rfl) hcnt⟩
  ·exact ⟨Nat.le_refl _,by rw [af (by omega),ah],ah,by rw [af (by omega),af (by omega)]; exact h3,O,bs,ck,h4.same (by rw [af (by omega),af (by omega)]) fun f=>by simp⟩
  ·rintro r H' nx' ⟨g1,g2,g3,g4,O,bs,ck,g5⟩
   refine .inl ⟨g3,?_⟩
   (have zz:=and_self; repeat' (first|apply a_n|refine zO ?_|refine vY ?_|fail)) <;> (try clear zz)
   exact ⟨k + 1,by omega,⟨by omega,by omega,by rw [ce (by omega)]; exact g4,O,bs,ck,g5.same (ce (by omega)) fun f=>by rw [hts,uX,i7.count_eq]⟩,ag0⟩
 rintro T H nx ⟨t3,h2,h3,O,bs,ck,h4⟩
 have hO70:O.length ≤ 300000:=by
  have he:=eI hv
  have h5:O.length ≤ (bA a).length:=gw h4.nd fun f hf=>(he.2 f).2 ((h4.odd f).1 hf)
  have:=o5 h8
  omega
 (have zz:=aI @t3 @h3; repeat' (first|refine zW ?_|apply a_n|refine zO ?_|refine vY ?_|fail)) <;> (try clear zz)
 refine xH ev0 h4.box ?_
 (have zz:=and_self; repeat' (first|refine zW ?_|apply a_n|refine zO ?_|fail)) <;> (try clear zz)
 have hbn:bs.Nodup:=List.Pairwise.imp (fun {x y} (h:x < y) e=>by omega) h4.asc
 refine bd (X:=List Nat × List Spx × AV) (fun x=>[(10,x.2.2),(40,.itr nx)]) (fun x H' nx'=>H' nx=some [.biter 0 ck x.1]∧nx < nx'∧BOk H' n (ib a) O bs ck∧x.1.Nodup∧(∀ s ∈ x.1,s ∈ bs)∧x.2.1=x.1.map (fun s=>O.getD (bs.idxOf s) default)∧Row H' 1 x.2.2 (x.2.1.map av)∧∀ b,cr x.2.2=some b→nx < b∧b < nx') (fun x=>bs.length - x.1.length) ([],[],.esl) ⟨ah,Nat.lt_succ_self _,h4.same (af (by omega)) fun _=>rfl,List.nodup_nil,fun s h=>(by cases h),rfl,Row.nil,fun b h=>(by cases h)⟩ (by (iterate 2 refine And.intro rfl ?_); trivial) ?_
 rintro ⟨seen,D,sv⟩ H1 nx1 ⟨hit,hnx,k4,hsn,hsb,hD,hrow,hbd⟩
 dsimp only at hit hsn hsb hD hrow hbd ⊢
 have hsl:seen.length ≤ bs.length:=gw hsn hsb
 have hDl:D.length=seen.length:=by rw [hD,List.length_map]
 have hbl:=k4.len
 (have zz:=and_self; repeat' (first|refine zW ?_|apply a_n|refine zO ?_|fail)) <;> (try clear zz)
 refine xB ev0 hit k4.box (fun i s hi hns=>?_) (fun hall=>?_)
 ·(have zz:=and_self; repeat' (first|refine zW ?_|apply a_n|refine zO ?_|refine vY ?_|refine cTY ?_|fail)) <;> (try clear zz)
  refine xf (i:=i) (s:=s) ev0 ah (by rw [af (by omega)]; exact k4.box) (by simp) hi ?_
  obtain ⟨hil,his⟩:=List.getElem?_eq_some_iff.1 hi
  have hgx:=oE (O:=O) (i:=i) (by omega)
  have hidx:bs.idxOf s=i:=by
   have h5:=List.idxOf_lt_length_iff.2 (show s ∈ bs by rw [← his]; exact List.getElem_mem hil)
   have h6:bs[bs.idxOf s]=bs[i]:=by rw [List.getElem_idxOf h5,his]
   exact (List.getElem_inj hbn).1 h6
  have hsnd:(seen ++ [s]).Nodup:=List.nodup_append.2 ⟨hsn,by simp,fun x hx y hy e=>by rw [e,List.mem_singleton.1 hy] at hx; exact hns hx⟩
  have hssb:∀ x ∈ seen ++ [s],x ∈ bs:=fun x hx=>by
   rcases List.mem_append.1 hx with q | q
   ·exact hsb x q
   ·rw [List.mem_singleton.1 q,← his]; exact List.getElem_mem hil
  have hsl2:=gw hsnd hssb
  rw [List.length_append,List.length_singleton] at hsl2
  (have zz:=aI @hgx (aI @az @aw); repeat' (first|apply a_n|refine zO ?_|refine vY ?_|refine blY ?_|fail)) <;> (try clear zz)
  refine fo rfl ev0 (hrow.same fun b hb=>?_) ev0 b6 rfl rfl Nat.one_pos (by rw [List.length_map]; omega) (by rw [List.length_map]; omega) ?_
  ·have:=hbd b hb
   rw [af (by omega),af (by omega)]
  rintro s2 H2 nx2 hr2 i1 i2 i3 i4
  have lo:∀ x,x ≤ nx→H2 x=aq H1 nx [.biter 0 ck (seen ++ [s])] x:=fun x hx=>(i3 x (by omega) (fun h=>by have:=hbd x h; omega)).trans (af (by omega))
  (have zz:=and_self; repeat' (first|apply a_n|refine zO ?_|refine vY ?_|fail)) <;> (try clear zz)
  refine ⟨(seen ++ [s],D ++ [O.getD i default],s2),by dsimp only; rw [List.length_append,List.length_singleton]; omega,⟨(lo nx (Nat.le_refl _)).trans ah,by omega,k4.same ((lo 0 (by omega)).trans (af (by omega))) fun _=>rfl,hsnd,hssb,?_,?_,fun b hb=>?_⟩,ag0⟩
  ·dsimp only
   rw [hD,List.map_append,List.map_singleton,hidx]
  ·dsimp only
   rw [List.map_append]; exact hr2
  ·rcases i4 b hb with h | h
   ·have:=hbd b h; omega
   ·omega
 ·have hperm:seen.Perm bs:=(List.perm_ext_iff_of_nodup hsn hbn).2 fun x=>⟨hsb x,hall x⟩
  have hDO:D.Perm O:=by
   rw [hD]
   refine (hperm.map _).trans (List.Perm.of_eq ?_)
   refine List.ext_getElem (by rw [List.length_map]; exact hbl) fun j g1 g2=>?_
   rw [List.length_map] at g1
   have h5:bs.idxOf bs[j]=j:=by
    have h5:=List.idxOf_lt_length_iff.2 (List.getElem_mem g1)
    have h6:bs[bs.idxOf bs[j]]=bs[j]:=List.getElem_idxOf h5
    exact (List.getElem_inj hbn).1 h6
   rw [List.getElem_map,h5]
   simp [List.getD,g2]
  have hDn:D.Nodup:=hDO.nodup_iff.2 k4.nd
  have hDm:∀ s,s ∈ D ↔ s ∈ bA a:=fun s=>by rw [hDO.mem_iff,k4.odd,(eI hv).2]
  have hfin:=xk fm (kF hv)
  have hsort:Abs.Fn Try.prog 73 [sv,.func 40 []] H1 nx1 fun _ H' nx'=>Row H' 1 sv ((bA a).map av):=by
   generalize hcs:D.map av=cs at hrow
   cases hrow with
   | nil =>
    have hD0:D=[]:=List.map_eq_nil_iff.1 hcs
    refine Abs.Fn.mono (jv rfl) ?_
    rintro _ _ _ ⟨rfl,rfl⟩
    have:bA a=[]:=by
     rw [List.eq_nil_iff_forall_not_mem]
     intro s h
     have:=(hDm s).2 h
     rw [hD0] at this; cases this
    rw [this]; exact Row.nil
   | box b len cs k1 k2 =>
    obtain rfl:len=D.length:=by rw [← hcs,List.length_map] at k2; omega
    have hb:=hbd b rfl
    subst hcs
    by_cases h0:D.length=0
    ·have hD0:D=[]:=List.length_eq_zero_iff.1 h0
     have he:bA a=[]:=by
      rw [List.eq_nil_iff_forall_not_mem]
      intro s h
      have:=(hDm s).2 h
      rw [hD0] at this; cases this
     have hrw:Row H1 1 (.msl b (D.length * 1) 1 0 D.length) ((bA a).map av):=by
      have:=Row.box (H:=H1) (sz:=1) b D.length _ k1 (by rw [List.length_map,Nat.mul_one])
      rw [he]; rwa [hD0] at this ⊢
     refine Abs.Fn.mono (jv (by rw [h0]; rfl)) ?_
     rintro _ _ _ ⟨_,e⟩
     rw [e]; exact hrw
    ·have hg:∀ s ∈ D,Shn s:=fun s h=>show s.length ≤ _ by have:=k4.all s (hDO.mem_iff.1 h); omega
     have hsf:=tC zA (L:=D) (b:=b) (nx:=nx1) (n:=D.length) k1 hb.2 rfl (by omega) hg (by omega)
     rw [Nat.mul_one]
     refine Abs.Fn.mono hsf ?_
     rintro _ H' nx' ⟨L',ps,p1,p2⟩
     have hlen:=p1.length_eq
     have:=lq p1 (by rw [hlen]; exact p2) hDn hDm
     rw [hfin] at this
     rw [← this,← hlen]
     have:=Row.box (H:=H') (sz:=1) b L'.length (L'.map av) ps.at_ (by simp)
     rwa [Nat.mul_one] at this
  (have zz:=and_self; repeat' (first|refine zW ?_|apply a_n|apply a_x|refine zO ?_|refine vY ?_|refine cFY ?_|fail)) <;> (try clear zz)
  refine aV ev0 ev0 hsort ?_
  rintro r H' nx' hr
  (have zz:=and_self; repeat' (first|refine zW ?_|apply a_n|refine zO ?_|refine vY ?_|refine ak rfl ?_|refine r1Y ?_|fail)) <;> (try clear zz)
  exact eX hr
end Go.Proofs.Ytfcenbapjhecfaa
namespace Go.Proofs.Ytfcenbapjhecfaa
open Go Go.Abs
theorem uw {s f:Spx} (hs:be s=0) (hf:f ∈ bm s):be f=0:=by
 obtain ⟨h1,h2,h3⟩:=fL.1 hf
 obtain ⟨p1,p2,p3,p4⟩:=cL hs
 exact qH ⟨by omega,by omega⟩ (p3.sublist h2) fun v hv=>p4 v (h2.subset hv)
theorem jZ {a:List Spx} (ha:∀ s ∈ a,be s=0):∀ f ∈ bA a,be f=0:=fun f hf=>by
 obtain ⟨s,h1,h2⟩:=fR (d4 ha) hf
 exact uw (ha s h1) h2
theorem oW {a:List Spx} {n:Nat} (ha:∀ s ∈ a,bi bt s) (hn:∀ s ∈ a,s.length=n):∀ f ∈ bA a,f.length=n - 1:=fun f hf=>by
 obtain ⟨s,h1,h2⟩:=fR ha hf
 rw [(fL.1 h2).2.2,hn s h1]
theorem qR {a:List Spx} (h:∀ s ∈ a,be s=0):∀ s ∈ a,s.length ≤ 8:=fun s hs=>(cL (h s hs)).2.1
def gI (a:List Spx):List Spx × Int:=if bU a ≠ 0 then ([],bU a) else if 4096 < (bA a).length then ([],5) else (bA a,0)
def xX (a:List Spx):Bool × Int:=if bU a ≠ 0 then (false,bU a) else (decide (bA a=[]),0)
attribute [local irreducible] aB ai aW aN aG aH ay aJ aO ba Go.Abs.Fn aM Go.Abs.Pure ar aE Yl
theorem oa {a:List Spx} (h:bU a=0):Pure Try.prog 46 [au a] (au (bA a)):=by
 obtain ⟨h1,h2,h3,h4⟩:=dt h
 by_cases h0:a=[]
 ·subst h0
  exact l6 [] 0 (by omega) (by simp) (by simp) (by simp) (by simp)
 ·have hm:a.getD 0 default ∈ a:=aP (List.length_pos_iff.2 h0)
  have h5:=cL (h2 _ hm)
  exact l6 a ((a.getD 0 default).length - 1) (by omega) h1 (d4 h2) (fun s hs=>.inl (by rw [h4 s hs]; omega)) (qR h2)
theorem rk {a:List Spx} (h:bU a=0):Shn (bA a)∧∀ s ∈ bA a,s.length ≤ 1000000:=by
 obtain ⟨h1,h2,h3,h4⟩:=dt h
 have:=o5 (qR h2)
 exact ⟨show _ ≤ _ by omega,nk (jZ h2)⟩
theorem pO (a:List Spx) (ha:ShC a):Pure Try.prog 17 [au a] (.tup [au (gI a).1,.int .i64 (gI a).2]):=by
 refine Pure.of_c2 follows BA (Nat.le_of_ble_eq_true rfl) ?_
 simp only [b17,cO,cG,cN,cM,cD,cF,cB,aA,aR]
 have f1:=gG a ha
 unfold gI
 by_cases h:bU a=0
 rotate_left
 ·have z:decide (bU a ≠ 0)=true:=decide_eq_true h
  rw [if_pos h]
  (have zz:=@z; repeat' (first|refine zW ?_|apply a_n|apply a_r|refine zO ?_|refine vY ?_|refine cY ?_ (hp:=f1) (hs:=by (first | refine ab ?_ rfl | apply ac); (repeat' (first | exact aa | apply am | apply ae | exact aC _)); first | done | fail)|refine cTY ?_|refine ak rfl ?_|refine r2Y ?_|fail)) <;> (try clear zz)
  exact bK (.eslsl _) rfl
 rw [if_neg (fun q=>q h)]
 have f2:=oa h
 have f3:=oK (bA a) (rk h).1 (rk h).2
 have z:decide ((0:Int) ≠ 0)=false:=rfl
 rw [h] at f1
 have hfin:(if 4096 < (bA a).length then (([]:List Spx),(5:Int)) else (bA a,0))=(if 4096 < (bA a).length then [] else bA a,if 4096 < (bA a).length then 5 else 0):=by
  split <;> rfl
 rw [hfin]
 (have zz:=@z; repeat' (first|refine zW ?_|apply a_n|refine zO ?_|refine vY ?_|refine cY ?_ (hp:=by first | exact f1 | exact f2 | exact f3) (hs:=by (first | refine ab ?_ rfl | apply ac); (repeat' (first | exact aa | apply am | apply ae | exact aC _)); first | done | fail)|refine cFY ?_|refine ak rfl ?_|refine r2Y ?_|fail)) <;> (try clear zz)
 exact bK (aC _).snap rfl
theorem zF (a:List Spx) (ha:ShC a):Pure Try.prog 19 [au a] (.tup [.bool (xX a).1,.int .i64 (xX a).2]):=by
 refine Pure.of_c2 follows Bs (Nat.le_of_ble_eq_true rfl) ?_
 simp only [b19,cO,cG,cN,cM,cD,cF,cB,aA,aR]
 have f1:=gG a ha
 unfold xX
 by_cases h:bU a=0
 rotate_left
 ·have z:decide (bU a ≠ 0)=true:=decide_eq_true h
  rw [if_pos h]
  (have zz:=@z; repeat' (first|refine zW ?_|apply a_n|apply a_r|refine zO ?_|refine vY ?_|refine cY ?_ (hp:=f1) (hs:=by (first | refine ab ?_ rfl | apply ac); (repeat' (first | exact aa | apply am | apply ae | exact aC _)); first | done | fail)|refine cTY ?_|refine ak rfl ?_|refine r2Y ?_|fail)) <;> (try clear zz)
  exact wq rfl rfl
 rw [if_neg (fun q=>q h)]
 have f2:=oa h
 have z:decide ((0:Int) ≠ 0)=false:=rfl
 have z2:decide ((((bA a).length:Nat):Int)=0)=decide (bA a=[]):=decide_eq_decide.2 (by rw [← List.length_eq_zero_iff]; omega)
 rw [h] at f1
 (have zz:=aI @z (aI @z2 @ag); repeat' (first|refine zW ?_|apply a_n|refine zO ?_|refine vY ?_|refine cY ?_ (hp:=by first | exact f1 | exact f2) (hs:=by (first | refine ab ?_ rfl | apply ac); (repeat' (first | exact aa | apply am | apply ae | exact aC _)); first | done | fail)|refine cFY ?_|refine ak rfl ?_|refine r2Y ?_|fail)) <;> (try clear zz)
 exact wq rfl rfl
end Go.Proofs.Ytfcenbapjhecfaa
namespace Go.Proofs.Ytfcenbapjhecfaa
open Go Go.Abs
def on3 (b1:Nat) (c1:List AV) (b2:Nat) (c2:List AV) (b3:Nat) (c3:List AV):Hp:=fun x=>if x=b1 then some c1 else if x=b2 then some c2 else if x=b3 then some c3 else none
theorem zn {P:Program} {T:Tm} {H:Hp} {nx:Nat} (b1 b2 b3:Nat) {c1 c2 c3:List AV} {K:CP} {m:Nat} {l:List Op2} {C:List (Nat × Nat)} (h1:H b1=some c1) (h2:H b2=some c2) (h3:H b3=some c3) (n1:b2 ≠ b1) (n2:b3 ≠ b1) (n3:b3 ≠ b2) (k:∀ S:Hp,S b1=some c1→S b2=some c2→S b3=some c3→(∀ H':Hp,H' b1=some c1→H' b2=some c2→H' b3=some c3→Sub S H')→a7 P S (C.map fun k=>(l.getD k.1 ⟨none,none,.dead⟩,k.2)) T H nx fun T H nx=>K .normal T H nx):aB P (.mixS m l C) T H nx K:=by
 have hsub:∀ H':Hp,H' b1=some c1→H' b2=some c2→H' b3=some c3→Sub (on3 b1 c1 b2 c2 b3 c3) H':=fun H' a b c x cs h=>by
  unfold on3 at h
  split at h
  ·rename_i e; rw [e,a]; exact h
  split at h
  ·rename_i e; rw [e,b]; exact h
  split at h
  ·rename_i e; rw [e,c]; exact h
  ·cases h
 refine sk (on3 b1 c1 b2 c2 b3 c3) rfl (hsub H h1 h2 h3) (k _ ?_ ?_ ?_ hsub)
 ·unfold on3; rw [if_pos rfl]
 ·unfold on3; rw [if_neg n1,if_pos rfl]
 ·unfold on3; rw [if_neg n2,if_neg n3,if_pos rfl]
theorem sF {α:Type} {p q:Prop} [Decidable p] [Decidable q] (h:p ↔ q) {a b:α}:(if p then a else b)=if q then a else b:=by
 by_cases hq:q
 ·rw [if_pos hq,if_pos (h.2 hq)]
 ·rw [if_neg hq,if_neg fun x=>hq (h.1 x)]
def vC (c:List Spx) (d:Int):List Spx × Int:=if d < 0 then ([],0) else dQ c (d + 1)
def bh (c:List Spx) (d:Int):List Spx:=if d ≤ 0 then [] else i8 c d.toNat
def jc (c:List Spx) (d:Int):(Int × List (List Int)) × Int:=if a5 c ≠ 0 then ((0,[]),a5 c) else if d < 0 ∨ 8 ≤ d then ((0,[]),2) else ((((bh c (d + 1)).length:Nat),gz (bh c (d + 1)) (bh c d)),0)
theorem ua {c:List Spx} {d:Int} (hc:a5 c=0) (h1:-1 ≤ d) (h2:d < 8):vC c d=(bh c (d + 1),0):=by
 unfold vC bh dQ
 by_cases h:d < 0
 ·rw [if_pos h,if_pos (by omega)]
 ·rw [if_neg h,if_neg (fun q=>q hc),if_neg (by omega),if_neg (by omega)]
theorem gZ {c:List Spx} {d:Int}:bi aS (bh c d):=by
 unfold bh; split
 ·exact bi.nil
 ·exact wc
theorem eF {c:List Spx} {d:Int} (hc:c.length ≤ 50) (h:a5 c=0):(bh c d).length ≤ 3500:=by
 unfold bh; split
 ·exact Nat.zero_le _
 ·exact vB hc (qR (iz h).2.1)
theorem fv {c:List Spx} {d:Int} {s:Spx}:s ∈ bh c d ↔ 0 < d∧s.length=d.toNat∧∃ t ∈ c,s.Sublist t:=by
 unfold bh; split
 ·exact ⟨fun h=>(by cases h),fun h=>absurd h.1 (by omega)⟩
 ·rw [vG]
  constructor
  ·rintro ⟨t,t1,t2⟩
   exact ⟨by omega,(di.1 t2).2,t,t1,(di.1 t2).1⟩
  ·rintro ⟨_,h1,t,t1,t2⟩
   exact ⟨t,t1,di.2 ⟨t2,h1⟩⟩
theorem eU {c:List Spx} {d:Int} (h:a5 c=0):∀ s ∈ bh c d,be s=0:=fun s hs=>by
 obtain ⟨h1,h2,t,t1,t2⟩:=fv.1 hs
 obtain ⟨p1,p2,p3,p4⟩:=cL ((iz h).2.1 t t1)
 have:=t2.length_le
 exact qH ⟨by omega,by omega⟩ (p3.sublist t2) fun v hv=>p4 v (t2.subset hv)
theorem si {c:List Spx} {d:Int} {s f:Spx} (hs:s ∈ bh c (d + 1)) (hf:f ∈ bm s):f ∈ bh c d:=by
 obtain ⟨h1,h2,t,t1,t2⟩:=fv.1 hs
 obtain ⟨g1,g2,g3⟩:=fL.1 hf
 exact fv.2 ⟨by omega,by omega,t,t1,g2.trans t2⟩
attribute [local irreducible] aB ai aW aN aG aH ay aJ aO ba Go.Abs.Fn aM Go.Abs.Pure ar aE Yl
theorem qU (l:List Spx) (v:Spx) (hl:Shn l) (hs:∀ c ∈ l,Shn c) (hv:Shn v) (ha:bi aS l):∃ b:Nat,Pure Try.prog 52 [au l,av v] (.tup [.int .i64 b,.bool (decide (v ∈ l))])∧(v ∈ l→b < l.length∧l.getD b default=v):=by
 obtain ⟨b,hb,h1,h2⟩:=mT (fun i=>aS (l.getD i default) v) l.length (fun i j hij hj h=>fm.trans (bV ha hij hj) h)
 have hc:=rZ l v hl hs hv hb h1 h2
 have he:(decide (b < l.length) && decide (aS (l.getD b default) v=0))=decide (v ∈ l)∧(v ∈ l→b < l.length∧l.getD b default=v):=by
  by_cases hm:v ∈ l
  ·obtain ⟨i,hi,e⟩:=List.getElem_of_mem hm
   have e':l.getD i default=v:=by simp [List.getD,hi,e]
   have hbi:b=i:=by
    rcases Nat.lt_trichotomy b i with h | h | h
    ·have h3:=h2 b (Nat.le_refl _) (by omega)
     have h4:=bV ha h hi
     rw [e'] at h4; omega
    ·exact h
    ·have h3:=h1 i h
     rw [e',dN] at h3; omega
   subst hbi
   rw [decide_eq_true hi,decide_eq_true hm,e',decide_eq_true (dN v)]
   exact ⟨rfl,fun _=>⟨hi,rfl⟩⟩
  ·rw [decide_eq_false hm]
   refine ⟨?_,fun h=>absurd h hm⟩
   by_cases hlt:b < l.length
   ·rw [decide_eq_true hlt,Bool.true_and,decide_eq_false]
    intro h
    exact hm (by rw [← lP h]; exact aP hlt)
   ·rw [decide_eq_false hlt,Bool.false_and]
 rw [he.1] at hc
 refine ⟨b,?_,he.2⟩
 refine Pure.of_c2 follows B6 (Nat.le_of_ble_eq_true rfl) ?_
 simp only [b52,cO,cG,cN,cM,cD,cF,cB,aA,aR]
 (have zz:=aI @az (aI @aw (aI @ao @aj)); repeat' (first|refine zW ?_|apply a_n|refine zO ?_|refine vZ ?_|refine cZ ?_ (hp:=hc) (hs:=by (first | refine ab ?_ rfl | apply ac); (repeat' (first | exact aa | apply am | apply ae | exact aC _ | exact ax _ | exact Dat.func DatL.nil)); first | done | fail)|refine ak rfl ?_|refine r2Z ?_|fail)) <;> (try clear zz)
 exact eP (an (.int _ _) (an (.bool _) aa))
theorem vI (c:List Spx) (d:Int) (hd:d ≤ 1000) (hc:c.length ≤ 50) (hs:∀ s ∈ c,Shn s):Pure Try.prog 50 [eS c,.int .i64 d] (.tup [au (vC c d).1,.int .i64 (vC c d).2]):=by
 refine Pure.of_c2 follows Bz (Nat.le_of_ble_eq_true rfl) ?_
 simp only [b50,cO,cG,cN,cM,cD,cF,cB,aA,aR]
 unfold vC
 by_cases h:d < 0
 ·have z:decide (d < 0)=true:=decide_eq_true h
  rw [if_pos h]
  (have zz:=aI @z (aI @ao @aj); repeat' (first|refine zW ?_|apply a_n|apply a_r|refine zO ?_|refine vY ?_|refine bxY ?_|refine cTY ?_|refine ak rfl ?_|refine r2Y ?_|fail)) <;> (try clear zz)
  exact bK (.eslsl _) rfl
 ·have z:decide (d < 0)=false:=decide_eq_false h
  rw [if_neg h]
  have hS:=jn c (d + 1) hc hs
  (have zz:=aI @z (aI @ao @aj); repeat' (first|refine zW ?_|apply a_n|refine zO ?_|refine vY ?_|refine cY ?_ (hp:=hS) (hs:=by (first | refine ab ?_ rfl | apply ac); (repeat' (first | exact aa | apply am | apply ae | exact bg _)); first | done | fail)|refine bxY ?_|refine cFY ?_|refine ak rfl ?_|refine r2Y ?_|fail)) <;> (try clear zz)
  exact bK (aC _).snap rfl
set_option maxHeartbeats 2000000 in
theorem sR (c:List Spx) (d:Int) (hc:c.length ≤ 50) (hs:∀ s ∈ c,Shn s):Pure Try.prog 22 [eS c,.int .i64 d] (.tup [fW (jc c d).1.1 (jc c d).1.2,.int .i64 (jc c d).2]):=by
 refine Pure.of_c2 follows BF (Nat.le_of_ble_eq_true rfl) ?_
 simp only [b22,cO,cG,cN,cM,cD,cF,cB,aA,aR]
 have hcc:=jH c (show _ ≤ _ by omega) hs
 unfold jc
 by_cases he:a5 c=0
 rotate_left
 ·rw [if_pos he]
  have z:decide (a5 c ≠ 0)=true:=decide_eq_true he
  (have zz:=aI @ao (aI @aj @z); repeat' (first|refine zW ?_|apply a_n|apply a_r|refine zO ?_|refine vY ?_|refine cY ?_ (hp:=hcc) (hs:=by (first | refine ab ?_ rfl | apply ac); (repeat' (first | exact aa | apply am | apply ae | exact bg _)); first | done | fail)|refine alY ?_|refine bxY ?_|refine stY ?_|refine cTY ?_|refine ak rfl ?_|refine r2Y ?_|fail)) <;> (try clear zz)
  exact pU (.eslsl _) rfl
 rw [if_neg (fun h=>h he)]
 rw [he] at hcc
 have z0:decide ((0:Int) ≠ 0)=false:=rfl
 by_cases hd:d < 0 ∨ 8 ≤ d
 ·rw [if_pos hd]
  (have zz:=aI @ao (aI @aj @z0); repeat' (first|refine zW ?_|apply a_n|apply a_r|refine zO ?_|refine vY ?_|refine cY ?_ (hp:=hcc) (hs:=by (first | refine ab ?_ rfl | apply ac); (repeat' (first | exact aa | apply am | apply ae | exact bg _)); first | done | fail)|refine alY ?_|refine bxY ?_|refine stY ?_|refine gTY ?_|refine gFY ?_|refine cTY ?_|refine cFY ?_|(refine zGY ?_ ?_ <;> (intro _hg; try (exfalso; omega)))|refine ak rfl ?_|refine r2Y ?_|fail)) <;> (try clear zz)
  all_goals first | exact pU (.eslsl _) rfl | (exfalso; omega)
 rw [if_neg hd]
 have hX:=vI c d (by omega) hc hs
 have hY:=vI c (d - 1) (by omega) hc hs
 rw [ua he (by omega) (by omega)] at hX hY
 rw [show d - 1 + 1=d by omega] at hY
 have hXl:=eF (d:=d + 1) hc he
 have hYl:=eF (d:=d) hc he
 have hXm:=eU (d:=d + 1) he
 have hYm:=jb (eU (d:=d) he)
 have hYa:=gZ (c:=c) (d:=d)
 generalize bh c (d + 1)=X at *
 generalize bh c d=Y at *
 have z1:decide (d < 0)=false:=decide_eq_false (by omega)
 have z2:decide (8 ≤ d)=false:=decide_eq_false (by omega)
 have hzc:aY (AV.agg [AV.esl]) Y.length=List.replicate Y.length .esl:=by simp [aY,AV.cells]
 (have zz:=aI @ao (aI @aj (aI @ag (aI @z0 (aI @z1 @z2)))); repeat' (first|refine zW ?_|apply a_n|refine zO ?_|refine vY ?_|refine cY ?_ (hp:=by first | exact hcc | exact hX | exact hY) (hs:=by (first | refine ab ?_ rfl | apply ac); (repeat' (first | exact aa | apply am | apply ae | exact bg _)); first | done | fail)|refine alY ?_|refine bxY ?_|refine stY ?_|refine gTY ?_|refine cFY ?_|fail)) <;> (try clear zz)
 refine vv (k1:=.i64) (k2:=.i64) (n:=Y.length) (m:=Y.length) rfl ev0 ev0 (by omega) (Int.le_refl _) (by omega) (by omega) ?_
 rw [Int.toNat_natCast,hzc,Nat.mul_one]
 (have zz:=@ag; repeat' (first|refine zW ?_|apply a_n|refine zO ?_|refine vY ?_|refine alY ?_|refine stY ?_|fail)) <;> (try clear zz)
 refine bd (X:=Nat × List AV) (fun x=>[(4,.ptr 1 2 0),(9,.ptr 2 1 0),(10,.ptr 4 2 0),(56,au X),(57,.int .i64 X.length),(58,.int .i64 x.1)]) (fun x H' nx'=>x.1 ≤ X.length∧5 ≤ nx'∧H' 1=some [.int .i64 0,.esl]∧H' 2=some [au Y]∧H' 4=some [.int .i64 X.length,.msl 3 Y.length 1 0 Y.length]∧MatOk H' 3 5 nx' Y.length (fk X Y x.1) x.2) (fun x=>X.length - x.1) (0,List.replicate Y.length .esl) ⟨Nat.zero_le _,Nat.le_refl _,by (repeat rw [af (by omega)]); rw [ah],by (repeat rw [af (by omega)]); rw [ah]; rfl,by rw [ah]; rfl,MatOk.new (by (repeat rw [af (by omega)]); rw [ah]) (fun j _=>rfl)⟩ (by (iterate 6 refine And.intro rfl ?_); trivial) ?_
 rintro ⟨k,vs⟩ H nx ⟨h1,h2,g1,g2,g4,hmat⟩
 dsimp only at h1 h2 g1 g2 g4 hmat ⊢
 by_cases hk:k < X.length
 rotate_left
 ·obtain rfl:k=X.length:=by omega
  have hst:Snap (aq H 1 [.int .i64 X.length,.msl 3 Y.length 1 0 Y.length]) (.msl 3 Y.length 1 0 Y.length) (cb (gz X Y)):=(hmat.same (hi':=nx) (G:=fk X Y X.length) (af (by omega)) (fun x x1 x2 x3=>af (by omega)) (Nat.le_refl _) (fun j _=>rfl)).snap
  (have zz:=aI @g4 @g1; repeat' (first|refine zW ?_|apply a_n|apply a_x|refine zO ?_|refine vY ?_|refine stY ?_|(refine zGY ?_ ?_ <;> (intro _hg; try (exfalso; omega)))|refine ak rfl ?_|refine r2Y ?_|fail)) <;> (try clear zz)
  exact pU hst rfl
 have ix:=dH hk
 have hsim:=hXm _ (aP hk)
 have hF:∀ i,fk X Y (k + 1) i=fk X Y k i ++ if Y.getD i default ∈ bm (X.getD k default) then [k] else []:=fun i=>uF
 generalize X.getD k default=s at *
 obtain ⟨p1,p2,p3,p4⟩:=cL hsim
 (have zz:=@ix; repeat' (first|refine zW ?_|apply a_n|refine zO ?_|refine vY ?_|refine alY ?_|refine stY ?_|(refine zGY ?_ ?_ <;> (intro _hg; try (exfalso; omega)))|fail)) <;> (try clear zz)
 refine aV ev0 ev0 (oC s _ _) ?_
 rintro _ H1 nx1 ⟨rfl,rfl,rfl⟩
 (have zz:=and_self; repeat' (first|refine zW ?_|apply a_n|refine zO ?_|fail)) <;> (try clear zz)
 refine kq (nx + 2) (nx + 3) rfl rfl ev0 (fun c0 cj hy=>?_)
 refine Abs.Fn.mono (oo (nx:=nx + 3) (y:=nx + 2) (sb:=nx + 1) (s:=s) (by omega) (fun D H' nx'=>nx + 3 ≤ nx'∧H' (nx + 1)=some [av s]∧H' (nx + 2)=some [c0]∧H' nx=some [.int .i64 (k:Int)]∧H' 1=some [.int .i64 0,.esl]∧H' 2=some [au Y]∧H' 4=some [.int .i64 X.length,.msl 3 Y.length 1 0 Y.length]∧∃ vs,MatOk H' 3 5 nx' Y.length (fun i=>fk X Y k i ++ if Y.getD i default ∈ D then [k] else []) vs∧∀ j B,j < Y.length→cr (vs.getD j .undef)=some B→B < nx ∨ nx + 3 ≤ B) ?_ ?_ ?_ ?_) ?_
 ·rintro D H' nx' ⟨j1,j2,_⟩
  exact j2
 ·rintro D H' H'' n1 n2 ⟨j1,j2,j3,j4,j5,j6,j7,vs,j8,j9⟩ hle hsm
  exact ⟨by omega,(hsm _ (by omega)).trans j2,(hsm _ (by omega)).trans j3,(hsm _ (by omega)).trans j4,(hsm _ (by omega)).trans j5,(hsm _ (by omega)).trans j6,(hsm _ (by omega)).trans j7,vs,j8.same (hsm _ (by omega)) (fun x x1 x2 x3=>hsm x x2) hle (fun _ _=>rfl),j9⟩
 ·rintro D f H' nx' ⟨j1,j2,j3,j4,j5,j6,j7,vs,j8,j9⟩ hlt hfe hDe
  refine hy _ _ _ _ j3 rfl ?_
  clear hy
  have hfm:f ∈ fcs s:=by rw [hfe]; exact aP hlt
  have hfD:f ∉ D:=fun h=>by
   rw [hDe] at h
   have hnd:=u6 p3
   have e:=cC hlt
   have h5:=(List.nodup_append.1 (by rw [← e]; exact hnd.sublist (List.take_sublist _ _):((fcs s).take D.length ++ [(fcs s).getD D.length default]).Nodup)).2.2 _ h _ (List.mem_singleton.2 rfl)
   exact h5 hfe
  have hfs:=fL.1 (t6.1 hfm)
  have hfn:Shn f:=by show _ ≤ _; omega
  clear hfe hDe hlt hfm
  (have zz:=and_self; repeat' (first|apply a_n|refine zO ?_|refine vY ?_|fail)) <;> (try clear zz)
  refine ⟨j3,?_⟩
  have hd:∀ x,x ≠ nx + 2→bT H' (nx + 2) x=H' x:=fun x hx=>ce hx
  generalize bT H' (nx + 2)=H2 at *
  have q2:=(hd 2 (by omega)).trans j6
  have q3:=(hd 3 (by omega)).trans j8.box
  have q4:=(hd 4 (by omega)).trans j7
  have qk:=(hd nx (by omega)).trans j4
  obtain ⟨p,hpl,hpm⟩:=qU Y f (show _ ≤ _ by omega) hYm hfn hYa
  by_cases hin:f ∈ Y
  rotate_left
  ·rw [decide_eq_false hin] at hpl
   (have zz:=aI @q2 (aI @ao @aj); repeat' (first|refine zW ?_|apply a_n|refine zO ?_|refine vY ?_|refine cY ?_ (hp:=hpl) (hs:=by (first | refine ab ?_ rfl | apply ac); (repeat' (first | exact aa | apply am | apply ae | exact aC _ | exact ax _)); first | done | fail)|refine cFY ?_|fail)) <;> (try clear zz)
   refine ⟨rfl,j1,(af (by omega)).trans ((hd _ (by omega)).trans j2),ah,(af (by omega)).trans qk,(af (by omega)).trans ((hd _ (by omega)).trans j5),(af (by omega)).trans q2,(af (by omega)).trans q4,vs,j8.same ((af (by omega)).trans (hd _ (by omega))) (fun x x1 x2 x3=>?_) (Nat.le_refl _) (fun j hj=>?_),j9⟩
   ·by_cases e:x=nx + 2
    ·rw [e,ah,j3]
    ·rw [af e,hd x e]
   ·have hne:Y.getD j default ≠ f:=fun e=>hin (by rw [← e]; exact aP hj)
    congr 1
    exact sF (by rw [List.mem_append,List.mem_singleton]; exact ⟨fun h=>h.resolve_right hne,.inl⟩)
  rw [decide_eq_true hin] at hpl
  obtain ⟨pl1,pl2⟩:=hpm hin
  have hFD:fk X Y k p ++ (if Y.getD p default ∈ D then [k] else [])=fk X Y k p:=by rw [pl2,if_neg hfD,List.append_nil]
  have hrow:Row H2 1 (vs.getD p .undef) ((fk X Y k p).map rV):=by
   have:=j8.row p pl1
   rw [hFD] at this
   exact this.same fun b hb=>hd b (by have:=j9 p b pl1 hb; omega)
  have hvs:vs[p]?=some (vs.getD p .undef):=by
   have:=j8.len
   simp [List.getD,show p < vs.length by omega]
  have hlen:=j8.len
  have hb3:∀ b,cr (vs.getD p .undef)=some b→5 ≤ b∧b < nx'∧b ≠ 3∧(b < nx ∨ nx + 3 ≤ b):=fun b hb=>by
   have h5:=j8.bnd p b pl1 hb
   have h6:=j9 p b pl1 hb
   exact ⟨h5.1,h5.2.1,h5.2.2,h6⟩
  generalize hrv:vs.getD p .undef=rv at *
  (have zz:=aI @q2 (aI @ao @aj); repeat' (first|refine zW ?_|apply a_n|refine zO ?_|refine vY ?_|refine cY ?_ (hp:=hpl) (hs:=by (first | refine ab ?_ rfl | apply ac); (repeat' (first | exact aa | apply am | apply ae | exact aC _ | exact ax _)); first | done | fail)|refine cTY ?_|fail)) <;> (try clear zz)
  refine zn 4 3 nx q4 q3 qk (by omega) (by omega) (by omega) fun S0 hS1 hS2 hS3 hsub=>?_
  have hFl:=qi (X:=X) (Y:=Y) (n:=k) (i:=p)
  (have zz:=aI @hS1 (aI @hS2 (aI @hS3 (aI @hvs @hlen))); repeat' (first|apply a_n|refine zO ?_|refine nvY ?_|fail)) <;> (try clear zz)
  refine iC ?_
  (have zz:=and_self; repeat' (first|apply a_n|refine zO ?_|refine blY ?_|fail)) <;> (try clear zz)
  refine ⟨hsub _ (by rw [af (by omega)]; exact q4) (by rw [af (by omega)]; exact q3) (by rw [af (by omega)]; exact qk),?_⟩
  refine iC ?_
  refine fo rfl ev0 (hrow.same fun b hb=>?_) ev0 b6 rfl rfl Nat.one_pos (by rw [List.length_map]; omega) (by rw [List.length_map]; omega) ?_
  ·have:=hb3 b hb; rw [af (by omega)]
  rintro s2 H4 nx4 hr2 i1 i2 i3 i4
  have lo:∀ x,x < nx'→cr rv ≠ some x→H4 x=H2 x:=fun x x1 x2=>(i3 x (by omega) x2).trans (af (by omega))
  have l3:H4 3=H2 3:=lo 3 (by omega) (fun h=>by have:=hb3 _ h; omega)
  have l4:H4 4=H2 4:=lo 4 (by omega) (fun h=>by have:=hb3 _ h; omega)
  have lk:H4 nx=H2 nx:=lo nx (by omega) (fun h=>by have:=hb3 _ h; omega)
  have lo2:∀ x,x < nx + 3→5 ≤ x→nx ≤ x→H4 x=H2 x:=fun x x1 x2 x3=>lo x (by omega) (fun h=>by have:=hb3 _ h; omega)
  have lo5:∀ x,x < 5→H4 x=H2 x:=fun x x1=>lo x (by omega) (fun h=>by have:=hb3 _ h; omega)
  obtain ⟨o1,o2⟩:=hr2.one
  have m3:=l3.trans q3
  refine oH ⟨hsub _ (l4.trans q4) m3 (lk.trans qk),?_⟩
  have hlp:bo vs p [s2]=vs.set p s2:=by
   simp only [bo,List.length_cons,List.length_nil,Nat.zero_add]
   rw [List.set_eq_take_append_cons_drop,if_pos (by omega)]; simp
  (have zz:=aI @m3 (aI @o1 (aI @o2 (aI @hlen @hlp))); repeat' (first|apply a_n|refine zO ?_|refine nvY ?_|apply kQ|refine stY ?_|fail)) <;> (try clear zz)
  have hB2:∀ b,cr s2=some b→(cr rv=some b ∨ nx' ≤ b)∧b < nx4:=fun b hb=>by
   rcases i4 b hb with h | h
   ·exact ⟨.inl h,by have:=hb3 b h; omega⟩
   ·exact ⟨.inr (by omega),by omega⟩
  have hwd:∀ x,x ≠ 3→x ≠ nx + 2→aq (aq H4 3 (vs.set p s2)) (nx + 2) [c0] x=H4 x:=fun x x1 x2=>by rw [af x2,af x1]
  rw [hlp]
  refine ⟨rfl,by omega,?_,ah,?_,?_,?_,?_,vs.set p s2,?_,?_⟩
  ·rw [hwd _ (by omega) (by omega),lo2 _ (by omega) (by omega) (by omega),hd _ (by omega)]; exact j2
  ·rw [hwd _ (by omega) (by omega),lk]; exact qk
  ·rw [hwd _ (by omega) (by omega),lo5 _ (by omega),hd _ (by omega)]; exact j5
  ·rw [hwd _ (by omega) (by omega),lo5 _ (by omega)]; exact q2
  ·rw [hwd _ (by omega) (by omega),l4]; exact q4
  ·refine j8.put (sv:=s2) (x:=k) (i:=p) pl1 (fun j hj=>?_) ?_ (fun b hb=>?_) (by rw [af (by omega),ah]) (fun x x1 x2 x3 x4=>?_) (by omega) (by omega)
   ·by_cases e:j=p
    ·subst e
     rw [if_pos rfl,pl2,if_neg hfD,if_pos (List.mem_append_right _ (List.mem_singleton.2 rfl)),List.append_nil]
    ·rw [if_neg e]
     have hne:Y.getD j default ≠ f:=fun h=>e (by
      rcases Nat.lt_trichotomy j p with h' | h' | h'
      ·have:=bV hYa h' pl1
       rw [h,pl2,dN] at this; omega
      ·exact h'
      ·have:=bV hYa h' hj
       rw [h,pl2,dN] at this; omega)
     congr 1
     exact sF (by rw [List.mem_append,List.mem_singleton]; exact ⟨fun h=>h.resolve_right hne,.inl⟩)
   ·rw [hFD,List.map_append]
    refine hr2.same fun b hb=>hwd b ?_ ?_
    ·have:=hB2 b hb
     rcases this.1 with h | h
     ·have:=hb3 b h; omega
     ·omega
    ·have:=hB2 b hb
     rcases this.1 with h | h
     ·have:=hb3 b h; omega
     ·omega
   ·rw [hrv]
    have:=hB2 b hb
    rcases this.1 with h | h
    ·exact .inl h
    ·exact .inr ⟨h,this.2,by omega⟩
   ·rw [hrv] at x4
    by_cases e:x=nx + 2
    ·rw [e,ah,j3]
    ·rw [hwd x x3 e,lo x x2 x4,hd x e]
  ·intro j B hj hB
   rw [kL (by omega)] at hB
   by_cases e:p=j
   ·rw [if_pos e] at hB
    have:=hB2 B hB
    rcases this.1 with h | h
    ·have:=hb3 B h; omega
    ·omega
   ·rw [if_neg e] at hB
    exact j9 j B hj hB
 ·have hlk:bo [AV.int .i64 0] 0 [.int .i64 (k:Int)]=[.int .i64 (k:Int)]:=rfl
  have hw:∀ x,x ≠ nx→x ≠ nx + 1→x ≠ nx + 2→aq (aq (aq (aq H nx [.int .i64 0]) nx (bo [.int .i64 0] 0 [.int .i64 (k:Int)])) (nx + 1) [av s]) (nx + 2) [c0] x=H x:=fun x x1 x2 x3=>by rw [af x3,af x2,af x1,af x1]
  refine ⟨Nat.le_refl _,by rw [af (by omega),ah],ah,by rw [af (by omega),af (by omega),ah]; rfl,(hw _ (by omega) (by omega) (by omega)).trans g1,(hw _ (by omega) (by omega) (by omega)).trans g2,(hw _ (by omega) (by omega) (by omega)).trans g4,vs,hmat.same (hw _ (by omega) (by omega) (by omega)) (fun x x1 x2 x3=>hw x (by omega) (by omega) (by omega)) (by omega) (fun j _=>by simp),fun j B hj hB=>by have:=hmat.bnd j B hj hB; omega⟩
 ·rintro r H' nx' ⟨j1,j2,j3,j4,j5,j6,j7,vs2,j8,j9⟩
  refine .inl ⟨j3,?_⟩
  (have zz:=and_self; repeat' (first|apply a_n|refine zO ?_|refine vY ?_|fail)) <;> (try clear zz)
  refine ⟨(k + 1,vs2),by dsimp only; omega,⟨by dsimp only; omega,by omega,(ce (by omega)).trans j5,(ce (by omega)).trans j6,(ce (by omega)).trans j7,?_⟩,ag0⟩
  dsimp only
  have hrows:∀ j,j < Y.length→fk X Y (k + 1) j=fk X Y k j ++ if Y.getD j default ∈ fcs s then [k] else []:=fun j _=>by
   rw [hF]; congr 1; exact sF t6.symm
  exact ⟨(ce (by omega)).trans j8.box,j8.len,fun j hj=>by rw [hrows j hj]; exact (j8.row j hj).same fun b hb=>ce (by have:=j9 j b hj hb; omega),fun j B hj hB=>by have:=j8.bnd j B hj hB; exact this,j8.apart⟩
end Go.Proofs.Ytfcenbapjhecfaa
namespace Go.Proofs.Ytfcenbapjhecfaa
open Go Go.Abs
def lI (L a:List Spx):List Nat:=a.map fun s=>L.idxOf s
abbrev gb (a:List Spx):Nat:=(a.getD 0 default).length
def nX (c a:List Spx):List Int × Int:=if a5 c ≠ 0 then ([],a5 c) else if bU a ≠ 0 then ([],bU a) else if a=[] then ([],0) else if (a.all fun s=>decide (s ∈ bh c (gb a)))=true then (bu (lI (bh c (gb a)) a),0) else ([],6)
theorem k9 {l:List Nat} {n:Nat}:bu (l ++ [n])=bu l ++ [(n:Int)]:=by unfold bu; rw [List.map_append]; rfl
theorem ve {L a:List Spx} {k:Nat} (h:k < a.length):lI L (a.take (k + 1))=lI L (a.take k) ++ [L.idxOf (a.getD k default)]:=by
 unfold lI; rw [cC h,List.map_append]; rfl
theorem xx {l:List Spx} (hn:l.Nodup) {v:Spx} {k:Nat} (hk:k < l.length) (hv:l.getD k default=v):l.idxOf v=k:=by
 have hm:v ∈ l:=by rw [← hv]; exact aP hk
 have h1:=List.idxOf_lt_length_iff.2 hm
 have h2:l[l.idxOf v]=v:=List.getElem_idxOf h1
 have h3:l[k]=v:=by simpa [List.getD,hk] using hv
 exact (List.getElem_inj hn).1 (h2.trans h3.symm)
theorem ke {H:Hp} {s:AV} {l:List Int} {e f:Int} (h:Snap H s (bc l)) (he:e=f):Snap H (.tup [s,.int .i64 e]) (.tup [bc l,.int .i64 f]):=by
 subst he; exact eP (an h (an (.int _ _) aa))
def iV (n:Nat) (v:List Int) (k:Nat):Int:=if v.getD k default < 0 ∨ (n:Int) ≤ v.getD k default then 2 else if 0 < k∧v.getD k default ≤ v.getD (k - 1) default then 14 else 0
def iE (n:Nat) (v:List Int):Int:=bH (iV n v) v.length
theorem mE {n:Nat} {v:List Int} {k:Nat}:iV n v k=if v.getD k default < 0 ∨ (n:Int) ≤ v.getD k default then 2 else if 0 < k∧v.getD k default ≤ v.getD (k - 1) default then 14 else 0:=rfl
def d6 (X:List Spx) (v:List Int):List Spx:=v.map fun i=>X.getD i.toNat default
theorem rO {X:List Spx} {v:List Int} {k:Nat} (h:k < v.length):d6 X (v.take (k + 1))=d6 X (v.take k) ++ [X.getD (v.getD k default).toNat default]:=by
 unfold d6; rw [cC h,List.map_append]; rfl
def qu (c:List Spx) (d:Int) (v:List Int):List Spx × Int:=if a5 c ≠ 0 then ([],a5 c) else if d < 0 ∨ 8 ≤ d then ([],2) else if iE (bh c (d + 1)).length v ≠ 0 then ([],iE (bh c (d + 1)).length v) else (d6 (bh c (d + 1)) v,0)
attribute [local irreducible] aB ai aW aN aG aH ay aJ aO ba Go.Abs.Fn aM Go.Abs.Pure ar aE Yl
theorem rX (c a:List Spx) (hc:c.length ≤ 50) (hs:∀ s ∈ c,Shn s) (ha:ShC a):Pure Try.prog 25 [eS c,au a] (.tup [bc (nX c a).1,.int .i64 (nX c a).2]):=by
 refine Pure.of_c2 follows BE (Nat.le_of_ble_eq_true rfl) ?_
 simp only [b25,cO,cG,cN,cM,cD,cF,cB,aA,aR]
 have hcc:=jH c (show _ ≤ _ by omega) hs
 have hca:=gG a ha
 have z0:decide ((0:Int) ≠ 0)=false:=rfl
 unfold nX
 by_cases he:a5 c=0
 rotate_left
 ·rw [if_pos he]
  have z:decide (a5 c ≠ 0)=true:=decide_eq_true he
  (have zz:=aI @ao (aI @aj @z); repeat' (first|refine zW ?_|apply a_n|apply a_r|refine zO ?_|refine vY ?_|refine cY ?_ (hp:=hcc) (hs:=by (first | refine ab ?_ rfl | apply ac); (repeat' (first | exact aa | apply am | apply ae | exact bg _)); first | done | fail)|refine bxY ?_|refine cTY ?_|refine ak rfl ?_|refine r2Y ?_|fail)) <;> (try clear zz)
  exact ke (.eslsl _) rfl
 rw [if_neg (fun h=>h he)]
 rw [he] at hcc
 by_cases h2:bU a=0
 rotate_left
 ·rw [if_pos h2]
  have z:decide (bU a ≠ 0)=true:=decide_eq_true h2
  (have zz:=aI @ao (aI @aj (aI @z @z0)); repeat' (first|refine zW ?_|apply a_n|apply a_r|refine zO ?_|refine vY ?_|refine cY ?_ (hp:=by first | exact hcc | exact hca) (hs:=by (first | refine ab ?_ rfl | apply ac); (repeat' (first | exact aa | apply am | apply ae | exact bg _ | exact aC _)); first | done | fail)|refine bxY ?_|refine cTY ?_|refine cFY ?_|refine ak rfl ?_|refine r2Y ?_|fail)) <;> (try clear zz)
  exact ke (.eslsl _) rfl
 rw [if_neg (fun h=>h h2)]
 rw [h2] at hca
 by_cases h3:a=[]
 ·rw [if_pos h3]
  subst h3
  have al:bI (au [])=some (.int .i64 0):=rfl
  (have zz:=aI @ao (aI @aj (aI @al @z0)); repeat' (first|refine zW ?_|apply a_n|apply a_r|refine zO ?_|refine vY ?_|refine cY ?_ (hp:=by first | exact hcc | exact hca) (hs:=by (first | refine ab ?_ rfl | apply ac); (repeat' (first | exact aa | apply am | apply ae | exact bg _ | exact aC _)); first | done | fail)|refine bxY ?_|refine cFY ?_|(refine zGY ?_ ?_ <;> (intro _hg; try (exfalso; omega)))|refine ak rfl ?_|refine r2Y ?_|fail)) <;> (try clear zz)
  exact ke (.eslsl _) rfl
 rw [if_neg h3]
 have hpos:=List.length_pos_iff.2 h3
 have z3:decide ((a.length:Int)=0)=false:=decide_eq_false (by omega)
 obtain ⟨p1,p2,p3,p4⟩:=dt h2
 have p5:=cL (p2 _ (aP hpos))
 have i0:=sS hpos
 have hS:=jn c (gb a) hc hs
 unfold dQ at hS
 rw [if_neg (fun h=>h he),if_neg (by unfold gb; omega),Int.toNat_natCast] at hS
 have eL:i8 c (gb a)=bh c (gb a):=by unfold bh; rw [if_neg (by unfold gb; omega),Int.toNat_natCast]
 rw [eL] at hS
 have hLs:=jb (eU (d:=(gb a:Nat)) he)
 have hLl:=eF (d:=(gb a:Nat)) hc he
 have hLa:=gZ (c:=c) (d:=(gb a:Nat))
 generalize bh c (gb a)=L at *
 unfold gb at hS
 (have zz:=aI @ao (aI @aj (aI @ag (aI @ap (aI @i0 (aI @z0 @z3))))); repeat' (first|refine zW ?_|refine zM ?_|apply a_n|refine zO ?_|refine vY ?_|refine cY ?_ (hp:=by first | exact hcc | exact hca | exact hS) (hs:=by (first | refine ab ?_ rfl | apply ac); (repeat' (first | exact aa | apply am | apply ae | exact bg _ | exact aC _)); first | done | fail)|refine bxY ?_|refine cFY ?_|fail)) <;> (try clear zz)
 refine bd (X:=AV × Nat) (fun x=>[(8,au L),(10,x.1),(40,au a),(41,.int .i64 a.length),(42,.int .i64 x.2)]) (fun x H nx=>x.2 ≤ a.length∧(∀ i,i < x.2→decide (a.getD i default ∈ L)=true)∧Row H 1 x.1 ((bu (lI L (a.take x.2))).map (AV.int .i64))∧∀ b,cr x.1=some b→b < nx) (fun x=>a.length - x.2) (.esl,0) ⟨Nat.zero_le _,fun i h=>absurd h (by omega),Row.nil,fun b hb=>(by cases hb)⟩ ag0 ?_
 rintro ⟨sv,k⟩ H nx ⟨k1,k2,k3,k4⟩
 dsimp only at k1 k2 k3 k4 ⊢
 by_cases hk:k < a.length
 rotate_left
 ·rw [List.take_of_length_le (by omega)] at k3
  rw [if_pos (ji fun i hi=>k2 i (by omega))]
  (have zz:=and_self; repeat' (first|refine zW ?_|apply a_n|apply a_x|refine zO ?_|refine vY ?_|(refine zGY ?_ ?_ <;> (intro _hg; try (exfalso; omega)))|refine ak rfl ?_|refine r2Y ?_|fail)) <;> (try clear zz)
  exact ke k3.snapI rfl
 have ix:=dH hk
 have hsx:=ha.2 _ (aP hk)
 obtain ⟨p,hpl,hpm⟩:=qU L (a.getD k default) (show _ ≤ _ by omega) hLs hsx hLa
 by_cases hin:a.getD k default ∈ L
 rotate_left
 ·rw [decide_eq_false hin] at hpl
  have hall:¬ (a.all fun s=>decide (s ∈ L))=true:=by
   rw [gU hk (decide_eq_false hin)]; decide
  rw [if_neg hall]
  (have zz:=@ix; repeat' (first|refine zW ?_|apply a_n|apply a_r|refine zO ?_|refine vY ?_|refine cY ?_ (hp:=hpl) (hs:=by (first | refine ab ?_ rfl | apply ac); (repeat' (first | exact aa | apply am | apply ae | exact aC _ | exact ax _)); first | done | fail)|refine cTY ?_|(refine zGY ?_ ?_ <;> (intro _hg; try (exfalso; omega)))|refine ak rfl ?_|refine r2Y ?_|fail)) <;> (try clear zz)
  exact ke (.eslsl _) rfl
 rw [decide_eq_true hin] at hpl
 obtain ⟨p1',p2'⟩:=hpm hin
 have hidx:=xx (hLa.nodup fm) p1' p2'
 have hpt:=ve (L:=L) hk
 rw [hidx] at hpt
 have hnl:(bu (lI L (a.take k))).length=k:=by unfold bu lI; rw [List.length_map,List.length_map,List.length_take]; omega
 (have zz:=@ix; repeat' (first|refine zW ?_|apply a_n|refine zO ?_|refine vY ?_|refine cY ?_ (hp:=hpl) (hs:=by (first | refine ab ?_ rfl | apply ac); (repeat' (first | exact aa | apply am | apply ae | exact aC _ | exact ax _)); first | done | fail)|refine blY ?_|refine cFY ?_|(refine zGY ?_ ?_ <;> (intro _hg; try (exfalso; omega)))|fail)) <;> (try clear zz)
 refine fo rfl ev0 (k3.same fun b hb=>?_) ev0 b6 rfl rfl Nat.one_pos (by rw [List.length_map]; omega) (by rw [List.length_map]; omega) ?_
 ·have:=k4 b hb; rw [af (by omega)]
 rintro s2 E e hrow hle1 hle2 hsame hb2
 (have zz:=and_self; repeat' (first|apply a_n|refine zO ?_|refine vY ?_|fail)) <;> (try clear zz)
 refine ⟨(s2,k + 1),by dsimp only; omega,⟨by dsimp only; omega,fun i hi=>?_,?_,fun b hb=>?_⟩,ag0⟩
 ·rcases Nat.lt_succ_iff_lt_or_eq.1 hi with h' | rfl
  ·exact k2 i h'
  ·exact decide_eq_true hin
 ·dsimp only
  rw [hpt,k9,List.map_append]; exact hrow
 ·rcases hb2 b hb with h | h
  ·have:=k4 b h; omega
  ·omega
end Go.Proofs.Ytfcenbapjhecfaa
namespace Go.Proofs.Ytfcenbapjhecfaa
open Go Go.Abs
attribute [local irreducible] aB ai aW aN aG aH ay aJ aO ba Go.Abs.Fn aM Go.Abs.Pure ar aE Yl
theorem uT (x y:List Int) (hx:x.length ≤ 1000000000) (hy:y.length ≤ 1000000000):Pure Try.prog 55 [bc x,bc y] (.bool (decide (x=y))):=by
 refine Pure.of_c2 follows Bl (Nat.le_of_ble_eq_true rfl) ?_
 simp only [b55,cO,cG,cN,cM,cD,cF,cB,aA,aR]
 by_cases hl:x.length=y.length
 rotate_left
 ·have z:decide ((x.length:Int) ≠ y.length)=true:=decide_eq_true (by omega)
  (have zz:=@z; repeat' (first|refine zW ?_|apply a_n|apply a_r|refine zO ?_|refine vZ ?_|refine cTZ ?_|refine ak rfl ?_|refine r1Z ?_|fail)) <;> (try clear zz)
  exact bn (by symm; rw [decide_eq_false_iff_not]; rintro rfl; exact hl rfl)
 have z:decide ((x.length:Int) ≠ y.length)=false:=decide_eq_false (by omega)
 (have zz:=@z; repeat' (first|refine zW ?_|apply a_n|refine zO ?_|refine vZ ?_|refine cFZ ?_|fail)) <;> (try clear zz)
 refine jD (X:=Nat) (fun k=>[(0,bc x),(1,bc y),(5,.int .i64 k)]) (fun k=>k ≤ x.length∧∀ i,i < k→x.getD i default=y.getD i default) (fun k=>x.length - k) 0 ⟨Nat.zero_le _,fun i h=>absurd h (by omega)⟩ ag0 ?_
 rintro k ⟨h1,h2⟩
 by_cases hk:k < x.length
 rotate_left
 ·(have zz:=and_self; repeat' (first|refine zW ?_|apply a_n|apply a_x|refine zO ?_|refine vZ ?_|(refine zGZ ?_ ?_ <;> (intro _hg; try (exfalso; omega)))|refine ak rfl ?_|refine r1Z ?_|fail)) <;> (try clear zz)
  refine bn ?_
  symm
  rw [decide_eq_true_eq]
  refine List.ext_getElem hl fun i a b=>?_
  have:=h2 i (by omega)
  simpa [List.getD,a,b] using this
 by_cases he:x.getD k default=y.getD k default
 ·have z2:decide (x.getD k default ≠ y.getD k default)=false:=decide_eq_false (fun h=>h he)
  (have zz:=@z2; repeat' (first|refine zW ?_|apply a_n|refine zO ?_|refine vZ ?_|refine cFZ ?_|(refine zGZ ?_ ?_ <;> (intro _hg; try (exfalso; omega)))|fail)) <;> (try clear zz)
  exact ⟨k + 1,⟨by omega,fun i hi=>by
   rcases Nat.lt_succ_iff_lt_or_eq.1 hi with h' | rfl
   ·exact h2 i h'
   ·exact he⟩,by omega,ag0,rfl,rfl⟩
 ·have z2:decide (x.getD k default ≠ y.getD k default)=true:=decide_eq_true he
  (have zz:=@z2; repeat' (first|refine zW ?_|apply a_n|apply a_r|refine zO ?_|refine vZ ?_|refine cTZ ?_|(refine zGZ ?_ ?_ <;> (intro _hg; try (exfalso; omega)))|refine ak rfl ?_|refine r1Z ?_|fail)) <;> (try clear zz)
  exact bn (by symm; rw [decide_eq_false_iff_not]; rintro rfl; exact he rfl)
theorem oh (c:Int) (x:List (List Int)) (hx:x.length ≤ 1000000) (hxs:∀ r ∈ x,r.length ≤ 1000000):Pure Try.prog 24 [fW c x,fW c x] (.bool true):=by
 refine Pure.of_c2 follows B4 (Nat.le_of_ble_eq_true rfl) ?_
 simp only [b24,cO,cG,cN,cM,cD,cF,cB,aA,aR]
 unfold fW
 have z1:decide (c ≠ c)=false:=by simp
 have z2:decide ((x.length:Int) ≠ x.length)=false:=by simp
 (have zz:=aI @z1 @z2; repeat' (first|refine zW ?_|apply a_n|refine zO ?_|refine vY ?_|refine bxY ?_|refine gTY ?_|refine cFY ?_|fail)) <;> (try clear zz)
 refine bd (X:=Nat) (fun k=>[(2,.ptr 0 2 0),(3,.ptr 1 2 0),(5,.int .i64 k)]) (fun k H nx=>k ≤ x.length∧H 0=some [.int .i64 c,cb x]∧H 1=some [.int .i64 c,cb x]) (fun k=>x.length - k) 0 ⟨Nat.zero_le _,by rw [af (by omega),ah],ah⟩ (by (iterate 3 refine And.intro rfl ?_); trivial) ?_
 rintro k H nx ⟨h1,g0,g1⟩
 by_cases hk:k < x.length
 rotate_left
 ·(have zz:=aI @g0 @g1; repeat' (first|refine zW ?_|apply a_n|apply a_x|refine zO ?_|refine vY ?_|(refine zGY ?_ ?_ <;> (intro _hg; try (exfalso; omega)))|refine ak rfl ?_|refine r1Y ?_|fail)) <;> (try clear zz)
  exact .bool _
 have hs:=uT (x.getD k default) (x.getD k default) (by have:=hxs _ (aP hk); omega) (by have:=hxs _ (aP hk); omega)
 rw [decide_eq_true rfl] at hs
 (have zz:=aI @g0 @g1; repeat' (first|refine zW ?_|refine zM ?_|apply a_n|refine zO ?_|refine vY ?_|refine cY ?_ (hp:=hs) (hs:=by (first | refine ab ?_ rfl | apply ac); (repeat' (first | exact aa | apply am | apply ae | exact bW _)); first | done | fail)|refine cFY ?_|(refine zGY ?_ ?_ <;> (intro _hg; try (exfalso; omega)))|fail)) <;> (try clear zz)
 exact ⟨k + 1,by omega,⟨by omega,g0,g1⟩,ag0⟩
end Go.Proofs.Ytfcenbapjhecfaa
namespace Go.Proofs.Ytfcenbapjhecfaa
open Go Go.Abs
attribute [local irreducible] aB ai aW aN aG aH ay aJ aO ba Go.Abs.Fn aM Go.Abs.Pure ar aE Yl
end Go.Proofs.Ytfcenbapjhecfaa
namespace Go.Proofs.Ytfcenbapjhecfaa
open Go Go.Abs
theorem ixV {l:List Int} {k:Nat} (h:k < l.length):cS 1 (bc l) (.int .i64 (k:Int))=some (.iptr [.int .i64 (l.getD k default)] 0):=by
 rw [gO,if_pos ⟨by omega,by omega⟩,Int.toNat_natCast]
theorem iY {l:List Int}:bI (bc l)=some (.int .i64 l.length):=nF
attribute [local irreducible] aB ai aW aN aG aH ay aJ aO ba Go.Abs.Fn aM Go.Abs.Pure ar aE Yl
theorem yD {n:Nat} {v:List Int} {k:Nat} (h:iV n v k=0):0 ≤ v.getD k default∧v.getD k default < n∧(0 < k→v.getD (k - 1) default < v.getD k default):=by
 unfold iV at h
 split at h
 ·exact absurd h (by decide)
 split at h
 ·exact absurd h (by decide)
 ·rename_i h1 h2
  exact ⟨by omega,by omega,fun h0=>by omega⟩
set_option maxHeartbeats 1000000 in
theorem xE (c:List Spx) (d:Int) (v:List Int) (hc:c.length ≤ 50) (hs:∀ s ∈ c,Shn s) (hv:v.length ≤ 100000):Pure Try.prog 27 [eS c,.int .i64 d,bc v] (.tup [au (qu c d v).1,.int .i64 (qu c d v).2]):=by
 refine Pure.of_c2 follows A3 (Nat.le_of_ble_eq_true rfl) ?_
 simp only [b27,cO,cG,cN,cM,cD,cF,cB,aA,aR]
 have hcc:=jH c (show _ ≤ _ by omega) hs
 have z0:decide ((0:Int) ≠ 0)=false:=rfl
 unfold qu
 by_cases he:a5 c=0
 rotate_left
 ·rw [if_pos he]
  have z:decide (a5 c ≠ 0)=true:=decide_eq_true he
  (have zz:=aI @ao (aI @aj @z); repeat' (first|refine zW ?_|apply a_n|apply a_r|refine zO ?_|refine vY ?_|refine cY ?_ (hp:=hcc) (hs:=by (first | refine ab ?_ rfl | apply ac); (repeat' (first | exact aa | apply am | apply ae | exact bg _)); first | done | fail)|refine bxY ?_|refine cTY ?_|refine ak rfl ?_|refine r2Y ?_|fail)) <;> (try clear zz)
  exact bK (.eslsl _) rfl
 rw [if_neg (fun h=>h he)]
 rw [he] at hcc
 by_cases hd:d < 0 ∨ 8 ≤ d
 ·rw [if_pos hd]
  (have zz:=aI @ao (aI @aj @z0); repeat' (first|refine zW ?_|apply a_n|apply a_r|refine zO ?_|refine vY ?_|refine cY ?_ (hp:=hcc) (hs:=by (first | refine ab ?_ rfl | apply ac); (repeat' (first | exact aa | apply am | apply ae | exact bg _)); first | done | fail)|refine bxY ?_|refine gTY ?_|refine gFY ?_|refine cTY ?_|refine cFY ?_|(refine zGY ?_ ?_ <;> (intro _hg; try (exfalso; omega)))|refine ak rfl ?_|refine r2Y ?_|fail)) <;> (try clear zz)
  all_goals first | exact bK (.eslsl _) rfl | (exfalso; omega)
 rw [if_neg hd]
 have hX:=vI c d (by omega) hc hs
 rw [ua he (by omega) (by omega)] at hX
 have hXl:=eF (d:=d + 1) hc he
 have hXm:=eU (d:=d + 1) he
 generalize bh c (d + 1)=X at *
 have z1:decide (d < 0)=false:=decide_eq_false (by omega)
 have z2:decide (8 ≤ d)=false:=decide_eq_false (by omega)
 (have zz:=aI @ao (aI @aj (aI @z0 (aI @z1 @z2))); repeat' (first|refine zW ?_|apply a_n|refine zO ?_|refine vY ?_|refine cY ?_ (hp:=by first | exact hcc | exact hX) (hs:=by (first | refine ab ?_ rfl | apply ac); (repeat' (first | exact aa | apply am | apply ae | exact bg _)); first | done | fail)|refine bxY ?_|refine gTY ?_|refine cFY ?_|fail)) <;> (try clear zz)
 refine bd (X:=AV × Nat) (fun x=>[(2,bc v),(9,au X),(11,x.1),(34,bc v),(35,.int .i64 v.length),(36,.int .i64 x.2)]) (fun x H nx=>x.2 ≤ v.length∧(∀ i,i < x.2→iV X.length v i=0)∧Row H 1 x.1 ((d6 X (v.take x.2)).map av)∧∀ b,cr x.1=some b→b < nx) (fun x=>v.length - x.2) (.esl,0) ⟨Nat.zero_le _,fun i h=>absurd h (by omega),Row.nil,fun b hb=>(by cases hb)⟩ ag0 ?_
 rintro ⟨sv,k⟩ H nx ⟨k1,k2,k3,k4⟩
 dsimp only at k1 k2 k3 k4 ⊢
 by_cases hk:k < v.length
 rotate_left
 ·have hz:iE X.length v=0:=bJ fun i hi=>k2 i (by omega)
  rw [if_neg (fun h=>h hz)]
  rw [List.take_of_length_le (by omega)] at k3
  have hpl:(d6 X v).length=v.length:=by unfold d6; rw [List.length_map]
  have hcp:=oO (d6 X v) (by omega) fun s hs=>by
   unfold d6 at hs
   obtain ⟨i,hi,rfl⟩:=List.mem_map.1 hs
   by_cases hl:i.toNat < X.length
   ·exact nk hXm _ (aP hl)
   ·rw [show X.getD i.toNat default=[] by unfold List.getD; rw [List.getElem?_eq_none (by omega)]; rfl]; exact Nat.zero_le _
  obtain ⟨Hf,H4,hfz,hsn,hoth⟩:=ze k3
  have z6:decide ((k:Int) < v.length)=false:=decide_eq_false (by omega)
  refine dE ?_
  (have zz:=@z6; repeat' (first|apply a_n|refine zO ?_|refine vY ?_|fail)) <;> (try clear zz)
  refine dE ?_
  (have zz:=@z6; repeat' (first|apply a_n|apply a_x|refine zO ?_|refine cFY ?_|fail)) <;> (try clear zz)
  refine dE ?_
  refine pZ Hf H4 [(11,au (d6 X v))] hfz ⟨.inr hsn,trivial⟩ ?_
  (have zz:=and_self; repeat' (first|apply a_n|refine zO ?_|refine vY ?_|refine cY ?_ (hp:=hcp) (hs:=by (first | refine ab ?_ rfl | apply ac); (repeat' (first | exact aa | apply am | apply ae | exact aC _)); first | done | fail)|refine ak rfl ?_|refine r2Y ?_|fail)) <;> (try clear zz)
  exact bK (aC _).snap rfl
 have ix:=ixV hk
 have hsp:=mE (n:=X.length) (v:=v) (k:=k)
 have hfin:∀ e:Int,e ≠ 0→iV X.length v k=e→(if iE X.length v ≠ 0 then (([]:List Spx),iE X.length v) else (d6 X v,0))=([],e):=fun e h0 he=>by
  have h5:iE X.length v=e:=by
   unfold iE
   rw [bz hk k2 (by rw [he]; exact h0),he]
  rw [if_pos (by rw [h5]; exact h0),h5]
 by_cases g1:v.getD k default < 0
 ·rw [if_pos (.inl g1)] at hsp
  rw [hfin 2 (by decide) hsp]
  have z1:decide (v.getD k default < 0)=true:=decide_eq_true g1
  (have zz:=aI @ix @z1; repeat' (first|refine zW ?_|apply a_n|apply a_r|refine zO ?_|refine vY ?_|refine gFY ?_|refine cTY ?_|(refine zGY ?_ ?_ <;> (intro _hg; try (exfalso; omega)))|refine ak rfl ?_|refine r2Y ?_|fail)) <;> (try clear zz)
  exact bK (.eslsl _) rfl
 have z3:decide (v.getD k default < 0)=false:=decide_eq_false g1
 by_cases g2:(X.length:Int) ≤ v.getD k default
 ·rw [if_pos (.inr g2)] at hsp
  rw [hfin 2 (by decide) hsp]
  have z4:decide ((X.length:Int) ≤ v.getD k default)=true:=decide_eq_true g2
  (have zz:=aI @ix (aI @z3 (aI @z4 @ag)); repeat' (first|refine zW ?_|apply a_n|apply a_r|refine zO ?_|refine vY ?_|refine gTY ?_|refine cTY ?_|(refine zGY ?_ ?_ <;> (intro _hg; try (exfalso; omega)))|refine ak rfl ?_|refine r2Y ?_|fail)) <;> (try clear zz)
  exact bK (.eslsl _) rfl
 have z4:decide ((X.length:Int) ≤ v.getD k default)=false:=decide_eq_false g2
 rw [if_neg (by omega)] at hsp
 have iw:cS 1 (au X) (.int .i64 (v.getD k default))=some (.iptr [av (X.getD (v.getD k default).toNat default)] 0):=by
  rw [lz,if_pos ⟨by omega,by omega⟩]
 have hpt:=rO (X:=X) hk
 have hnl:(d6 X (v.take k)).length=k:=by unfold d6; rw [List.length_map,List.length_take]; omega
 have hstep:∀ (s2:AV) (E:Hp) (e:Nat),iV X.length v k=0→Row E 1 s2 ((d6 X (v.take k)).map av ++ [av (X.getD (v.getD k default).toNat default)])→(∀ i,i < k + 1→iV X.length v i=0)∧Row E 1 s2 ((d6 X (v.take (k + 1))).map av):=fun s2 E e hz hr=>⟨fun i hi=>by
  rcases Nat.lt_succ_iff_lt_or_eq.1 hi with h' | rfl
  ·exact k2 i h'
  ·exact hz,by rw [hpt,List.map_append]; exact hr⟩
 generalize X.getD (v.getD k default).toNat default=x at *
 by_cases hk0:0 < k
 rotate_left
 ·rw [if_neg (fun h=>hk0 h.1)] at hsp
  have zk:decide (0 < (k:Int))=false:=decide_eq_false (by omega)
  (have zz:=aI @ix (aI @iw (aI @z3 (aI @z4 (aI @zk (aI @ag (aI @az @aw)))))); repeat' (first|refine zW ?_|apply a_n|refine zO ?_|refine vY ?_|refine blY ?_|refine gTY ?_|refine gFY ?_|refine cFY ?_|(refine zGY ?_ ?_ <;> (intro _hg; try (exfalso; omega)))|fail)) <;> (try clear zz)
  refine fo rfl ev0 (k3.same fun b hb=>?_) ev0 b6 rfl rfl Nat.one_pos (by rw [List.length_map]; omega) (by rw [List.length_map]; omega) ?_
  ·have:=k4 b hb; rw [af (by omega)]
  rintro s2 E e hrow hle1 hle2 hsame hb2
  (have zz:=and_self; repeat' (first|apply a_n|refine zO ?_|refine vY ?_|fail)) <;> (try clear zz)
  exact ⟨(s2,k + 1),by dsimp only; omega,⟨by dsimp only; omega,(hstep s2 E e hsp hrow).1,(hstep s2 E e hsp hrow).2,fun b hb=>by
   rcases hb2 b hb with h | h
   ·have:=k4 b h; omega
   ·omega⟩,ag0⟩
 have zk:decide (0 < (k:Int))=true:=decide_eq_true (by omega)
 have iy:cS 1 (bc v) (.int .i64 ((k:Int) - 1))=some (.iptr [.int .i64 (v.getD (k - 1) default)] 0):=by
  have:=ixV (l:=v) (k:=k - 1) (by omega)
  rwa [show ((k - 1:Nat):Int)=(k:Int) - 1 by omega] at this
 by_cases g3:v.getD k default ≤ v.getD (k - 1) default
 ·rw [if_pos ⟨hk0,g3⟩] at hsp
  rw [hfin 14 (by decide) hsp]
  have z5:decide (v.getD k default ≤ v.getD (k - 1) default)=true:=decide_eq_true g3
  (have zz:=aI @ix (aI @iy (aI @z3 (aI @z4 (aI @zk (aI @z5 @ag))))); repeat' (first|refine zW ?_|apply a_n|apply a_r|refine zO ?_|refine vY ?_|refine gTY ?_|refine cTY ?_|refine cFY ?_|(refine zGY ?_ ?_ <;> (intro _hg; try (exfalso; omega)))|refine ak rfl ?_|refine r2Y ?_|fail)) <;> (try clear zz)
  exact bK (.eslsl _) rfl
 ·rw [if_neg (fun h=>g3 h.2)] at hsp
  have z5:decide (v.getD k default ≤ v.getD (k - 1) default)=false:=decide_eq_false g3
  (have zz:=aI @ix (aI @iy (aI @iw (aI @z3 (aI @z4 (aI @zk (aI @z5 (aI @ag (aI @az @aw)))))))); repeat' (first|refine zW ?_|apply a_n|refine zO ?_|refine vY ?_|refine blY ?_|refine gTY ?_|refine cFY ?_|(refine zGY ?_ ?_ <;> (intro _hg; try (exfalso; omega)))|fail)) <;> (try clear zz)
  refine fo rfl ev0 (k3.same fun b hb=>?_) ev0 b6 rfl rfl Nat.one_pos (by rw [List.length_map]; omega) (by rw [List.length_map]; omega) ?_
  ·have:=k4 b hb; rw [af (by omega)]
  rintro s2 E e hrow hle1 hle2 hsame hb2
  (have zz:=and_self; repeat' (first|apply a_n|refine zO ?_|refine vY ?_|fail)) <;> (try clear zz)
  exact ⟨(s2,k + 1),by dsimp only; omega,⟨by dsimp only; omega,(hstep s2 E e hsp hrow).1,(hstep s2 E e hsp hrow).2,fun b hb=>by
   rcases hb2 b hb with h | h
   ·have:=k4 b h; omega
   ·omega⟩,ag0⟩
end Go.Proofs.Ytfcenbapjhecfaa
namespace Go.Proofs.Ytfcenbapjhecfaa
open Go Go.Abs
def b4 (l:List Int):Spx:=l.map fun c=>⟨c,0⟩
theorem u1 {l:List Int} {k:Nat} (h:k < l.length):b4 (l.take (k + 1))=b4 (l.take k) ++ [⟨l.getD k default,0⟩]:=by
 unfold b4; rw [cC h,List.map_append]; rfl
attribute [local irreducible] aB ai aW aN aG aH ay aJ aO ba Go.Abs.Fn aM Go.Abs.Pure ar aE Yl
theorem sI (l:List Int) (hl:l.length ≤ 1000):dg Try.prog 36 [bc l] (av (b4 l)):=by
 refine dg.of_c2 follows A1 (Nat.le_of_ble_eq_true rfl) ?_
 simp only [b36,cO,cG,cN,cM,cD,cF,cB,aA,aR]
 (have zz:=and_self; repeat' (first|refine zW ?_|apply a_n|refine zO ?_|refine vY ?_|fail)) <;> (try clear zz)
 refine bd (X:=AV × Nat) (fun x=>[(3,x.1),(6,bc l),(7,.int .i64 l.length),(8,.int .i64 x.2)]) (fun x H nx=>x.2 ≤ l.length∧Row H 2 x.1 (cX (b4 (l.take x.2)))∧∀ b,cr x.1=some b→b < nx) (fun x=>l.length - x.2) (.esl,0) ⟨Nat.zero_le _,Row.nil,fun b hb=>(by cases hb)⟩ ag0 ?_
 rintro ⟨sv,k⟩ H nx ⟨k1,k3,k4⟩
 dsimp only at k1 k3 k4 ⊢
 by_cases hk:k < l.length
 rotate_left
 ·rw [List.take_of_length_le (by omega)] at k3
  (have zz:=and_self; repeat' (first|refine zW ?_|apply a_n|apply a_x|refine zO ?_|refine vY ?_|(refine zGY ?_ ?_ <;> (intro _hg; try (exfalso; omega)))|refine ak rfl ?_|refine r1Y ?_|fail)) <;> (try clear zz)
  exact lJ k3
 have ix:=ixV hk
 have hpt:=u1 hk
 have hcl:(cX (b4 (l.take k))).length=k * 2:=by rw [fl]; unfold b4; rw [List.length_map,List.length_take]; omega
 (have zz:=@ix; repeat' (first|refine zW ?_|apply a_n|refine zO ?_|refine vY ?_|refine blY ?_|(refine zGY ?_ ?_ <;> (intro _hg; try (exfalso; omega)))|fail)) <;> (try clear zz)
 refine fo rfl ev0 (k3.same fun b hb=>?_) ev0 oL rfl rfl (by omega) (by omega) (by omega) ?_
 ·have:=k4 b hb; rw [af (by omega)]
 rintro s2 E e hrow hle1 hle2 hsame hb2
 (have zz:=and_self; repeat' (first|apply a_n|refine zO ?_|refine vY ?_|fail)) <;> (try clear zz)
 refine ⟨(s2,k + 1),by dsimp only; omega,⟨by dsimp only; omega,?_,fun b hb=>?_⟩,ag0⟩
 ·dsimp only
  rw [hpt,gN]; exact hrow
 ·rcases hb2 b hb with h | h
  ·have:=k4 b h; omega
  ·omega
end Go.Proofs.Ytfcenbapjhecfaa
namespace Go.Proofs.Ytfcenbapjhecfaa
open Go Go.Abs
end Go.Proofs.Ytfcenbapjhecfaa
namespace Go.Proofs.Ytfcenbapjhecfaa
open Go Go.Abs
attribute [local irreducible] aB ai aW aN aG aH ay aJ aO ba Go.Abs.Fn aM Go.Abs.Pure ar aE Yl
end Go.Proofs.Ytfcenbapjhecfaa
namespace Go.Proofs.Ytfcenbapjhecfaa
open Go Go.Abs
attribute [local irreducible] aB ai aW aN aG aH ay aJ aO ba Go.Abs.Fn aM Go.Abs.Pure ar aE Yl
end Go.Proofs.Ytfcenbapjhecfaa
namespace Go.Proofs.Ytfcenbapjhecfaa
open Go Go.Abs
structure PairV where
 a:List Spx
 b:List Spx
 d:Int
attribute [local irreducible] aB ai aW aN aG aH ay aJ aO ba Go.Abs.Fn aM Go.Abs.Pure ar aE Yl
end Go.Proofs.Ytfcenbapjhecfaa
namespace Go.Proofs.Ytfcenbapjhecfaa
open Go Go.Abs
end Go.Proofs.Ytfcenbapjhecfaa
namespace Go.Proofs.Ytfcenbapjhecfaa
open Go Go.Abs
attribute [local irreducible] aB ai aW aN aG aH ay aJ aO ba Go.Abs.Fn aM Go.Abs.Pure ar aE Yl
theorem nC (l m:List Int) (hl:l.length ≤ 1000000) (hm:m.length ≤ 1000000):Pure Try.prog 29 [bc l,bc m] (.bool (decide (l=m))):=by
 refine Pure.of_c2 follows Bc (Nat.le_of_ble_eq_true rfl) ?_
 simp only [b29,cO,cG,cN,cM,cD,cF,cB,aA,aR]
 (have zz:=and_self; repeat' (first|refine zW ?_|apply a_n|apply a_r|refine zO ?_|refine vZ ?_|(refine zGZ ?_ ?_ <;> (intro _hg; try (exfalso; omega)))|refine ak rfl ?_|refine r1Z ?_|fail)) <;> (try clear zz)
 ·refine bn ?_
  symm; rw [decide_eq_false_iff_not]; rintro rfl; omega
 refine jD (X:=Nat) (fun k=>[(0,bc l),(1,bc m),(12,.int .i64 l.length),(13,.int .i64 k)]) (fun k=>k ≤ l.length∧∀ i,i < k→l.getD i default=m.getD i default) (fun k=>l.length - k) 0 ⟨Nat.zero_le _,by simp⟩ ag0 ?_
 rintro k ⟨h1,h2⟩
 (have zz:=and_self; repeat' (first|refine zW ?_|apply a_n|apply a_x|apply a_r|refine zO ?_|refine vZ ?_|(refine zGZ ?_ ?_ <;> (intro _hg; try (exfalso; omega)))|refine ak rfl ?_|refine r1Z ?_|fail)) <;> (try clear zz)
 ·refine bn ?_
  symm; rw [decide_eq_false_iff_not]; rintro rfl; exact absurd rfl ‹_›
 ·refine ⟨k + 1,⟨by omega,fun i hi=>?_⟩,by omega,ag0,rfl,rfl⟩
  rcases Nat.lt_succ_iff_lt_or_eq.1 hi with h | rfl
  ·exact h2 i h
  ·omega
 ·refine bn ?_
  symm; rw [decide_eq_true_iff]
  refine List.ext_getElem (by omega) (fun i h3 h4=>?_)
  have:=h2 i (by omega)
  simpa [List.getD,h3,h4] using this
end Go.Proofs.Ytfcenbapjhecfaa
namespace Go.Proofs.Ytfcenbapjhecfaa
open Go Go.Abs
def exC:List Spx:=[b4 [0,1,2],b4 [2,3]]
def exA:List Spx:=[b4 [0,1],b4 [0,2],b4 [1,2]]
def exB:List Spx:=[b4 [0],b4 [2]]
def exS:List Spx:=[b4 [0,1],b4 [2,3]]
theorem wz:dg Try.prog 36 [bc [0,1,2]] (av (b4 [0,1,2])):=sI _ (by decide)
theorem lK:dg Try.prog 36 [bc [0,1]] (av (b4 [0,1])):=sI _ (by decide)
theorem xA:dg Try.prog 36 [bc [0,2]] (av (b4 [0,2])):=sI _ (by decide)
theorem lQ:dg Try.prog 36 [bc [1,2]] (av (b4 [1,2])):=sI _ (by decide)
theorem pS:dg Try.prog 36 [bc [2,3]] (av (b4 [2,3])):=sI _ (by decide)
theorem zp:dg Try.prog 36 [bc [0]] (av (b4 [0])):=sI _ (by decide)
theorem zf:dg Try.prog 36 [bc [2]] (av (b4 [2])):=sI _ (by decide)
theorem zQ:Pure Try.prog 17 [au [b4 [0,1,2]]] (.tup [au exA,.int .i64 0]):=by
 have h:=pO [b4 [0,1,2]] ⟨by decide,by decide⟩
 rwa [show gI [b4 [0,1,2]]=(exA,0) by decide +kernel] at h
theorem Ar:Pure Try.prog 17 [au [b4 [0,1],b4 [1,2]]] (.tup [au exB,.int .i64 0]):=by
 have h:=pO [b4 [0,1],b4 [1,2]] ⟨by decide,by decide⟩
 rwa [show gI [b4 [0,1],b4 [1,2]]=(exB,0) by decide +kernel] at h
theorem AC:Pure Try.prog 19 [au exA] (.tup [.bool true,.int .i64 0]):=by
 have h:=zF exA ⟨by decide,by decide⟩
 rwa [show xX exA=(true,0) by decide +kernel] at h
theorem B2:Pure Try.prog 12 [au [b4 [0,1],b4 [1,2]],au [b4 [1,2],b4 [2,3]]] (.tup [au exS,.int .i64 0]):=by
 have h:=xY [b4 [0,1],b4 [1,2]] [b4 [1,2],b4 [2,3]] ⟨by decide,by decide⟩ ⟨by decide,by decide⟩
 rwa [show xe [b4 [0,1],b4 [1,2]] [b4 [1,2],b4 [2,3]]=(exS,0) by decide +kernel] at h
theorem yd:Pure Try.prog 22 [eS exC,.int .i64 1] (.tup [(.agg [.int .i64 4,cb [[0,1],[0,2],[1,2,3],[3]]]),.int .i64 0]):=by
 have h:=sR exC 1 (by decide) (by decide)
 rwa [show jc exC 1=((4,[[0,1],[0,2],[1,2,3],[3]]),0) by decide +kernel] at h
theorem ye:Pure Try.prog 22 [eS exC,.int .i64 2] (.tup [(.agg [.int .i64 1,cb [[0],[0],[0],[]]]),.int .i64 0]):=by
 have h:=sR exC 2 (by decide) (by decide)
 rwa [show jc exC 2=((1,[[0],[0],[0],[]]),0) by decide +kernel] at h
theorem zC:Pure Try.prog 25 [eS exC,au exS] (.tup [bc [0,3],.int .i64 0]):=by
 have h:=rX exC exS (by decide) (by decide) ⟨by decide,by decide⟩
 rwa [show nX exC exS=([0,3],0) by decide +kernel] at h
theorem pD (l:List Spx) (h:ShC l):Pure Try.prog 16 [au l,au l] (.bool true):=by
 have:=um l l h.1 h.1 h.2 h.2
 rwa [decide_eq_true rfl] at this
theorem zd {H:Hp} {b c:Nat} {cs:List AV} {x y:AV} (h1:H b=some cs) (h2:H c=some [x]) (hne:c ≠ b) (hs:Snap (only b cs) x y):Fz (only b cs) H (only c [y]) where
 sub:=iT h1
 to:=fun a cs' h=>by
  unfold only at h
  split at h
  ·rename_i e
   cases h
   refine ⟨[x],by rw [e]; exact h2,?_,rfl,fun i u v hu hv=>?_⟩
   ·unfold only; rw [if_neg (by rw [e]; exact hne)]
   ·match i with
    | 0=>simp at hu hv; subst hu; subst hv; exact .inr hs
    | i + 1=>simp at hu
  ·cases h
theorem fQ {H:Hp} {b n:Nat} {l:List Spx} (h:H b=some (l.map av)) (hn:n=l.length):Snap H (.msl b n 1 0 n) (au l):=by
 subst hn
 have:=Row.box (H:=H) (sz:=1) b l.length (l.map av) h (by simp)
 rw [Nat.mul_one] at this
 exact eX this
theorem ql {H:Hp} {b n:Nat} {cs:List AV} {l:List (List Int)} (hb:H b=some cs) (hn:cs.length=n) (h:aE H cs (l.map bc)):Snap H (.msl b n 1 0 n) (cb l):=by
 have hl:=h.1
 refine go (l:=l.map bc) hb hn (by omega) (by omega) (fun y hy=>?_) (fun i a c ha hc=>?_)
 ·obtain ⟨z,_,rfl⟩:=List.mem_map.1 hy; rfl
 ·rw [Nat.zero_add] at ha
  exact h.2 i a c ha hc
theorem AO {g:FuncId} {r:AV} {l:List Spx} (hp:Pure Try.prog g [au l] r) {H:Hp} {b nx c n:Nat} {cs:List AV} (h1:H b=some (l.map av)) (hn:n=l.length) (h2:H c=some cs) (hne:c ≠ b):Abs.Fn Try.prog g [.msl b n 1 0 n] H nx fun r' H' nx'=>r'=r∧H'=only c cs∧nx'=nx :=
 Fn.of_pureZ hp (Hf:=only b (l.map av)) (H':=only c cs) (iT h1) (fun a cs' h=>by
  unfold only at h
  split at h
  ·rename_i e; cases h; subst e
   exact ⟨h2,by unfold only; rw [if_neg hne]⟩
  ·cases h) (an (fQ jI hn) aa) ⟨rfl,rfl,rfl⟩
theorem Ca {g:FuncId} {r:AV} {l m:List Spx} (hp:Pure Try.prog g [au l,au m] r) {H:Hp} {b d nx c n k:Nat} {cs:List AV} (h1:H b=some (l.map av)) (hn:n=l.length) (h3:H d=some (m.map av)) (hk:k=m.length) (hbd:d ≠ b) (h2:H c=some cs) (hne:c ≠ b) (hne2:c ≠ d):Abs.Fn Try.prog g [.msl b n 1 0 n,.msl d k 1 0 k] H nx fun r' H' nx'=>r'=r∧H'=only c cs∧nx'=nx :=
 Fn.of_pureZ hp (Hf:=on2 b (l.map av) d (m.map av)) (H':=only c cs) (pk h1 h3) (fun a cs' h=>by
  unfold only at h
  split at h
  ·rename_i e; cases h; subst e
   exact ⟨h2,by unfold on2; rw [if_neg hne,if_neg hne2]⟩
  ·cases h) (an (fQ yg hn) (an (fQ (yi hbd) hk) aa)) ⟨rfl,rfl,rfl⟩
theorem zG:Pure Try.prog 29 [bc [0,3],bc [0,3]] (.bool true):=by
 have:=nC [0,3] [0,3] (by decide) (by decide)
 rwa [decide_eq_true rfl] at this
attribute [local irreducible] aB ai aW aN aG aH ay aJ aO ba Go.Abs.Fn aM Go.Abs.Pure ar aE Yl
set_option maxHeartbeats 2000000 in
theorem hJ:Pure Try.prog 11 [] (.bool true):=by
 refine Pure.of_c2 follows Bu (Nat.le_of_ble_eq_true rfl) ?_
 simp only [b11,cO,cG,cN,cM,cD,cF,cB,aA,aR]
 have h3:only 3 [au exC] 3=some [au exC]:=jI
 (have zz:=aI @h3 (aI @az (aI @aw (aI @ao @aj))); repeat' (first|refine zW ?_|apply a_n|refine zO ?_|refine vZ ?_|refine blZ ?_|fail)) <;> (try clear zz)
 refine b0 ev0 ev0 wz (an (bj (n:=3) (len:=3) (l:=[0,1,2]) (by exact rfl) rfl rfl) aa) ?_
 (have zz:=aI @h3 (aI @az (aI @aw (aI @ao @aj))); repeat' (first|apply a_n|refine zO ?_|refine blZ ?_|fail)) <;> (try clear zz)
 refine b0 ev0 ev0 pS (an (bj (n:=2) (len:=2) (l:=[2,3]) (by exact rfl) rfl rfl) aa) ?_
 (have zz:=aI @h3 (aI @az (aI @aw (aI @ao @aj))); repeat' (first|apply a_n|refine zO ?_|refine vZ ?_|refine alZ ?_|refine stZ ?_|refine blZ ?_|fail)) <;> (try clear zz)
 refine dE ?_
 refine pZ (only 2 [av (b4 [0,1,2]),av (b4 [2,3])]) (only 3 [au exC]) [(1,.ptr 3 1 0)] (zd (x:=.msl 2 2 1 0 2) rfl rfl (by decide) (fQ (l:=exC) rfl rfl)) ⟨.inl rfl,trivial⟩ ?_
 (have zz:=aI @h3 (aI @az (aI @aw (aI @ao @aj))); repeat' (first|apply a_n|refine zO ?_|refine blZ ?_|fail)) <;> (try clear zz)
 refine b0 ev0 ev0 wz (an (bj (n:=3) (len:=3) (l:=[0,1,2]) (by exact rfl) rfl rfl) aa) ?_
 (have zz:=aI @h3 (aI @az (aI @aw (aI @ao @aj))); repeat' (first|apply a_n|refine zO ?_|refine blZ ?_|fail)) <;> (try clear zz)
 refine aV ev0 ev0 (AO zQ (b:=5) (c:=3) (cs:=[au exC]) (by exact rfl) (by exact rfl) (by exact rfl) (by decide)) ?_
 rintro _ _ _ ⟨rfl,rfl,rfl⟩
 (have zz:=aI @h3 (aI @az (aI @aw (aI @ao @aj))); repeat' (first|refine zW ?_|apply a_n|refine zO ?_|refine vZ ?_|refine cZ ?_ (hp:=by first | exact AC | exact yd | exact ye | exact zC) (hs:=by (first | refine ab ?_ rfl | apply ac); (repeat' (first | exact aa | apply am | apply ae | exact aC _ | exact bg _)); first | done | fail)|refine blZ ?_|fail)) <;> (try clear zz)
 refine b0 ev0 ev0 lK (an (bj (n:=2) (len:=2) (l:=[0,1]) (by exact rfl) rfl rfl) aa) ?_
 (have zz:=aI @h3 (aI @az (aI @aw (aI @ao @aj))); repeat' (first|apply a_n|refine zO ?_|refine blZ ?_|fail)) <;> (try clear zz)
 refine b0 ev0 ev0 lQ (an (bj (n:=2) (len:=2) (l:=[1,2]) (by exact rfl) rfl rfl) aa) ?_
 (have zz:=aI @h3 (aI @az (aI @aw (aI @ao @aj))); repeat' (first|apply a_n|refine zO ?_|refine blZ ?_|fail)) <;> (try clear zz)
 refine aV ev0 ev0 (AO Ar (b:=8) (c:=3) (cs:=[au exC]) (by exact rfl) (by exact rfl) (by exact rfl) (by decide)) ?_
 rintro _ _ _ ⟨rfl,rfl,rfl⟩
 (have zz:=aI @h3 (aI @az (aI @aw (aI @ao @aj))); repeat' (first|refine zW ?_|apply a_n|refine zO ?_|refine vZ ?_|refine blZ ?_|fail)) <;> (try clear zz)
 refine b0 ev0 ev0 lK (an (bj (n:=2) (len:=2) (l:=[0,1]) (by exact rfl) rfl rfl) aa) ?_
 (have zz:=aI @h3 (aI @az (aI @aw (aI @ao @aj))); repeat' (first|apply a_n|refine zO ?_|refine blZ ?_|fail)) <;> (try clear zz)
 refine b0 ev0 ev0 lQ (an (bj (n:=2) (len:=2) (l:=[1,2]) (by exact rfl) rfl rfl) aa) ?_
 (have zz:=aI @h3 (aI @az (aI @aw (aI @ao @aj))); repeat' (first|apply a_n|refine zO ?_|refine blZ ?_|fail)) <;> (try clear zz)
 refine b0 ev0 ev0 lQ (an (bj (n:=2) (len:=2) (l:=[1,2]) (by exact rfl) rfl rfl) aa) ?_
 (have zz:=aI @h3 (aI @az (aI @aw (aI @ao @aj))); repeat' (first|apply a_n|refine zO ?_|refine blZ ?_|fail)) <;> (try clear zz)
 refine b0 ev0 ev0 pS (an (bj (n:=2) (len:=2) (l:=[2,3]) (by exact rfl) rfl rfl) aa) ?_
 (have zz:=aI @h3 (aI @az (aI @aw (aI @ao @aj))); repeat' (first|apply a_n|refine zO ?_|refine blZ ?_|fail)) <;> (try clear zz)
 refine aV ev0 ev0 (Ca B2 (b:=11) (d:=14) (c:=3) (cs:=[au exC]) (by exact rfl) (by exact rfl) (by exact rfl) (by exact rfl) (by decide) (by exact rfl) (by decide) (by decide)) ?_
 rintro _ _ _ ⟨rfl,rfl,rfl⟩
 (have zz:=aI @h3 (aI @az (aI @aw (aI @ao @aj))); repeat' (first|refine zW ?_|apply a_n|refine zO ?_|refine vZ ?_|refine blZ ?_|refine gTZ ?_|(refine zGZ ?_ ?_ <;> (intro _hg; try (exfalso; omega)))|fail)) <;> (try clear zz)
 refine b0 ev0 ev0 lK (an (bj (n:=2) (len:=2) (l:=[0,1]) (by exact rfl) rfl rfl) aa) ?_
 (have zz:=aI @h3 (aI @az (aI @aw (aI @ao @aj))); repeat' (first|apply a_n|refine zO ?_|refine blZ ?_|refine gTZ ?_|fail)) <;> (try clear zz)
 refine b0 ev0 ev0 xA (an (bj (n:=2) (len:=2) (l:=[0,2]) (by exact rfl) rfl rfl) aa) ?_
 (have zz:=aI @h3 (aI @az (aI @aw (aI @ao @aj))); repeat' (first|apply a_n|refine zO ?_|refine blZ ?_|refine gTZ ?_|fail)) <;> (try clear zz)
 refine b0 ev0 ev0 lQ (an (bj (n:=2) (len:=2) (l:=[1,2]) (by exact rfl) rfl rfl) aa) ?_
 (have zz:=aI @h3 (aI @az (aI @aw (aI @ao @aj))); repeat' (first|apply a_n|refine zO ?_|refine blZ ?_|refine gTZ ?_|fail)) <;> (try clear zz)
 refine bO ev0 ev0 (pD exA ⟨by decide,by decide⟩) (ab (an (aC _ _) (an (fQ (b:=18) (n:=3) (by exact rfl) (by exact rfl)) aa)) rfl) ?_
 (have zz:=aI @h3 (aI @az (aI @aw (aI @ao @aj))); repeat' (first|apply a_n|refine zO ?_|refine vZ ?_|refine blZ ?_|refine gTZ ?_|fail)) <;> (try clear zz)
 refine b0 ev0 ev0 zp (an (bj (n:=1) (len:=1) (l:=[0]) (by exact rfl) rfl rfl) aa) ?_
 (have zz:=aI @h3 (aI @az (aI @aw (aI @ao @aj))); repeat' (first|apply a_n|refine zO ?_|refine blZ ?_|refine gTZ ?_|fail)) <;> (try clear zz)
 refine b0 ev0 ev0 zf (an (bj (n:=1) (len:=1) (l:=[2]) (by exact rfl) rfl rfl) aa) ?_
 (have zz:=aI @h3 (aI @az (aI @aw (aI @ao @aj))); repeat' (first|apply a_n|refine zO ?_|refine blZ ?_|refine gTZ ?_|fail)) <;> (try clear zz)
 refine bO ev0 ev0 (pD exB ⟨by decide,by decide⟩) (ab (an (aC _ _) (an (fQ (b:=21) (n:=2) (by exact rfl) (by exact rfl)) aa)) rfl) ?_
 (have zz:=aI @h3 (aI @az (aI @aw (aI @ao @aj))); repeat' (first|apply a_n|refine zO ?_|refine vZ ?_|refine blZ ?_|refine gTZ ?_|fail)) <;> (try clear zz)
 refine b0 ev0 ev0 lK (an (bj (n:=2) (len:=2) (l:=[0,1]) (by exact rfl) rfl rfl) aa) ?_
 (have zz:=aI @h3 (aI @az (aI @aw (aI @ao @aj))); repeat' (first|apply a_n|refine zO ?_|refine blZ ?_|refine gTZ ?_|fail)) <;> (try clear zz)
 refine b0 ev0 ev0 pS (an (bj (n:=2) (len:=2) (l:=[2,3]) (by exact rfl) rfl rfl) aa) ?_
 (have zz:=aI @h3 (aI @az (aI @aw (aI @ao @aj))); repeat' (first|apply a_n|refine zO ?_|refine blZ ?_|refine gTZ ?_|fail)) <;> (try clear zz)
 refine bO ev0 ev0 (pD exS ⟨by decide,by decide⟩) (ab (an (aC _ _) (an (fQ (b:=24) (n:=2) (by exact rfl) (by exact rfl)) aa)) rfl) ?_
 (have zz:=aI @h3 (aI @az (aI @aw (aI @ao @aj))); repeat' (first|refine zW ?_|apply a_n|refine zO ?_|refine vZ ?_|refine cZ ?_ (hp:=by first | exact AC | exact yd | exact ye | exact zC) (hs:=by (first | refine ab ?_ rfl | apply ac); (repeat' (first | exact aa | apply am | apply ae | exact aC _ | exact bg _)); first | done | fail)|refine alZ ?_|refine stZ ?_|refine blZ ?_|refine gTZ ?_|(refine zGZ ?_ ?_ <;> (intro _hg; try (exfalso; omega)))|refine cFZ ?_|fail)) <;> (try clear zz)
 refine bO ev0 ev0 (oh 4 [[0,1],[0,2],[1,2,3],[3]] (by decide) (by decide)) (ab (an ((show Dat (.agg [.int .i64 4,cb [[0,1],[0,2],[1,2,3],[3]]]) from fU 4 [[0,1],[0,2],[1,2,3],[3]]) _) (an (nI (an (.int _ _) (an (ql (b:=31) (n:=4) (cs:=[.msl 27 2 1 0 2,.msl 28 2 1 0 2,.msl 29 3 1 0 3,.msl 30 1 1 0 1]) (by exact rfl) (by exact rfl) (an (bj (b:=27) (n:=2) (len:=2) (l:=[0,1]) (by exact rfl) rfl rfl) (an (bj (b:=28) (n:=2) (len:=2) (l:=[0,2]) (by exact rfl) rfl rfl) (an (bj (b:=29) (n:=3) (len:=3) (l:=[1,2,3]) (by exact rfl) rfl rfl) (an (bj (b:=30) (n:=1) (len:=1) (l:=[3]) (by exact rfl) rfl rfl) aa))))) aa))) aa)) rfl) ?_
 (have zz:=aI @h3 (aI @az (aI @aw (aI @ao @aj))); repeat' (first|apply a_n|refine zO ?_|refine vZ ?_|refine blZ ?_|refine gTZ ?_|fail)) <;> (try clear zz)
 refine bO ev0 ev0 (oh 1 [[0],[0],[0],[]] (by decide) (by decide)) (ab (an ((show Dat (.agg [.int .i64 1,cb [[0],[0],[0],[]]]) from fU 1 [[0],[0],[0],[]]) _) (an (nI (an (.int _ _) (an (ql (b:=35) (n:=4) (cs:=[.msl 32 1 1 0 1,.msl 33 1 1 0 1,.msl 34 1 1 0 1,.esl]) (by exact rfl) (by exact rfl) (an (bj (b:=32) (n:=1) (len:=1) (l:=[0]) (by exact rfl) rfl rfl) (an (bj (b:=33) (n:=1) (len:=1) (l:=[0]) (by exact rfl) rfl rfl) (an (bj (b:=34) (n:=1) (len:=1) (l:=[0]) (by exact rfl) rfl rfl) (an (.eslsl 1) aa))))) aa))) aa)) rfl) ?_
 (have zz:=aI @h3 (aI @az (aI @aw (aI @ao @aj))); repeat' (first|apply a_n|refine zO ?_|refine vZ ?_|refine blZ ?_|refine gTZ ?_|fail)) <;> (try clear zz)
 refine bO ev0 ev0 zG (ab (an (bW _ _) (an (bj (b:=36) (n:=2) (len:=2) (l:=[0,3]) (by exact rfl) rfl rfl) aa)) rfl) ?_
 (have zz:=aI @h3 (aI @az (aI @aw (aI @ao @aj))); repeat' (first|apply a_n|refine zO ?_|refine vZ ?_|refine ak rfl ?_|refine r1Z ?_|fail)) <;> (try clear zz)
 exact .bool _
end Go.Proofs.Ytfcenbapjhecfaa
namespace Go.Proofs.Ytfcenbapjhecfaa
open Go Go.Abs
theorem oz {a:List Spx} (h:a.length ≤ 1000000) (hs:∀ s ∈ a,be s=0):ShC a:=⟨show _ ≤ _ by omega,jb hs⟩
theorem xP {c a:List Spx}:(nX c a).1.length ≤ 1000000:=by
 unfold nX
 split
 ·exact Nat.zero_le _
 split
 ·exact Nat.zero_le _
 split
 ·exact Nat.zero_le _
 split
 ·rename_i h1 h2 h3 h4
  have:=(dt (Decidable.of_not_not h2)).1
  show (bu (lI _ a)).length ≤ _
  unfold bu lI
  rw [List.length_map,List.length_map]; omega
 ·exact Nat.zero_le _
attribute [local irreducible] aB ai aW aN aG aH ay aJ aO ba Go.Abs.Fn aM Go.Abs.Pure ar aE Yl
end Go.Proofs.Ytfcenbapjhecfaa
namespace Go.Proofs.Ytfcenbapjhecfaa
open Go Go.Abs
theorem sC {s:Spx}:(bm s).length ≤ s.length:=by
 rw [← i7.length_eq]
 unfold fcs; split
 ·exact Nat.zero_le _
 ·rw [lN]; exact Nat.le_refl _
theorem mA:∀ (a o:List Spx),(∀ s ∈ a,s.length ≤ 8)→(jr a o).length ≤ o.length + a.length * 8
 | [],o,_=>Nat.le_add_right _ _
 | s :: a,o,h=>by
  have h1:=mA a (cK aS o (bm s)) fun t ht=>h t (List.mem_cons_of_mem _ ht)
  have h2:=pt (K:=aS) (a:=o) (b:=bm s)
  have h3:=sC (s:=s)
  have h4:=h s List.mem_cons_self
  show (jr a (cK aS o (bm s))).length ≤ _
  rw [List.length_cons]; omega
theorem mJ {a:List Spx} (h:∀ s ∈ a,s.length ≤ 8):(bA a).length ≤ a.length * 8:=by
 have:=mA a [] h
 rw [List.length_nil,Nat.zero_add] at this
 exact this
theorem u5 {a:List Spx} (ha:bU a=0) (hl:a.length ≤ 500):bU (bA a)=0:=by
 obtain ⟨p1,p2,p3,p4⟩:=dt ha
 have:=mJ (qR p2)
 exact tc (by omega) (jZ p2) (kF (d4 p2)) (oW (d4 p2) p4)
theorem vo {a:List Spx} (ha:bU a=0) (hl:a.length ≤ 500):gI a=(bA a,0):=by
 have:=mJ (qR (dt ha).2.1)
 unfold gI
 rw [if_neg (fun h=>h ha),if_neg (by omega)]
attribute [local irreducible] aB ai aW aN aG aH ay aJ aO ba Go.Abs.Fn aM Go.Abs.Pure ar aE Yl
end Go.Proofs.Ytfcenbapjhecfaa
namespace Go.Proofs.Ytfcenbapjhecfaa
open Go Go.Abs
open Nat (reduceEqDiff reduceAdd reduceLeDiff)
theorem s0 {x:Int} {l:List Int}:hU 1 (bc (x :: l)) (some (.int .i64 1)) none none=some (bc l):=ez (l:=x :: l) (k:=1) (by simp)
theorem ym {x:Int} {l:List Int}:cS 1 (bc (x :: l)) (.int .i64 0)=some (.iptr [.int .i64 x] 0):=by
 rw [gO,if_pos ⟨Int.le_refl _,by simp only [List.length_cons]; omega⟩]; rfl
theorem j0 {P:Program} {T:Tm} {H:Hp} {nx:Nat} {dm:DM} {K:SP} {l:List Op2} {d:Option Nat} {bytes b N len n:Nat} {s x:Opd} {v:AV} {new C cs:List AV} (hd:dm2 dm T (.app 1 bytes s x)=true) (hs:ov T s=.msl b N 1 0 len) (hb:H b=some C) (hN:C.length=N) (htk:C.take len=cs) (hcl:cs.length=len) (hx:ov T x=v) (hsrc:db 1 H v=some (n,new)) (ho:AV.ones new=true) (hnl:new.length=n) (hle:len + n ≤ N) (h1:N * bytes ≤ 140737488355328) (h2:N ≤ 9223372036854775807)
    (next:∀ C':List AV,C'.length=N→C'.take (len + n)=cs ++ new→ai P dm l (aD T d (.msl b N 1 0 (len + n))) (aq H b C') nx K) :
    ai P dm (⟨d,none,.app 1 bytes s x⟩ :: l) T H nx K:=by
 by_cases e:len=N
 ·obtain rfl:n=0:=by omega
  obtain rfl:new=[]:=List.eq_nil_of_length_eq_zero hnl
  subst e
  refine wQ hd hs hb hx hsrc ho hN (Nat.mul_one _).symm h1 (by omega) ?_
  rw [Nat.add_zero,Nat.mul_one]
  exact next _ (by rw [List.append_nil]; exact hN) (by rw [List.append_nil,List.append_nil,Nat.add_zero]; exact htk)
 ·refine ss hd hs hb hx hsrc ho hN (fun _=>by omega) (by omega) (by omega) ?_
  refine next _ ?_ ?_
  ·rw [d5 (by rw [hnl,hN]; omega)]; exact hN
  ·simp only [bo,Nat.zero_add,Nat.mul_one]
   rw [htk,List.take_append_of_le_length (by rw [List.length_append,hcl,hnl]; omega),List.take_of_length_le (by rw [List.length_append,hcl,hnl]; omega)]
theorem oM {H:Hp} {b N len:Nat} {C:List AV} {R:List Int} (hb:H b=some C) (hN:C.length=N) (hle:len ≤ N) (hR:R.length=len) (h:C.take len=R.map (AV.int .i64)):Snap H (.msl b N 1 0 len) (bc R):=by
 refine go (l:=R.map (AV.int .i64)) hb hN (by omega) (by simp [hR]) (fun y hy=>?_) (fun i a c ha hc=>?_)
 ·obtain ⟨z,_,rfl⟩:=List.mem_map.1 hy; rfl
 ·have hin:i < len:=by have:=(List.getElem?_eq_some_iff.1 hc).1; rw [List.length_map] at this; omega
  rw [← h,List.getElem?_take,if_pos hin] at hc
  rw [Nat.zero_add,hc] at ha; cases ha
  have hm:a ∈ R.map (AV.int .i64):=by
   rw [← h]
   exact List.mem_of_getElem? (i:=i) (by rw [List.getElem?_take,if_pos hin]; exact hc)
  obtain ⟨z,_,rfl⟩:=List.mem_map.1 hm
  exact .int _ _
def fE:List Int→List Int→List Int
 | [],b=>b
 | x :: a,[]=>x :: a
 | x :: a,y :: b=>if x < y then x :: fE a (y :: b) else if y < x then y :: fE (x :: a) b else fE a b
termination_by a b=>a.length + b.length
theorem sE {b:List Int}:fE [] b=b:=by rw [fE]
theorem rW {a:List Int}:fE a []=a:=by cases a <;> rw [fE]
theorem sJ {x y:Int} {a b:List Int}:fE (x :: a) (y :: b)=if x < y then x :: fE a (y :: b) else if y < x then y :: fE (x :: a) b else fE a b:=by rw [fE]
theorem je:∀ (n:Nat) (a b:List Int),a.length + b.length ≤ n→(fE a b).length ≤ a.length + b.length
 | _,[],b,_=>by rw [sE]; simp
 | _,x :: a,[],_=>by rw [rW]; simp
 | 0,x :: a,y :: b,h=>by simp only [List.length_cons] at h; omega
 | n + 1,x :: a,y :: b,h=>by
  simp only [List.length_cons] at h ⊢
  rw [sJ]
  have h1:=je n a (y :: b) (by simp only [List.length_cons]; omega)
  have h2:=je n (x :: a) b (by simp only [List.length_cons]; omega)
  have h3:=je n a b (by omega)
  simp only [List.length_cons] at h1 h2
  split
  ·simp only [List.length_cons]; omega
  split
  ·simp only [List.length_cons]; omega
  ·omega
attribute [local irreducible] aB ai aW aN aG aH ay aJ aO ba Go.Abs.Fn aM Go.Abs.Pure ar aE Yl
theorem n8 (x:List Int) (n:Int) (hx:x.length ≤ 1000000) (hr:∀ v ∈ x,0 ≤ v∧v < n) (ha:∀ i,i + 1 < x.length→x.getD i default < x.getD (i + 1) default):Pure Try.prog 62 [bc x,.int .i64 n] (.int .i64 0):=by
 refine Pure.of_c2 follows Ba (Nat.le_of_ble_eq_true rfl) ?_
 simp only [b62,cO,cG,cN,cM,cD,cF,cB,aA,aR]
 (have zz:=and_self; repeat' (first|refine zW ?_|apply a_n|refine zO ?_|refine vZ ?_|fail)) <;> (try clear zz)
 refine jD (X:=Nat) (fun k=>[(0,bc x),(1,.int .i64 n),(7,bc x),(8,.int .i64 x.length),(9,.int .i64 k)]) (fun k=>k ≤ x.length) (fun k=>x.length - k) 0 (Nat.zero_le _) ag0 ?_
 intro k hk
 by_cases hk2:k < x.length
 rotate_left
 ·(have zz:=and_self; repeat' (first|refine zW ?_|apply a_n|apply a_x|refine zO ?_|refine vZ ?_|(refine zGZ ?_ ?_ <;> (intro _hg; try (exfalso; omega)))|refine ak rfl ?_|refine r1Z ?_|fail)) <;> (try clear zz)
  exact .int _ _
 have h1:=hr _ (aL hk2)
 have z1:decide (x.getD k default < 0)=false:=decide_eq_false (by omega)
 have z2:decide (n ≤ x.getD k default)=false:=decide_eq_false (by omega)
 by_cases hk0:0 < k
 rotate_left
 ·have zk:decide (0 < (k:Int))=false:=decide_eq_false (by omega)
  (have zz:=aI @z1 (aI @z2 @zk); repeat' (first|refine zW ?_|apply a_n|refine zO ?_|refine vZ ?_|refine gTZ ?_|refine gFZ ?_|refine cFZ ?_|(refine zGZ ?_ ?_ <;> (intro _hg; try (exfalso; omega)))|fail)) <;> (try clear zz)
  exact ⟨k + 1,by omega,by omega,ag0,rfl,rfl⟩
 have zk:decide (0 < (k:Int))=true:=decide_eq_true (by omega)
 have h2:=ha (k - 1) (by omega)
 rw [show k - 1 + 1=k by omega] at h2
 have iy:cS 1 (bc x) (.int .i64 ((k:Int) - 1))=some (.iptr [.int .i64 (x.getD (k - 1) default)] 0):=by
  rw [gO,if_pos ⟨by omega,by omega⟩,show ((k:Int) - 1).toNat=k - 1 by omega]
 have z3:decide (x.getD k default ≤ x.getD (k - 1) default)=false:=decide_eq_false (by omega)
 (have zz:=aI @z1 (aI @z2 (aI @zk (aI @iy @z3))); repeat' (first|refine zW ?_|apply a_n|refine zO ?_|refine vZ ?_|refine gTZ ?_|refine cFZ ?_|(refine zGZ ?_ ?_ <;> (intro _hg; try (exfalso; omega)))|fail)) <;> (try clear zz)
 exact ⟨k + 1,by omega,by omega,ag0,rfl,rfl⟩
def yO (c:Int) (R:List (List Int)):Prop:=0 ≤ c∧c ≤ 4096∧R.length ≤ 4096∧∀ r ∈ R,(∀ v ∈ r,0 ≤ v∧v < c)∧r.length ≤ 4096∧∀ i,i + 1 < r.length→r.getD i default < r.getD (i + 1) default
theorem sO (c:Int) (R:List (List Int)) (h:yO c R):Pure Try.prog 61 [.agg [.int .i64 c,cb R]] (.int .i64 0):=by
 refine Pure.of_c2 follows Bj (Nat.le_of_ble_eq_true rfl) ?_
 simp only [b61,cO,cG,cN,cM,cD,cF,cB,aA,aR]
 obtain ⟨h1,h2,h3,h4⟩:=h
 have z1:decide (c < 0)=false:=decide_eq_false (by omega)
 have z2:decide (4096 < c)=false:=decide_eq_false (by omega)
 have z3:decide ((4096:Int) < R.length)=false:=decide_eq_false (by omega)
 (have zz:=aI @z1 (aI @z2 @z3); repeat' (first|refine zW ?_|apply a_n|refine zO ?_|refine vZ ?_|refine bxZ ?_|refine gTZ ?_|refine cFZ ?_|fail)) <;> (try clear zz)
 refine jD (X:=Nat) (fun k=>[(1,.ptr 0 2 0),(21,cb R),(22,.int .i64 R.length),(23,.int .i64 k)]) (fun k=>k ≤ R.length) (fun k=>R.length - k) 0 (Nat.zero_le _) (by (iterate 4 refine And.intro rfl ?_); trivial) ?_
 intro k hk
 by_cases hk2:k < R.length
 rotate_left
 ·(have zz:=and_self; repeat' (first|refine zW ?_|apply a_n|apply a_x|refine zO ?_|refine vZ ?_|(refine zGZ ?_ ?_ <;> (intro _hg; try (exfalso; omega)))|refine ak rfl ?_|refine r1Z ?_|fail)) <;> (try clear zz)
  exact .int _ _
 obtain ⟨r1,r2,r3⟩:=h4 _ (aL hk2)
 have hv:=n8 (R.getD k default) c (by omega) r1 r3
 have z0:decide ((0:Int) ≠ 0)=false:=rfl
 (have zz:=@z0; repeat' (first|refine zW ?_|apply a_n|refine zO ?_|refine vZ ?_|refine cZ ?_ (hp:=hv) (hs:=by (first | refine ab ?_ rfl | apply ac); (repeat' (first | exact aa | apply am | apply ae | exact bW _)); first | done | fail)|refine cFZ ?_|(refine zGZ ?_ ?_ <;> (intro _hg; try (exfalso; omega)))|fail)) <;> (try clear zz)
 exact ⟨k + 1,by omega,by omega,ag0,rfl,rfl⟩
theorem AF (a b:List Int) (ha:a.length ≤ 1000000000000) (hb:b.length ≤ 1000000000000):Pure Try.prog 85 [bc a,bc b] (bc (fE a b)):=by
 refine Pure.of_c2 follows B1 (Nat.le_of_ble_eq_true rfl) ?_
 simp only [b85,cO,cG,cN,cM,cD,cF,cB,aA,aR]
 (have zz:=and_self; repeat' (first|refine zW ?_|apply a_n|refine zO ?_|refine vZ ?_|fail)) <;> (try clear zz)
 refine vv (k1:=.i64) (k2:=.i64) (n:=0) (m:=(a.length:Int) + b.length) rfl ev0 ev0 (Int.le_refl _) (by omega) (by omega) (by omega) ?_
 rw [show ((a.length:Int) + b.length).toNat=a.length + b.length by omega]
 have hz:(aY (AV.agg [AV.int .i64 0]) (a.length + b.length)).length=a.length + b.length:=by simp [aY,AV.cells]
 generalize hN:a.length + b.length=N at *
 (have zz:=and_self; repeat' (first|refine zW ?_|apply a_n|refine zO ?_|refine vZ ?_|fail)) <;> (try clear zz)
 refine bd (X:=List Int × List Int × List Int × Nat) (fun x=>[(0,bc x.1),(1,bc x.2.1),(5,.msl 0 N 1 0 x.2.2.2)]) (fun x H nx=>1 ≤ nx∧x.2.2.1.length=x.2.2.2∧x.2.2.2 + x.1.length + x.2.1.length ≤ N∧x.2.2.1 ++ fE x.1 x.2.1=fE a b∧∃ C,H 0=some C∧C.length=N∧C.take x.2.2.2=x.2.2.1.map (AV.int .i64)) (fun x=>x.1.length + x.2.1.length) (a,b,[],0) ⟨Nat.le_refl _,rfl,by dsimp only; omega,rfl,_,ah,hz,rfl⟩ (by refine ⟨rfl,rfl,?_,trivial⟩; ((try simp only [bQ,ZA,reduceEqDiff,↓reduceIte,reduceAdd,reduceLeDiff]); (try with_reducible rfl)); rfl) ?_
 rintro ⟨a',b',D,k⟩ H nx ⟨h1,h2,h3,h4,C,h5,h6,h7⟩
 dsimp only at h1 h2 h3 h4 h7 ⊢
 have hDl:(D.map (AV.int .i64)).length=k:=by rw [List.length_map]; exact h2
 have hfin:(a'=[] ∨ b'=[])→D ++ (a' ++ b')=fE a b:=fun h=>by
  rcases h with rfl | rfl
  ·rw [sE] at h4; exact h4
  ·rw [rW] at h4; rw [List.append_nil]; exact h4
 by_cases hne:a'=[] ∨ b'=[]
 ·have h4:=hfin hne
  clear hfin
  have y1:decide ((0:Int) < a'.length)=false ∨ decide ((0:Int) < a'.length)=true∧decide ((0:Int) < b'.length)=false:=by
   rcases hne with rfl | rfl
   ·exact .inl rfl
   ·by_cases h:a'=[]
    ·subst h; exact .inl rfl
    ·exact .inr ⟨decide_eq_true (by have:=List.length_pos_iff.2 h; omega),rfl⟩
  rcases y1 with y1 | ⟨y1,y2⟩
  ·(have zz:=@y1; repeat' (first|refine zW ?_|apply a_n|apply a_x|refine zO ?_|refine vY ?_|refine gFY ?_|refine cFY ?_|fail)) <;> (try clear zz)
   refine j0 (b:=0) (N:=N) (len:=k) (n:=a'.length) (new:=a'.map (AV.int .i64)) rfl ev0 h5 h6 h7 hDl ev0 gY jt (by rw [List.length_map]) (by omega) (by omega) (by omega) fun C2 c1 c2=>?_
   (have zz:=and_self; repeat' (first|apply a_n|refine zO ?_|refine vY ?_|fail)) <;> (try clear zz)
   refine j0 (b:=0) (N:=N) (len:=k + a'.length) (n:=b'.length) (new:=b'.map (AV.int .i64)) rfl ev0 ah c1 c2 (by rw [List.length_append,hDl,List.length_map]) ev0 gY jt (by rw [List.length_map]) (by omega) (by omega) (by omega) fun C3 c3 c4=>?_
   (have zz:=and_self; repeat' (first|apply a_n|refine zO ?_|refine vY ?_|refine ak rfl ?_|refine r1Y ?_|fail)) <;> (try clear zz)
   rw [← h4]
   exact oM ah c3 (by omega) (by simp only [List.length_append]; omega) (by rw [← Nat.add_assoc,c4,List.map_append,List.map_append,List.append_assoc])
  ·(have zz:=aI @y1 @y2; repeat' (first|refine zW ?_|apply a_n|apply a_x|refine zO ?_|refine vY ?_|refine gTY ?_|refine cFY ?_|fail)) <;> (try clear zz)
   refine j0 (b:=0) (N:=N) (len:=k) (n:=a'.length) (new:=a'.map (AV.int .i64)) rfl ev0 h5 h6 h7 hDl ev0 gY jt (by rw [List.length_map]) (by omega) (by omega) (by omega) fun C2 c1 c2=>?_
   (have zz:=and_self; repeat' (first|apply a_n|refine zO ?_|refine vY ?_|fail)) <;> (try clear zz)
   refine j0 (b:=0) (N:=N) (len:=k + a'.length) (n:=b'.length) (new:=b'.map (AV.int .i64)) rfl ev0 ah c1 c2 (by rw [List.length_append,hDl,List.length_map]) ev0 gY jt (by rw [List.length_map]) (by omega) (by omega) (by omega) fun C3 c3 c4=>?_
   (have zz:=and_self; repeat' (first|apply a_n|refine zO ?_|refine vY ?_|refine ak rfl ?_|refine r1Y ?_|fail)) <;> (try clear zz)
   rw [← h4]
   exact oM ah c3 (by omega) (by simp only [List.length_append]; omega) (by rw [← Nat.add_assoc,c4,List.map_append,List.map_append,List.append_assoc])
 have ha0:a' ≠ []:=fun h=>hne (.inl h)
 have hb0:b' ≠ []:=fun h=>hne (.inr h)
 clear hfin hne
 obtain ⟨x,a2,rfl⟩:=List.exists_cons_of_ne_nil ha0
 obtain ⟨y,b2,rfl⟩:=List.exists_cons_of_ne_nil hb0
 rw [sJ] at h4
 have la:(x :: a2).length=a2.length + 1:=rfl
 have lb:(y :: b2).length=b2.length + 1:=rfl
 have i1:=ym (x:=x) (l:=a2)
 have i2:=ym (x:=y) (l:=b2)
 have s1:=s0 (x:=x) (l:=a2)
 have s2:=s0 (x:=y) (l:=b2)
 generalize hA:x :: a2=A at *
 generalize hB:y :: b2=B at *
 have y1:decide ((0:Int) < A.length)=true:=decide_eq_true (by omega)
 have y2:decide ((0:Int) < B.length)=true:=decide_eq_true (by omega)
 by_cases g1:x < y
 ·rw [if_pos g1] at h4
  have z1:decide (x < y)=true:=decide_eq_true g1
  (have zz:=aI @i1 (aI @i2 (aI @y1 (aI @y2 @z1))); repeat' (first|refine zW ?_|apply a_n|refine zO ?_|refine vY ?_|refine blY ?_|refine gTY ?_|refine cTY ?_|fail)) <;> (try clear zz)
  refine j0 (b:=0) (N:=N) (len:=k) (n:=1) (new:=[.int .i64 x]) rfl ev0 (by rw [af (by omega)]; exact h5) h6 h7 hDl ev0 b6 rfl rfl (by omega) (by omega) (by omega) fun C2 c1 c2=>?_
  (have zz:=@s1; repeat' (first|apply a_n|refine zO ?_|refine vY ?_|fail)) <;> (try clear zz)
  exact ⟨(a2,B,D ++ [x],k + 1),by dsimp only; omega,⟨by omega,by simp [h2],by dsimp only; omega,by simpa using h4,C2,ah,c1,by rw [c2,List.map_append]; rfl⟩,ag0⟩
 rw [if_neg g1] at h4
 have z1:decide (x < y)=false:=decide_eq_false g1
 by_cases g2:y < x
 ·rw [if_pos g2] at h4
  have z2:decide (y < x)=true:=decide_eq_true g2
  (have zz:=aI @i1 (aI @i2 (aI @y1 (aI @y2 (aI @z1 @z2)))); repeat' (first|refine zW ?_|apply a_n|refine zO ?_|refine vY ?_|refine blY ?_|refine gTY ?_|refine cTY ?_|refine cFY ?_|fail)) <;> (try clear zz)
  refine j0 (b:=0) (N:=N) (len:=k) (n:=1) (new:=[.int .i64 y]) rfl ev0 (by rw [af (by omega)]; exact h5) h6 h7 hDl ev0 b6 rfl rfl (by omega) (by omega) (by omega) fun C2 c1 c2=>?_
  (have zz:=@s2; repeat' (first|apply a_n|refine zO ?_|refine vY ?_|fail)) <;> (try clear zz)
  exact ⟨(A,b2,D ++ [y],k + 1),by dsimp only; omega,⟨by omega,by simp [h2],by dsimp only; omega,by simpa using h4,C2,ah,c1,by rw [c2,List.map_append]; rfl⟩,ag0⟩
 rw [if_neg g2] at h4
 have z2:decide (y < x)=false:=decide_eq_false g2
 (have zz:=aI @i1 (aI @i2 (aI @s1 (aI @s2 (aI @y1 (aI @y2 (aI @z1 @z2)))))); repeat' (first|refine zW ?_|apply a_n|refine zO ?_|refine vY ?_|refine gTY ?_|refine cTY ?_|refine cFY ?_|fail)) <;> (try clear zz)
 exact ⟨(a2,b2,D,k),by dsimp only; omega,⟨by omega,h2,by dsimp only; omega,h4,C,h5,h6,h7⟩,ag0⟩
end Go.Proofs.Ytfcenbapjhecfaa
namespace Go.Proofs.Ytfcenbapjhecfaa
open Go Go.Abs
attribute [local irreducible] aB ai aW aN aG aH ay aJ aO ba Go.Abs.Fn aM Go.Abs.Pure ar aE Yl
end Go.Proofs.Ytfcenbapjhecfaa
namespace Go.Proofs.Ytfcenbapjhecfaa
open Go Go.Abs
attribute [local irreducible] aB ai aW aN aG aH ay aJ aO ba Go.Abs.Fn aM Go.Abs.Pure ar aE Yl
end Go.Proofs.Ytfcenbapjhecfaa
namespace Go.Proofs.Ytfcenbapjhecfaa
open Go Go.Abs
attribute [local irreducible] aB ai aW aN aG aH ay aJ aO ba Go.Abs.Fn aM Go.Abs.Pure ar aE Yl
end Go.Proofs.Ytfcenbapjhecfaa
namespace Go.Proofs.Ytfcenbapjhecfaa
open Go Go.Abs
attribute [local irreducible] aB ai aW aN aG aH ay aJ aO ba Go.Abs.Fn aM Go.Abs.Pure ar aE Yl
end Go.Proofs.Ytfcenbapjhecfaa
namespace Go.Proofs.Ytfcenbapjhecfaa
open Go Go.Abs
def mI (l:List Int):Prop:=l.Pairwise (· < ·)
theorem uv {a b:List Int} (ha:mI a) (hb:mI b) (h:∀ x,x ∈ a ↔ x ∈ b):a=b:=by
 have na:a.Nodup:=List.Pairwise.imp (fun {x y} (h:x < y) e=>by omega) ha
 have nb:b.Nodup:=List.Pairwise.imp (fun {x y} (h:x < y) e=>by omega) hb
 exact List.Perm.eq_of_pairwise (fun x y _ _ h1 h2=>by omega) ha hb ((List.perm_ext_iff_of_nodup na nb).2 h)
theorem rH {l:List Int} (h:mI l) (i:Nat) (hi:i + 1 < l.length):l.getD i default < l.getD (i + 1) default:=by
 have:=(List.pairwise_iff_getElem.1 h) i (i + 1) (by omega) hi (by omega)
 simpa [List.getD,hi,show i < l.length by omega] using this
end Go.Proofs.Ytfcenbapjhecfaa
namespace Go.Proofs.Ytfcenbapjhecfaa
open Go Go.Abs
theorem jL:∀ (n:Nat) (a b:List Int),a.length + b.length ≤ n→mI a→mI b→(fE a b).length + 2 * (a.filter fun x=>decide (x ∈ b)).length=a.length + b.length
 | _,[],b,_,_,_=>by rw [sE]; simp
 | _,x :: a,[],_,_,_=>by
  rw [rW,List.filter_eq_nil_iff.2 (fun z _=>by simp)]
  rfl
 | 0,x :: a,y :: b,h,_,_=>by simp only [List.length_cons] at h; omega
 | n + 1,x :: a,y :: b,h,ha,hb=>by
  simp only [List.length_cons] at h ⊢
  obtain ⟨a1,a2⟩:=List.pairwise_cons.1 ha
  obtain ⟨b1,b2⟩:=List.pairwise_cons.1 hb
  rw [sJ]
  by_cases g1:x < y
  ·have hx:x ∉ y :: b:=fun q=>by
     rcases List.mem_cons.1 q with rfl | q
     ·omega
     ·have:=b1 x q; omega
   have ih:=jL n a (y :: b) (by simp only [List.length_cons]; omega) a2 hb
   rw [if_pos g1,List.length_cons,List.filter_cons_of_neg (by simpa using hx)]
   simp only [List.length_cons] at ih
   omega
  rw [if_neg g1]
  by_cases g2:y < x
  ·have hf:(x :: a).filter (fun z=>decide (z ∈ y :: b))=(x :: a).filter fun z=>decide (z ∈ b):=by
     refine List.filter_congr fun z hz=>decide_eq_decide.2 ?_
     rw [List.mem_cons]
     refine ⟨fun h=>h.resolve_left ?_,.inr⟩
     rintro rfl
     rcases List.mem_cons.1 hz with rfl | hz
     ·omega
     ·have:=a1 z hz; omega
   have ih:=jL n (x :: a) b (by simp only [List.length_cons]; omega) ha b2
   rw [if_pos g2,List.length_cons,hf]
   simp only [List.length_cons] at ih
   omega
  rw [if_neg g2]
  obtain rfl:x=y:=by omega
  have hf:a.filter (fun z=>decide (z ∈ x :: b))=a.filter fun z=>decide (z ∈ b):=by
   refine List.filter_congr fun z hz=>decide_eq_decide.2 ?_
   rw [List.mem_cons]
   refine ⟨fun h=>h.resolve_left ?_,.inr⟩
   rintro rfl
   have:=a1 z hz; omega
  have ih:=jL n a b (by omega) a2 b2
  rw [List.filter_cons_of_pos (by simp),List.length_cons,hf]
  omega
theorem rC {a b:List Int} (ha:a.Nodup) (hb:b.Nodup):(a.filter fun x=>decide (x ∈ b)).length=(b.filter fun x=>decide (x ∈ a)).length :=
 ((List.perm_ext_iff_of_nodup (ha.sublist List.filter_sublist) (hb.sublist List.filter_sublist)).2 fun x=>by
  simp only [List.mem_filter,decide_eq_true_eq]; exact And.comm).length_eq
theorem mI.nodup {l:List Int} (h:mI l):l.Nodup:=List.Pairwise.imp (fun {x y} (h:x < y) e=>by omega) h
theorem uQ {l:List Nat} {n:Nat}:(n:Int) ∈ bu l ↔ n ∈ l:=by
 unfold bu
 rw [List.mem_map]
 exact ⟨fun ⟨m,h1,h2⟩=>by rwa [← (by omega:m=n)],fun h=>⟨n,h,rfl⟩⟩
theorem nB {l:List Nat} {x:Int}:x ∈ bu l ↔ ∃ i:Nat,i ∈ l∧(i:Int)=x:=by unfold bu; exact List.mem_map
theorem dD {l:List Nat} (h:l.Pairwise (· < ·)):mI (bu l):=by
 unfold bu mI
 rw [List.pairwise_map]
 exact List.Pairwise.imp (fun {a b} (h:a < b)=>by omega) h
theorem mi {X Y:List Spx} {n i:Nat}:(fk X Y n i).Pairwise (· < ·):=List.pairwise_lt_range.sublist List.filter_sublist
theorem qa {X Y:List Spx} {n i j:Nat}:j ∈ fk X Y n i ↔ j < n∧Y.getD i default ∈ bm (X.getD j default):=by
 unfold fk
 simp only [List.mem_filter,List.mem_range,decide_eq_true_eq]
theorem qr {X Y:List Spx}:(gz X Y).length=Y.length:=by unfold gz; simp
theorem wE {X Y:List Spx} {i:Nat} (h:i < Y.length):(gz X Y).getD i default=bu (fk X Y X.length i):=by
 unfold gz
 simp [List.getD,h]
theorem xz {X Y:List Spx} (hX:X.length ≤ 4096) (hY:Y.length ≤ 4096):yO X.length (gz X Y):=by
 refine ⟨by omega,by omega,by rw [qr]; exact hY,fun r hr=>?_⟩
 unfold gz at hr
 obtain ⟨i,hi,rfl⟩:=List.mem_map.1 hr
 refine ⟨fun v hv=>?_,?_,rH (dD mi)⟩
 ·unfold bu at hv
  obtain ⟨j,hj,rfl⟩:=List.mem_map.1 hv
  have:=(qa.1 hj).1
  omega
 ·unfold bu
  rw [List.length_map]
  exact Nat.le_trans qi hX
def lV (a b:List Int):Bool:=decide ((a.length + b.length - (fE a b).length) / 2 % 2=1)
def kB (R:List (List Int)) (x:List Int):List Nat:=(List.range R.length).filter fun i=>lV (R.getD i default) x
theorem nD {X:List Spx} (hX:∀ s ∈ X,bi bt s) {f:Spx}:∀ {w:List Nat},(∀ j ∈ w,j < X.length)→(w.filter fun j=>decide (f ∈ bm (X.getD j default))).length=ib (w.map fun j=>X.getD j default) f
 | [],_=>rfl
 | j :: w,h=>by
  have ih:=nD hX (f:=f) (w:=w) fun i hi=>h i (List.mem_cons_of_mem _ hi)
  have hn:=jF (hX _ (aL (h j List.mem_cons_self)))
  rw [List.map_cons,kj]
  by_cases hf:f ∈ bm (X.getD j default)
  ·have h1:=List.count_pos_iff.2 hf
   have h2:=List.nodup_iff_count.1 hn f
   rw [List.filter_cons_of_pos (by simpa using hf),List.length_cons,ih]; omega
  ·rw [List.filter_cons_of_neg (by simpa using hf),ih,List.count_eq_zero_of_not_mem hf,Nat.zero_add]
theorem uP {X Y:List Spx} (hX:∀ s ∈ X,bi bt s) {w:List Nat} (hw:w.Pairwise (· < ·)) (hb:∀ j ∈ w,j < X.length) {i:Nat}:i ∈ kB (gz X Y) (bu w) ↔ i < Y.length∧Y.getD i default ∈ bA (w.map fun j=>X.getD j default):=by
 have hsub:∀ s ∈ w.map (fun j=>X.getD j default),bi bt s:=fun s hs=>by
  obtain ⟨j,hj,rfl⟩:=List.mem_map.1 hs
  exact hX _ (aL (hb j hj))
 unfold kB
 rw [List.mem_filter,List.mem_range,qr]
 refine and_congr_right fun hi=>?_
 rw [wE hi,(eI hsub).2,← nD hX hb]
 have h1:=jL _ _ _ (Nat.le_refl _) (dD (mi (X:=X) (Y:=Y) (n:=X.length) (i:=i))) (dD hw)
 have h2:=rC (dD (mi (X:=X) (Y:=Y) (n:=X.length) (i:=i))).nodup (dD hw).nodup
 have h3:((bu w).filter fun x=>decide (x ∈ bu (fk X Y X.length i))).length=(w.filter fun j=>decide (Y.getD i default ∈ bm (X.getD j default))).length:=by
  rw [show bu w=w.map fun (n:Nat)=>(n:Int) from rfl,List.filter_map,List.length_map]
  congr 1
  refine List.filter_congr fun j hj=>?_
  show decide ((j:Int) ∈ bu _)=_
  refine decide_eq_decide.2 ?_
  rw [uQ,qa]
  exact ⟨fun h=>h.2,fun h=>⟨hb j hj,h⟩⟩
 unfold lV
 rw [decide_eq_true_eq]
 omega
theorem g9 {Y:List Spx} {f:Spx} (h:f ∈ Y):Y.idxOf f < Y.length∧Y.getD (Y.idxOf f) default=f:=by
 have hl:=List.idxOf_lt_length_iff.2 h
 exact ⟨hl,by simp [List.getD,hl]⟩
theorem oV {Y:List Spx} (hY:Y.Nodup) {i:Nat} (h:i < Y.length):Y.idxOf (Y.getD i default)=i:=by
 have h1:=g9 (aL h)
 have e1:Y[Y.idxOf (Y.getD i default)]'h1.1=Y[i]:=(List.getElem_idxOf h1.1).trans (by simp [List.getD,h])
 exact (List.getElem_inj hY).1 e1
theorem u3 {Y a:List Spx} (hY:bi aS Y) (ha:bi aS a) (h:∀ s ∈ a,s ∈ Y):(a.map fun s=>Y.idxOf s).Pairwise (· < ·):=by
 rw [List.pairwise_map]
 refine List.Pairwise.imp_of_mem (fun {s t} hs ht hst=>?_) ha
 obtain ⟨h1,h2⟩:=g9 (h s hs)
 obtain ⟨h3,h4⟩:=g9 (h t ht)
 rcases Nat.lt_trichotomy (Y.idxOf s) (Y.idxOf t) with q | q | q
 ·exact q
 ·rw [q,h4] at h2; subst h2; exact absurd hst (fm.ord.irr _)
 ·have:=bV hY q h1
  rw [h2,h4] at this
  exact absurd hst (fm.ord.asym _ _ this)
theorem sq {X Y:List Spx} (hX:∀ s ∈ X,bi bt s) (hY:bi aS Y) {w:List Nat} (hw:w.Pairwise (· < ·)) (hb:∀ j ∈ w,j < X.length) (hin:∀ s ∈ bA (w.map fun j=>X.getD j default),s ∈ Y) :
    bu (kB (gz X Y) (bu w))=bu ((bA (w.map fun j=>X.getD j default)).map fun s=>Y.idxOf s):=by
 have hsub:∀ s ∈ w.map (fun j=>X.getD j default),bi bt s:=fun s hs=>by
  obtain ⟨j,hj,rfl⟩:=List.mem_map.1 hs
  exact hX _ (aL (hb j hj))
 refine uv (dD (List.pairwise_lt_range.sublist List.filter_sublist)) (dD (u3 hY (kF hsub) hin)) fun x=>?_
 rw [nB,nB]
 refine exists_congr fun i=>and_congr_left fun _=>?_
 rw [uP hX hw hb,List.mem_map]
 exact ⟨fun ⟨h1,h2⟩=>⟨_,h2,oV (hY.nodup fm) h1⟩,fun ⟨s,h1,h2⟩=>by
  obtain ⟨h3,h4⟩:=g9 (hin s h1)
  rw [← h2,h4]; exact ⟨h3,h1⟩⟩
end Go.Proofs.Ytfcenbapjhecfaa
namespace Go.Proofs.Ytfcenbapjhecfaa
open Go Go.Abs
attribute [local irreducible] aB ai aW aN aG aH ay aJ aO ba Go.Abs.Fn aM Go.Abs.Pure ar aE Yl
theorem zK (a b:List Int) (ha:a.length ≤ 1000000) (hb:b.length ≤ 1000000):Pure Try.prog 63 [bc a,bc b] (.bool (lV a b)):=by
 refine Pure.of_c2 follows Bp (Nat.le_of_ble_eq_true rfl) ?_
 simp only [b63,cO,cG,cN,cM,cD,cF,cB,aA,aR]
 have hs:=AF a b (by omega) (by omega)
 have hl:=je _ a b (Nat.le_refl _)
 unfold lV
 generalize fE a b=S at *
 have hq:∀ tb tf,aX .quo tb tf (.int .i64 ((a.length:Int) + b.length - S.length)) (.int .i64 2)=some (.int .i64 (((a.length + b.length - S.length) / 2:Nat):Int)):=fun tb tf=>by
  rw [jm (by omega) (by omega) (by omega)]
  congr 2; omega
 have hr:∀ tb tf,aX .rem tb tf (.int .i64 (((a.length + b.length - S.length) / 2:Nat):Int)) (.int .i64 2)=some (.int .i64 (((a.length + b.length - S.length) / 2 % 2:Nat):Int)):=fun tb tf=>by
  rw [tx (by omega) (by omega)]
  congr 2
 have z:decide ((((a.length + b.length - S.length) / 2 % 2:Nat):Int)=1)=decide ((a.length + b.length - S.length) / 2 % 2=1):=decide_eq_decide.2 (by omega)
 (have zz:=aI @iY (aI @hq (aI @hr @z)); repeat' (first|refine zW ?_|apply a_n|refine zO ?_|refine vY ?_|refine cY ?_ (hp:=hs) (hs:=by (first | refine ab ?_ rfl | apply ac); (repeat' (first | exact aa | apply am | apply ae | exact bW _)); first | done | fail)|refine ak rfl ?_|refine r1Y ?_|fail)) <;> (try clear zz)
 exact .bool _
theorem rm {R:List (List Int)} {x:List Int} {k:Nat}:(List.range (k + 1)).filter (fun i=>lV (R.getD i default) x)=(List.range k).filter (fun i=>lV (R.getD i default) x) ++ if lV (R.getD k default) x=true then [k] else []:=by
 rw [List.range_succ,List.filter_append]
 congr 1
 by_cases h:lV (R.getD k default) x=true
 ·rw [if_pos h,List.filter_cons_of_pos (by simpa using h)]; rfl
 ·rw [if_neg h,List.filter_cons_of_neg (by simpa using h)]; rfl
theorem B0 {l:List (List Int)} {k:Nat} (h:k < l.length):cS 1 (cb l) (.int .i64 (k:Int))=some (.iptr [bc (l.getD k default)] 0):=by
 rw [ns,if_pos ⟨by omega,by omega⟩,Int.toNat_natCast]
theorem vX (c:Int) (R:List (List Int)) (x:List Int) (hm:yO c R) (hx:x.length ≤ 1000000) (hr:∀ v ∈ x,0 ≤ v∧v < c) (ha:∀ i,i + 1 < x.length→x.getD i default < x.getD (i + 1) default):Pure Try.prog 31 [fW c R,bc x] (.tup [bc (bu (kB R x)),.int .i64 0]):=by
 refine Pure.of_c2 follows BZ (Nat.le_of_ble_eq_true rfl) ?_
 simp only [b31,cO,cG,cN,cM,cD,cF,cB,aA,aR]
 have h1:=sO c R hm
 have h2:=n8 x c hx hr ha
 have z0:decide ((0:Int) ≠ 0)=false:=rfl
 have dm:Dat (.agg [.int .i64 c,cb R]):=fU c R
 obtain ⟨m1,m2,m3,m4⟩:=hm
 unfold fW
 (have zz:=@z0; repeat' (first|refine zW ?_|apply a_n|refine zO ?_|refine vY ?_|refine cY ?_ (hp:=by first | exact h1 | exact h2) (hs:=by (first | refine ab ?_ rfl | apply ac); (repeat' (first | exact aa | apply am | apply ae | exact dm | exact bW _)); first | done | fail)|refine bxY ?_|refine cFY ?_|fail)) <;> (try clear zz)
 refine bd (X:=AV × Nat) (fun y=>[(1,bc x),(8,y.1),(24,cb R),(25,.int .i64 R.length),(26,.int .i64 y.2)]) (fun y H nx=>y.2 ≤ R.length∧Row H 1 y.1 ((bu ((List.range y.2).filter fun i=>lV (R.getD i default) x)).map (AV.int .i64))∧∀ b,cr y.1=some b→b < nx) (fun y=>R.length - y.2) (.esl,0) ⟨Nat.zero_le _,Row.nil,fun b hb=>(by cases hb)⟩ ag0 ?_
 rintro ⟨sv,k⟩ H nx ⟨k1,k3,k4⟩
 dsimp only at k1 k3 k4 ⊢
 by_cases hk:k < R.length
 rotate_left
 ·obtain rfl:k=R.length:=by omega
  (have zz:=and_self; repeat' (first|refine zW ?_|apply a_n|apply a_x|refine zO ?_|refine vY ?_|(refine zGY ?_ ?_ <;> (intro _hg; try (exfalso; omega)))|refine ak rfl ?_|refine r2Y ?_|fail)) <;> (try clear zz)
  exact ke k3.snapI rfl
 have ix:=B0 hk
 have ho:=zK (R.getD k default) x (by have:=(m4 _ (aL hk)).2.1; omega) hx
 have hsu:=rm (R:=R) (x:=x) (k:=k)
 have hnl:(bu ((List.range k).filter fun i=>lV (R.getD i default) x)).length ≤ k:=by
  unfold bu
  rw [List.length_map]
  exact Nat.le_trans (List.length_filter_le _ _) (by simp)
 generalize R.getD k default=r at *
 cases hb:lV r x
 ·rw [hb] at ho hsu
  rw [if_neg (by decide),List.append_nil] at hsu
  (have zz:=@ix; repeat' (first|refine zW ?_|apply a_n|refine zO ?_|refine vY ?_|refine cY ?_ (hp:=ho) (hs:=by (first | refine ab ?_ rfl | apply ac); (repeat' (first | exact aa | apply am | apply ae | exact bW _)); first | done | fail)|refine cFY ?_|(refine zGY ?_ ?_ <;> (intro _hg; try (exfalso; omega)))|fail)) <;> (try clear zz)
  exact ⟨(sv,k + 1),by dsimp only; omega,⟨by dsimp only; omega,by dsimp only; rw [hsu]; exact k3,k4⟩,ag0⟩
 ·rw [hb] at ho hsu
  rw [if_pos rfl] at hsu
  (have zz:=@ix; repeat' (first|refine zW ?_|apply a_n|refine zO ?_|refine vY ?_|refine cY ?_ (hp:=ho) (hs:=by (first | refine ab ?_ rfl | apply ac); (repeat' (first | exact aa | apply am | apply ae | exact bW _)); first | done | fail)|refine blY ?_|refine cTY ?_|(refine zGY ?_ ?_ <;> (intro _hg; try (exfalso; omega)))|fail)) <;> (try clear zz)
  refine fo rfl ev0 (k3.same fun b hb=>?_) ev0 b6 rfl rfl Nat.one_pos (by rw [List.length_map]; omega) (by rw [List.length_map]; omega) ?_
  ·have:=k4 b hb; rw [af (by omega)]
  rintro s2 E e hrow hle1 hle2 hsame hb2
  (have zz:=and_self; repeat' (first|apply a_n|refine zO ?_|refine vY ?_|fail)) <;> (try clear zz)
  refine ⟨(s2,k + 1),by dsimp only; omega,⟨by dsimp only; omega,?_,fun b hb=>?_⟩,ag0⟩
  ·dsimp only
   rw [hsu,k9,List.map_append]; exact hrow
  ·rcases hb2 b hb with h | h
   ·have:=k4 b h; omega
   ·omega
theorem sW {n:Nat} {v:List Int} (h:iE n v=0):∃ w:List Nat,v=bu w∧w.Pairwise (· < ·)∧∀ j ∈ w,j < n:=by
 have hall:=dK h
 have hk:=fun k (hk:k < v.length)=>yD (hall k hk)
 have hm:∀ x ∈ v,0 ≤ x∧x < n:=fun x hx=>by
  obtain ⟨k,h1,h2⟩:=List.getElem_of_mem hx
  have:=hk k h1
  have e:v.getD k default=x:=by simp [List.getD,h1,h2]
  rw [e] at this
  exact ⟨this.1,this.2.1⟩
 have hasc:mI v:=by
  have hchain:∀ j i,i < j→j < v.length→v.getD i default < v.getD j default:=fun j=>by
   induction j with
   | zero=>intro i hi; omega
   | succ j ih =>
    intro i hi hj
    have q:=(hk (j + 1) hj).2.2 (by omega)
    rw [Nat.add_sub_cancel] at q
    rcases (by omega:i < j ∨ i=j) with h | rfl
    ·have:=ih i h (by omega); omega
    ·exact q
  unfold mI
  rw [List.pairwise_iff_getElem]
  intro i j hi hj hij
  have:=hchain j i hij hj
  simpa [List.getD,hi,hj] using this
 refine ⟨v.map Int.toNat,?_,?_,fun j hj=>?_⟩
 ·unfold bu
  rw [List.map_map]
  symm
  refine (List.map_congr_left fun x hx=>?_).trans (List.map_id v)
  have:=(hm x hx).1
  show ((x.toNat:Nat):Int)=x
  omega
 ·rw [List.pairwise_map]
  exact List.Pairwise.imp_of_mem (fun {x y} hx hy hxy=>by have:=(hm x hx).1; omega) hasc
 ·obtain ⟨x,hx,rfl⟩:=List.mem_map.1 hj
  have:=hm x hx; omega
theorem uu {X:List Spx} {w:List Nat}:d6 X (bu w)=w.map fun j=>X.getD j default:=by
 unfold d6 bu
 rw [List.map_map]
 exact List.map_congr_left fun j _=>rfl
theorem nV {c:List Spx} {k:Nat} {v:List Int} (hc:a5 c=0) (hc50:c.length ≤ 50) (hk:k < 8) (hv:v.length ≤ 40) (h:iE (bh c (k + 1)).length v=0) :
    ∃ a b,qu c k v=(a,0)∧nX c a=(v,0)∧gI a=(b,0)∧bU a=0∧ShC a∧ShC b∧jc c k=(((((bh c (k + 1)).length:Nat):Int),gz (bh c (k + 1)) (bh c k)),0)∧nX c b=(bu (kB (gz (bh c (k + 1)) (bh c k)) v),0):=by
 obtain ⟨w,rfl,hw,hb⟩:=sW h
 have hXs:=eU (d:=(k:Int) + 1) hc
 have hXa:=gZ (c:=c) (d:=(k:Int) + 1)
 have hXm:=fun s=>fv (c:=c) (d:=(k:Int) + 1) (s:=s)
 have hXf:=fun s f=>si (c:=c) (d:=(k:Int)) (s:=s) (f:=f)
 have hYa:=gZ (c:=c) (d:=(k:Int))
 have hYm:=fun s=>fv (c:=c) (d:=(k:Int)) (s:=s)
 have hwl:w.length ≤ 40:=by unfold bu at hv; rwa [List.length_map] at hv
 have e1:qu c k (bu w)=(w.map fun j=>(bh c (k + 1)).getD j default,0):=by
  unfold qu
  rw [if_neg (fun h=>h hc),if_neg (by omega),if_neg (fun q=>q h),uu]
 have e5:jc c k=(((((bh c (k + 1)).length:Nat):Int),gz (bh c (k + 1)) (bh c k)),0):=by
  unfold jc
  rw [if_neg (fun h=>h hc),if_neg (by omega)]
 have hvec:∀ a:List Spx,bU a=0→(a=[] ∨ ∃ d:Nat,gb a=d∧∀ s ∈ a,s ∈ bh c d)→nX c a=(bu (lI (bh c (gb a)) a),0):=fun a ha hr=>by
  unfold nX
  rw [if_neg (fun h=>h hc),if_neg (fun h=>h ha)]
  rcases hr with rfl | ⟨d,hd,hr⟩
  ·rw [if_pos rfl]; rfl
  ·by_cases h0:a=[]
   ·subst h0; rw [if_pos rfl]; rfl
   ·rw [if_neg h0,if_pos (List.all_eq_true.2 fun s hs=>decide_eq_true (by rw [hd]; exact hr s hs))]
 have hXe:bh c (((k + 1:Nat)):Int)=bh c ((k:Int) + 1):=by rw [show (((k + 1:Nat)):Int)=(k:Int) + 1 by omega]
 generalize bh c ((k:Int) + 1)=X at *
 have hsub:∀ s ∈ w.map (fun j=>X.getD j default),s ∈ X:=fun s hs=>by
  obtain ⟨j,hj,rfl⟩:=List.mem_map.1 hs
  exact aP (hb j hj)
 have hlen:∀ s ∈ w.map (fun j=>X.getD j default),s.length=k + 1:=fun s hs=>by
  have:=((hXm s).1 (hsub s hs)).2.1; omega
 have hasc:bi aS (w.map fun j=>X.getD j default):=by
  unfold bi
  rw [List.pairwise_map]
  exact List.Pairwise.imp_of_mem (fun {i j} hi hj hij=>bV hXa hij (hb j hj)) hw
 have hsim:∀ s ∈ w.map (fun j=>X.getD j default),be s=0:=fun s hs=>hXs s (hsub s hs)
 have hpos:lI X (w.map fun j=>X.getD j default)=w:=by
  unfold lI
  rw [List.map_map]
  refine (List.map_congr_left fun j hj=>?_).trans (List.map_id w)
  exact oV (hXa.nodup fm) (hb j hj)
 have hap:=sq (X:=X) (Y:=bh c k) (d4 hXs) hYa hw hb (fun s hs=>by
  obtain ⟨t,t1,t2⟩:=fR (fun s hs=>d4 hXs s (hsub s hs)) hs
  exact hXf t s (hsub t t1) t2)
 have hin:∀ s ∈ bA (w.map fun j=>X.getD j default),s ∈ bh c k:=fun s hs=>by
  obtain ⟨t,t1,t2⟩:=fR (fun s hs=>d4 hXs s (hsub s hs)) hs
  exact hXf t s (hsub t t1) t2
 have hwl2:(w.map fun j=>X.getD j default).length ≤ 40:=by rw [List.length_map]; exact hwl
 have hl0:0 < w.length→gb (w.map fun j=>X.getD j default)=k + 1:=fun h0=>hlen _ (aP (by rw [List.length_map]; exact h0))
 have hw0:w.length=0→(w.map fun j=>X.getD j default)=[]:=fun h0=>by rw [List.length_eq_zero_iff.1 h0]; rfl
 have hpos2:w.length=0→w=[]:=fun h0=>List.length_eq_zero_iff.1 h0
 generalize (w.map fun j=>X.getD j default)=a at *
 have hca:bU a=0:=tc (n:=k + 1) (by omega) hsim hasc hlen
 have hcb:=u5 hca (by omega)
 have hsame:=oW (d4 hsim) hlen
 refine ⟨a,bA a,e1,?_,vo hca (by omega),hca,oz (by omega) hsim,oz (by have:=(dt hcb).1; omega) (jZ hsim),e5,?_⟩
 ·by_cases h0:w.length=0
  ·rw [hvec a hca (.inl (hw0 h0)),hw0 h0,hpos2 h0]; rfl
  ·have h1:gb a=k + 1:=hl0 (by omega)
   rw [hvec a hca (.inr ⟨k + 1,h1,fun s hs=>by rw [hXe]; exact hsub s hs⟩),h1,hXe,hpos]
 ·by_cases h0:bA a=[]
  ·rw [hvec _ hcb (.inl h0),hap,h0]; rfl
  ·have h1:gb (bA a)=k:=by
     have:=hsame _ (aP (List.length_pos_iff.2 h0))
     unfold gb; omega
   rw [hvec _ hcb (.inr ⟨k,h1,hin⟩),hap,h1]
   rfl
end Go.Proofs.Ytfcenbapjhecfaa
namespace Go.Proofs.Ytfcenbapjhecfaa
open Go Go.Abs
attribute [local irreducible] aB ai aW aN aG aH ay aJ aO ba Go.Abs.Fn aM Go.Abs.Pure ar aE Yl
end Go.Proofs.Ytfcenbapjhecfaa
namespace Go.Proofs.Ytfcenbapjhecfaa
open Go Go.Abs
theorem wa {n:Nat} {v:List Int}:iE n v=0 ∨ iE n v=2 ∨ iE n v=14:=by
 by_cases h:iE n v=0
 ·exact .inl h
 ·refine .inr ?_
  unfold iE at h ⊢
  have:∀ m,bH (iV n v) m=0 ∨ bH (iV n v) m=2 ∨ bH (iV n v) m=14:=fun m=>by
   by_cases hall:∀ i,i < m→iV n v i=0
   ·exact .inl (bJ hall)
   ·have hex:∃ k,k < m∧iV n v k ≠ 0∧∀ i,i < k→iV n v i=0:=by
      refine Decidable.byContradiction fun hno=>hall fun i=>?_
      induction i using Nat.strongRecOn with
      | _ i ih =>
       intro hi
       refine Decidable.byContradiction fun h0=>hno ⟨i,hi,h0,fun j hj=>ih j hj (by omega)⟩
    obtain ⟨k,k1,k2,k3⟩:=hex
    rw [bz k1 k3 k2]
    rw [mE] at k2 ⊢
    split
    ·exact .inr (.inl rfl)
    split
    ·exact .inr (.inr rfl)
    ·exact .inl rfl
  exact (this _).resolve_left h
theorem A4 (m:Nat) {dm:Nat} (hm:0 < m):∀ tb tf,aX .rem tb tf (.int .u8 (dm:Int)) (.int .u8 (m:Int))=some (.int .u8 ((dm % m:Nat):Int)):=fun _ _=>(tx (by omega) (by omega)).trans (by rw [Int.natCast_emod])
theorem AK {q:Nat} (h:q < 4):IntKind.wrap .i64 (q:Int)=q:=by
 rcases (by omega:q=0 ∨ q=1 ∨ q=2 ∨ q=3) with rfl | rfl | rfl | rfl <;> decide
attribute [local irreducible] aB ai aW aN aG aH ay aJ aO ba Go.Abs.Fn aM Go.Abs.Pure ar aE Yl
set_option maxHeartbeats 2000000 in
theorem qX (c:List Spx) (dm:Nat) (v:List Int) (hc:Shn c∧∀ s ∈ c,Shn s) (hd:dm < 256) (hv:Shn v):Pure Try.prog 8 [eS c,.int .u8 dm,bc v] (.bool true):=by
 refine Pure.of_c2 follows is8 (Nat.le_of_ble_eq_true rfl) ?_
 simp only [b8,cO,cG,cN,cM,cD,cF,cB,aA,aR]
 have hv':v.length ≤ 17592186044416:=hv
 have hrem:=A4 4 (dm:=dm) (by omega)
 have hk4:dm % 4 < 4:=Nat.mod_lt _ (by omega)
 have hw:=AK hk4
 have e4:((4:Nat):Int)=4:=rfl
 rw [e4] at hrem
 generalize dm % 4=k at *
 have f1:=xc c hc.1 hc.2
 have f2:=xq c hc.1 hc.2
 have z0:decide ((0:Int) ≠ 0)=false:=rfl
 cases e1:gS c
 ·rw [e1] at f1
  (have zz:=aI @ao (aI @aj (aI @hrem @hw)); repeat' (first|refine zW ?_|apply a_n|apply a_r|refine zO ?_|refine vY ?_|refine cY ?_ (hp:=by first | exact f1 | exact hJ) (hs:=by (first | refine ab ?_ rfl | apply ac); (repeat' (first | exact aa | apply am | apply ae | exact bg _)); first | done | fail)|refine bxY ?_|refine gFY ?_|refine cTY ?_|refine ak rfl ?_|refine r1Y ?_|fail)) <;> (try clear zz)
  exact .bool _
 rw [e1] at f1
 obtain ⟨fc1,fc2⟩:=sc.1 e1
 by_cases he:a5 c=0
 rotate_left
 ·have z:decide (a5 c ≠ 0)=true:=decide_eq_true he
  (have zz:=aI @ao (aI @aj (aI @hrem (aI @hw @z))); repeat' (first|refine zW ?_|apply a_n|apply a_r|refine zO ?_|refine vY ?_|refine cY ?_ (hp:=by first | exact f1 | exact f2 | exact hJ) (hs:=by (first | refine ab ?_ rfl | apply ac); (repeat' (first | exact aa | apply am | apply ae | exact bg _)); first | done | fail)|refine bxY ?_|refine gTY ?_|refine gFY ?_|refine cTY ?_|refine ak rfl ?_|refine r1Y ?_|fail)) <;> (try clear zz)
  exact .bool _
 rw [he] at f2
 by_cases hl:40 < v.length
 ·have z:decide ((40:Int) < v.length)=true:=decide_eq_true (by omega)
  (have zz:=aI @ao (aI @aj (aI @hrem (aI @hw (aI @z (aI @z0 @iY))))); repeat' (first|refine zW ?_|apply a_n|apply a_r|refine zO ?_|refine vY ?_|refine cY ?_ (hp:=by first | exact f1 | exact f2 | exact hJ) (hs:=by (first | refine ab ?_ rfl | apply ac); (repeat' (first | exact aa | apply am | apply ae | exact bg _)); first | done | fail)|refine bxY ?_|refine gTY ?_|refine cTY ?_|refine ak rfl ?_|refine r1Y ?_|fail)) <;> (try clear zz)
  exact .bool _
 have zl:decide ((40:Int) < v.length)=false:=decide_eq_false (by omega)
 have s1:=xE c k v (by omega) hc.2 (by omega)
 rcases wa (n:=(bh c (k + 1)).length) (v:=v) with h0 | h0
 rotate_left
 ·have eT:qu c k v=([],iE (bh c (k + 1)).length v):=by
    unfold qu
    rw [if_neg (fun h=>h he),if_neg (by omega),if_pos (by omega)]
  rw [eT] at s1
  dsimp only at s1
  rcases h0 with h0 | h0
  ·rw [h0] at s1
   have y1:decide ((2:Int) ≠ 0)=true:=rfl
   have y2:decide ((2:Int)=2)=true:=rfl
   (have zz:=aI @ao (aI @aj (aI @hrem (aI @hw (aI @zl (aI @z0 (aI @y1 (aI @y2 @iY))))))); repeat' (first|refine zW ?_|apply a_n|apply a_r|refine zO ?_|refine vY ?_|refine cY ?_ (hp:=by first | exact f1 | exact f2 | exact s1 | exact hJ) (hs:=by (first | refine ab ?_ rfl | apply ac); (repeat' (first | exact aa | apply am | apply ae | exact bg _ | exact bW _)); first | done | fail)|refine bxY ?_|refine gTY ?_|refine gFY ?_|(refine zGY ?_ ?_ <;> (intro _hg; try (exfalso; omega)))|refine cTY ?_|refine cFY ?_|refine ak rfl ?_|refine r1Y ?_|fail)) <;> (try clear zz)
   exact .bool _
  ·rw [h0] at s1
   have y1:decide ((14:Int) ≠ 0)=true:=rfl
   have y2:decide ((14:Int)=2)=false:=rfl
   have y3:decide ((14:Int)=14)=true:=rfl
   (have zz:=aI @ao (aI @aj (aI @hrem (aI @hw (aI @zl (aI @z0 (aI @y1 (aI @y2 (aI @y3 @iY)))))))); repeat' (first|refine zW ?_|apply a_n|apply a_r|refine zO ?_|refine vY ?_|refine cY ?_ (hp:=by first | exact f1 | exact f2 | exact s1 | exact hJ) (hs:=by (first | refine ab ?_ rfl | apply ac); (repeat' (first | exact aa | apply am | apply ae | exact bg _ | exact bW _)); first | done | fail)|refine bxY ?_|refine gTY ?_|(refine zGY ?_ ?_ <;> (intro _hg; try (exfalso; omega)))|refine cTY ?_|refine cFY ?_|refine ak rfl ?_|refine r1Y ?_|fail)) <;> (try clear zz)
   exact .bool _
 obtain ⟨a,b,k1,k2,k3,k4,k5,k6,k7,k8⟩:=nV he (by omega) (by omega) (by omega) h0
 have s2:=rX c a (by omega) hc.2 k5
 have s3:=pO a k5
 have s4:=sR c k (by omega) hc.2
 have s5:=rX c b (by omega) hc.2 k6
 have s6:=gG a k5
 have hXl:=eF (d:=(k:Int) + 1) (show c.length ≤ 50 by omega) he
 have hYl:=eF (d:=(k:Int)) (show c.length ≤ 50 by omega) he
 obtain ⟨w,w1,w2,w3⟩:=sW h0
 have s7:=vX ((bh c (k + 1)).length:Nat) (gz (bh c (k + 1)) (bh c k)) v (xz (by omega) (by omega)) (by omega) (fun x hx=>by
  rw [w1,nB] at hx
  obtain ⟨i,i1,rfl⟩:=hx
  have:=w3 i i1; omega) (rH (by rw [w1]; exact dD w2))
 have s8:=nC v v (by omega) (by omega)
 have hA:=xP (c:=c) (a:=b)
 rw [k8] at hA s5
 have s9:=nC _ _ hA hA
 rw [decide_eq_true rfl] at s8 s9
 rw [k1] at s1
 rw [k2] at s2
 rw [k3] at s3
 rw [k7] at s4
 rw [k4] at s6
 have dM:=fU ((bh c (k + 1)).length:Nat) (gz (bh c (k + 1)) (bh c k))
 dsimp only at s1 s2 s3 s4 s5 s8 s9
 unfold fW at s4 s7 dM
 clear k1 k2 k3 k4 k7 k8 w1 w2 w3
 generalize bu (kB (gz (bh c (k + 1)) (bh c k)) v)=A at *
 generalize gz (bh c (k + 1)) (bh c k)=M at *
 generalize ((bh c ((k:Int) + 1)).length)=n at *
 (have zz:=aI @ao (aI @aj (aI @hrem (aI @hw (aI @zl (aI @z0 @iY))))); repeat' (first|refine zW ?_|apply a_n|refine zO ?_|refine vY ?_|refine cY ?_ (hp:=by first | exact f1 | exact f2 | exact s1 | exact s2 | exact s3 | exact s4 | exact s5 | exact s6 | exact s7 | exact s8 | exact s9 | exact hJ) (hs:=by (first | refine ab ?_ rfl | apply ac); (repeat' (first | exact aa | apply am | apply ae | exact bg _ | exact aC _ | exact bW _ | exact dM)); first | done | fail)|refine alY ?_|refine bxY ?_|refine stY ?_|refine gTY ?_|(refine zGY ?_ ?_ <;> (intro _hg; try (exfalso; omega)))|refine cFY ?_|refine ak rfl ?_|refine r1Y ?_|fail)) <;> (try clear zz)
 exact .bool _
end Go.Proofs.Ytfcenbapjhecfaa
namespace Go.Proofs.Ytfcenbapjhecfaa
open Go Go.Abs Go.RowKit
section
variable {H:Type} {enc:TypeId × Value→H} {W:World}
theorem oi:cz enc Try.prog W 3 (AV.int .i64) (fun n=>(Lit.int .i64 n).wf=true):=oY Try.underlying3
set_option maxRecDepth 100000 in
theorem A7:cz enc Try.prog W 101 bP (fun _=>True) :=
 (iW Try.underlying101 (by kernel_rfl) (gJ (off:=0) (off':=1) rfl (by kernel_rfl) oi (gJ (off:=1) (off':=2) rfl (by kernel_rfl) oi nG))).map
  (fun a=>(⟨a.1,a.2.1⟩:Vtx)) (fun _ _=>trivial) (fun _ _=>rfl)
theorem oXs:cz enc Try.prog W 52 av Shn :=
 (gD Try.underlying52 (sz:=2) (by_:=16) (by kernel_rfl) (by kernel_rfl) (by omega) (fun _=>rfl) A7).mono fun l h=>by have:=h.2.2; show _ ≤ _; omega
theorem Bg:cz enc Try.prog W 22 au (fun l=>Shn l∧∀ x ∈ l,Shn x) :=
 (gD Try.underlying22 (sz:=1) (by_:=24) (by kernel_rfl) (by kernel_rfl) Nat.one_pos (fun _=>rfl) oXs).mono fun l h=>⟨by have:=h.2.2; show _ ≤ _; omega,h.1⟩
set_option maxRecDepth 100000 in
theorem oCx:cz enc Try.prog W 41 eS (fun l=>Shn l∧∀ x ∈ l,Shn x) :=
 (iW Try.underlying41 (by kernel_rfl) (gJ (off:=0) (off':=1) rfl (by kernel_rfl) Bg nG)).map
  (fun a=>a.1) (by rintro ⟨n,u⟩ ⟨h1,_⟩; exact h1) (fun _ _=>rfl)
end
theorem lS {f:FuncId} {xs:List AV} {vs:List Value} (h:Go.Abs.Pure Try.prog f xs (.bool true)) (w:World) (hv:bN (E0 (nU w)) w xs vs) :
    Calls Try.prog f vs.toArray w fun e w'=>e=.returned (.bool true)∧Below w.heap.size w w':=by
 refine (h.2 (nU w) w vs (fun _ h=>h) hv).mono ?_
 rintro e w' ⟨v,imm',rfl,hb,_,_,_,hr⟩
 cases hr
 exact ⟨rfl,hb⟩
theorem AY:laidOutB Try.prog=true:=by kernel_rfl
end Go.Proofs.Ytfcenbapjhecfaa
namespace Go.Proofs.Ytfcenbapjhecfaa
open Go Go.Abs Go.RowKit
section
variable {H:Type} {enc:TypeId × Value→H} {W:World}
theorem oVi:cz enc Try.prog W 54 bc Shn :=
 (gD Try.underlying54 (sz:=1) (by_:=8) (by kernel_rfl) (by kernel_rfl) Nat.one_pos (fun _=>rfl) oi).mono fun l h=>by have:=h.2.2; show _ ≤ _; omega
end
end Go.Proofs.Ytfcenbapjhecfaa
namespace Go.Proofs.Ytfcenbapjhecfaa
open Go Go.Abs Go.RowKit
theorem wf8 {n:Int} (h:(Lit.int .u8 n).wf=true):0 ≤ n∧n < 256:=by
 simp only [Lit.wf,Bool.and_eq_true,decide_eq_true_eq] at h
 have h1:IntKind.min .u8=0:=by decide
 have h2:IntKind.max .u8=255:=by decide
 omega
section
variable {H:Type} {enc:TypeId × Value→H} {W:World}
theorem ou8:cz enc Try.prog W 5 (fun n:Nat=>AV.int .u8 (n:Int)) (fun n=>n < 256) :=
 (oY Try.underlying5).map (fun n=>n.toNat) (fun n h=>by
  have h2:=wf8 h
  omega) (fun n h=>by
  have h2:=wf8 h
  rw [Int.toNat_of_nonneg h2.1])
end
end Go.Proofs.Ytfcenbapjhecfaa
namespace Go.Proofs.Ytfcenbapjhecfaa
open Go Go.Abs Go.RowKit Go.ChangeShapes Go.WideShapes Go.ChangeAt
theorem nO {H:Type} {enc:TypeId × Value→H} {P:Program} {f:Func} {s:ChangeSpec} {apart fresh handsOn again:Bool} {W W':World} {args:Array Value} {v:Value} {ds gs:List (DataW H)} {before pa pv:List MemPlace}
    (hW:DataW.Whole enc P f.params.toList s.vars apart W args.toList ds gs before)
    (hres:∀ (b:Nat) (sp:Nat→Bool) (hd:Bool),DataW.TrodAll enc P W' b sp hd f.resultTypes.toList (v.resultList f.resultTypes.size) (s.fn H (ds ++ gs)).results [])
    (hargs:∀ sp:Nat→Bool,(∀ p ∈ before,sp p.block=true)→DataW.TrodAll enc P W' 0 sp true f.params.toList args.toList (s.fn H (ds ++ gs)).args pa)
    (hvars:∀ sp:Nat→Bool,(∀ p ∈ before,sp p.block=true)→DataW.TrodVars enc P W' sp s.vars (s.fn H (ds ++ gs)).vars pv)
    (hps:before=pa ++ pv) (hb:Below W.heap.size W W')
    (hok:∀ (j:Nat) (t:TypeId) (r:Value),f.resultTypes[j]?=some t→(v.resultList f.resultTypes.size)[j]?=some r→Value.okWide P W' .any 0 t r) :
    s.post enc P f apart fresh handsOn again W args v W':=by
 have hold:∀ p ∈ before,(fun b=>decide (b < W.heap.size)) p.block=true:=fun p hp=>by simpa using hW.lt p hp
 have hlt:=fun p hp=>hW.lt p hp
 refine ⟨ds,gs,before,[],pa,pv,hW,hres _ _ _,hargs _ hold,hvars _ hold,World.keptBut_mono (fun p hp=>⟨hp,?_⟩) (hb.frame _),fun _=>?_⟩
 ·rw [hps,List.mem_append] at hp
  exact Or.inr hp
 ·obtain ⟨_,_,_,_,_,hz,hn⟩:=hW
  refine ⟨hok,_,_,([] ++ pa) ++ pv,⟨[] ++ pa,pv,trodAll_append (hargs _ (fun _ _=>rfl)) (hres _ _ _),hvars _ (fun _ _=>rfl),rfl,?_,?_⟩,?_⟩
  ·intro b off hp
   have hp':MemPlace.cell b off ∈ before:=by rw [hps]; simpa using hp
   rw [hb.frozen (hlt _ hp')]
   exact hz b off hp'
  ·intro ha
   have:=hn ha
   rw [hps] at this
   simpa using this
  ·intro p hp _
   rw [hps]
   simpa using hp
theorem vP {E:Env} {w:World}:bN E w [] []:=⟨rfl,fun i x y h=>(by cases h)⟩
theorem kJ {E:Env} {w:World} {x:AV} {y:Value} {xs:List AV} {ys:List Value} (h:Rel E w x y) (hs:bN E w xs ys):bN E w (x :: xs) (y :: ys):=by
 refine ⟨by simp [hs.1],fun i a b ha hb=>?_⟩
 cases i with
 | zero=>simp at ha hb; subst ha hb; exact h
 | succ i=>simp at ha hb; exact hs.2 i a b ha hb
theorem own:ownKnob Try.prog.godebug=none:=by kernel_rfl
end Go.Proofs.Ytfcenbapjhecfaa