/- Texts of this claim, one after the other: T175, T176, T177, T179, T143, T178, T180, T181, A33, T122, T133, T144, T147, T148, T182, T183, T118, T184, T121. -/
import Derived.Test.YtfcenbapjhecfaaXG5
import Derived.Test.YtfcenbapjhecfaaXG4
import Derived.Test.YtfcenbapjhecfaaXG3
import Derived.Test.YtfcenbapjhecfaaRows
import Derived.WalkKit
import Derived.ProofKit
import Derived.OpenShut

set_option linter.unusedSimpArgs false
set_option linter.unusedVariables false
namespace Go.Proofs.Ytfcenbapjhecfaa
open Go Go.Abs
open Nat (reduceEqDiff reduceAdd reduceLeDiff)
def dP:Nat→Spx→List Int
 | 0,_=>[]
 | n + 1,[]=>0 :: 0 :: dP n []
 | n + 1,v :: l=>v.color :: v.label :: dP n l
theorem i6:∀ {n:Nat} {s:Spx},(dP n s).length=2 * n
 | 0,_=>rfl
 | n + 1,[]=>by show (dP n []).length + 1 + 1=_; rw [i6]; omega
 | n + 1,v :: l=>by show (dP n l).length + 1 + 1=_; rw [i6]; omega
theorem qB:∀ {n:Nat} {s t:Spx},s.length=t.length→t.length ≤ n→dP n s=dP n t→s=t
 | _,[],[],_,_,_=>rfl
 | _,[],w :: m,h,_,_=>absurd h (by simp)
 | _,v :: l,[],h,_,_=>absurd h (by simp)
 | 0,v :: l,w :: m,_,h,_=>absurd h (by simp)
 | n + 1,v :: l,w :: m,hl,hm,e=>by
  obtain ⟨e1,e2⟩:=List.cons.inj e
  obtain ⟨e2,e3⟩:=List.cons.inj e2
  have:=qB (n:=n) (by simpa using hl) (by simpa using hm) e3
  rw [this,im.2 ⟨e1,e2⟩]
abbrev z16:List AV:=[.int .i64 0,.int .i64 0,.int .i64 0,.int .i64 0,.int .i64 0,.int .i64 0,.int .i64 0,.int .i64 0,.int .i64 0,.int .i64 0,.int .i64 0,.int .i64 0,.int .i64 0,.int .i64 0,.int .i64 0,.int .i64 0]
theorem xm:z16=(dP 8 []).map (AV.int .i64):=rfl
theorem pp:∀ {n:Nat} {s:Spx},s.length ≤ n→cX s ++ ((dP n []).map (AV.int .i64)).drop (s.length * 2)=(dP n s).map (AV.int .i64)
 | n,[],_=>by simp [cX]
 | 0,_ :: _,h=>absurd h (by simp)
 | n + 1,v :: l,h=>by
  have:=pp (n:=n) (s:=l) (by simp at h; omega)
  show [AV.int .i64 v.color,AV.int .i64 v.label] ++ cX l ++ _=AV.int .i64 v.color :: AV.int .i64 v.label :: (dP n l).map (AV.int .i64)
  rw [← this,List.length_cons,show (l.length + 1) * 2=l.length * 2 + 1 + 1 by omega]
  rfl
def kZ (s:Spx):K16:=⟨dP 8 s,by rw [i6]⟩
theorem ud {s t:Spx} (h:s.length=t.length) (h8:t.length ≤ 8) (e:kZ s=kZ t):s=t:=qB h h8 (congrArg Subtype.val e)
theorem u0 {O:List Spx} {f:Spx} {n:Nat} (hn:n ≤ 8) (hO:∀ s ∈ O,s.length=n) (hf:f.length=n):kZ f ∈ O.map kZ ↔ f ∈ O:=by
 rw [List.mem_map]
 exact ⟨fun ⟨s,h1,h2⟩=>by rw [← ud (by rw [hO s h1,hf]) (by omega) h2]; exact h1,fun h=>⟨f,h,rfl⟩⟩
theorem uq {f:Spx} {n:Nat} (hn:n ≤ 8) (hf:f.length=n):∀ {O:List Spx},(∀ s ∈ O,s.length=n)→(O.map kZ).idxOf (kZ f)=O.idxOf f
 | [],_=>rfl
 | g :: O,hO=>by
  have ih:=uq hn hf (O:=O) fun s hs=>hO s (List.mem_cons_of_mem _ hs)
  have hg:=hO g List.mem_cons_self
  rw [List.map_cons,List.idxOf_cons,List.idxOf_cons,ih]
  have e:(kZ g == kZ f)=(g == f):=by
   rw [Bool.eq_iff_iff,beq_iff_eq,beq_iff_eq]
   exact ⟨fun h=>ud (by rw [hg,hf]) (by omega) h,fun h=>by rw [h]⟩
  rw [e]
structure BOk (H:Hp) (n:Nat) (c:Spx→Nat) (O:List Spx) (bs:List Nat) (ck:Nat):Prop where
 box:H 0=some [.bmap ((O.map kZ).map eK) (O.map aw) bs ck]
 len:bs.length=O.length
 asc:bs.Pairwise (· < ·)
 below:∀ s ∈ bs,s < ck
 nd:O.Nodup
 all:∀ f ∈ O,f.length=n
 odd:∀ f,f ∈ O ↔ c f % 2=1
theorem BOk.same {H H':Hp} {n:Nat} {c c':Spx→Nat} {O:List Spx} {bs:List Nat} {ck:Nat} (h:BOk H n c O bs ck) (hs:H' 0=H 0) (hc:∀ f,c' f % 2=c f % 2):BOk H' n c' O bs ck :=
 ⟨hs.trans h.box,h.len,h.asc,h.below,h.nd,h.all,fun f=>by rw [hc]; exact h.odd f⟩
theorem BOk.put {H H':Hp} {n:Nat} {c c':Spx→Nat} {O:List Spx} {bs:List Nat} {ck:Nat} {f:Spx} (h:BOk H n c O bs ck) (hf:f ∉ O) (hl:f.length=n) (hH:H' 0=some [.bmap ((O.map kZ).map eK ++ [eK (kZ f)]) (O.map aw ++ [aw f]) (bs ++ [ck]) (ck + 1)]) (hc:∀ g,c' g=c g + if g=f then 1 else 0):BOk H' n c' (O ++ [f]) (bs ++ [ck]) (ck + 1):=by
 refine ⟨by rw [hH]; simp,by rw [List.length_append,List.length_append,h.len]; rfl,?_,fun s hs=>?_,?_,fun g hg=>?_,fun g=>?_⟩
 ·exact List.pairwise_append.2 ⟨h.asc,List.pairwise_singleton _ _,fun a ha b hb=>by rw [List.mem_singleton.1 hb]; exact h.below a ha⟩
 ·rcases List.mem_append.1 hs with q | q
  ·have:=h.below s q; omega
  ·rw [List.mem_singleton.1 q]; omega
 ·exact List.nodup_append.2 ⟨h.nd,by simp,fun a ha b hb e=>by rw [e,List.mem_singleton.1 hb] at ha; exact hf ha⟩
 ·rcases List.mem_append.1 hg with q | q
  ·exact h.all g q
  ·rw [List.mem_singleton.1 q]; exact hl
 ·rw [List.mem_append,List.mem_singleton,h.odd,hc]
  by_cases e:g=f
  ·subst e
   have:¬ c g % 2=1:=fun q=>hf ((h.odd g).2 q)
   rw [if_pos rfl]
   exact ⟨fun _=>by omega,fun _=>.inr rfl⟩
  ·rw [if_neg e]; simp [e]
theorem dR {α β:Type} {f:α→β}:∀ {l:List α} {i:Nat},(l.map f).eraseIdx i=(l.eraseIdx i).map f
 | [],_=>rfl
 | a :: l,0=>rfl
 | a :: l,i + 1=>by show f a :: (l.map f).eraseIdx i=f a :: (l.eraseIdx i).map f; rw [dR]
theorem BOk.del {H H':Hp} {n:Nat} {c c':Spx→Nat} {O:List Spx} {bs:List Nat} {ck i:Nat} {f:Spx} (h:BOk H n c O bs ck) (hf:f ∈ O) (hi:O.idxOf f=i) (hH:H' 0=some [.bmap (((O.map kZ).map eK).eraseIdx i) ((O.map aw).eraseIdx i) (bs.eraseIdx i) ck]) (hc:∀ g,c' g=c g + if g=f then 1 else 0):BOk H' n c' (O.erase f) (bs.eraseIdx i) ck:=by
 have hil:i < O.length:=by rw [← hi]; exact List.idxOf_lt_length_iff.2 hf
 have he:O.erase f=O.eraseIdx i:=List.erase_eq_eraseIdx_of_idxOf hi
 refine ⟨?_,?_,h.asc.sublist (List.eraseIdx_sublist _ _),fun s hs=>h.below s ((List.eraseIdx_sublist _ _).subset hs),h.nd.erase _,fun g hg=>h.all g (List.mem_of_mem_erase hg),fun g=>?_⟩
 ·rw [hH,he]
  rw [dR,dR,dR]
 ·rw [he,List.length_eraseIdx_of_lt hil,List.length_eraseIdx_of_lt (by rw [h.len]; exact hil),h.len]
 ·rw [h.nd.mem_erase_iff,h.odd,hc]
  by_cases e:g=f
  ·subst e
   have:=(h.odd g).1 hf
   rw [if_pos rfl]
   constructor
   ·exact fun q=>absurd rfl q.1
   ·intro q; omega
  ·rw [if_neg e]; simp [e]
theorem f8 {α:Type} [DecidableEq α] {a b:List α} (h:a.Nodup) (hs:∀ x ∈ a,x ∈ b):a.length ≤ b.length:=List.Nodup.length_le_of_subset h hs
theorem tx {l:List Spx} {s f:Spx}:g9 (l ++ [s]) f=g9 l f + (bC s).count f:=by unfold g9; simp
theorem rb {D:List Spx} {f g:Spx} {m:Nat}:m + (D ++ [f]).count g=m + D.count g + if g=f then 1 else 0:=by
 rw [List.count_append,List.count_singleton,Nat.add_assoc]
 congr 2
 by_cases e:g=f
 ·subst e; simp
 ·rw [if_neg e,if_neg]; simp only [beq_iff_eq]; exact fun h=>e h.symm
theorem nt {O:List Spx} {i:Nat} (h:i < O.length):(O.map aw).getD i .undef=aw (O.getD i default):=by simp [List.getD,h]
attribute [local irreducible] aC ai aV aN aG aJ aA aK aP bb Go.Abs.Fn aM Go.Abs.Pure av aF Yl
theorem u2 {n:Nat} {c:Spx→Nat} {O:List Spx} {bs:List Nat} {ck:Nat} {f:Spx} {H:Hp} (hn:n ≤ 8) (h:BOk H n c O bs ck) (hf:f.length=n) :
    bz (.st [.int,.int,.int,.int,.int,.int,.int,.int,.int,.int,.int,.int,.int,.int,.int,.int]) (eK (kZ f)) ((O.map kZ).map eK)=some (if f ∈ O then some (O.idxOf f) else none):=by
 rw [vB,uq hn hf h.all]
 by_cases e:f ∈ O
 ·rw [if_pos e,if_pos ((u0 hn h.all hf).2 e)]
 ·rw [if_neg e,if_neg fun q=>e ((u0 hn h.all hf).1 q)]
set_option maxHeartbeats 1000000 in
theorem kW (a:List Spx) (n:Nat) (hn:n ≤ 8) (ha:a.length ≤ 4096) (hv:∀ s ∈ a,bm bt s) (hl:∀ s ∈ a,s.length=n + 1 ∨ s.length < 2) (h8:∀ s ∈ a,s.length ≤ 8):Pure Try.prog 46 [aq a] (aq (bX a)):=by
 refine Pure.of_c2 follows zA (Nat.le_of_ble_eq_true rfl) ?_
 simp only [b46,cO,cG,cN,cM,cD,cF,cB,aE,aS]
 refine fF ?_
 (have zz:=and_self; repeat' (first|apply a_n|refine zO ?_|refine vY ?_|fail)) <;> (try clear zz)
 refine fF ?_
 (have zz:=and_self; repeat' (first|apply a_n|refine zO ?_|fail)) <;> (try clear zz)
 refine xd ?_
 refine og (cs:=[.nilm]) rfl rfl rfl ?_
 (have zz:=and_self; repeat' (first|apply a_n|refine zO ?_|refine stY ?_|fail)) <;> (try clear zz)
 refine bq (fun T H nx=>T 3=.ptr 1 1 0∧2 ≤ nx∧H 1=some [.mp 0]∧∃ O bs ck,BOk H n (g9 a) O bs ck) ?_ ?_
 ·(have zz:=@af; repeat' (first|refine zW ?_|apply a_n|refine zO ?_|refine vY ?_|fail)) <;> (try clear zz)
  refine bd (X:=Nat) (fun k=>[(3,.ptr 1 1 0),(14,aq a),(15,.int .i64 a.length),(16,.int .i64 k)]) (fun k H nx=>k ≤ a.length∧2 ≤ nx∧H 1=some [.mp 0]∧∃ O bs ck,BOk H n (g9 (a.take k)) O bs ck) (fun k=>a.length - k) 0 ⟨Nat.zero_le _,Nat.le_refl _,by rw [ah]; rfl,[],[],0,⟨by rw [ag (by omega),ag (by omega),ah]; rfl,rfl,List.Pairwise.nil,fun s h=>(by cases h),List.nodup_nil,fun s h=>(by cases h),fun f=>⟨fun h=>(by cases h),fun h=>absurd h (by rw [List.take_zero]; exact (by decide:¬ (0:Nat) % 2=1))⟩⟩⟩ (by (iterate 4 refine And.intro rfl ?_); trivial) ?_
  rintro k H nx ⟨h1,h2,h3,O,bs,ck,h4⟩
  by_cases hk:k < a.length
  rotate_left
  ·rw [List.take_of_length_le (by omega)] at h4
   (have zz:=and_self; repeat' (first|refine zW ?_|apply a_n|apply a_x|refine zO ?_|refine vY ?_|(refine zGY ?_ ?_ <;> (intro _hg; try (exfalso; omega)))|fail)) <;> (try clear zz)
   exact ⟨rfl,h2,h3,O,bs,ck,h4⟩
  have ix:=dD hk
  have hts:=cL hk
  have hvs:=hv _ (aZ hk)
  have hls:=hl _ (aZ hk)
  have h8s:=h8 _ (aZ hk)
  generalize a.getD k default=s at *
  (have zz:=@ix; repeat' (first|refine zW ?_|apply a_n|refine zO ?_|refine vY ?_|(refine zGY ?_ ?_ <;> (intro _hg; try (exfalso; omega)))|fail)) <;> (try clear zz)
  refine aR ev0 ev0 (nr s H nx) ?_
  rintro _ H1 nx1 ⟨rfl,rfl,rfl⟩
  (have zz:=and_self; repeat' (first|refine zW ?_|apply a_n|refine zO ?_|fail)) <;> (try clear zz)
  refine js (nx + 1) (nx + 2) rfl rfl ev0 (fun c0 cj hy=>?_)
  refine Abs.Fn.mono (nb (nx:=nx + 2) (y:=nx + 1) (sb:=nx) (s:=s) (by omega) (fun D H' nx'=>nx + 2 ≤ nx'∧H' nx=some [aw s]∧H' (nx + 1)=some [c0]∧H' 1=some [.mp 0]∧∃ O bs ck,BOk H' n (fun f=>g9 (a.take k) f + D.count f) O bs ck) ?_ ?_ ?_ ?_) ?_
  ·rintro D H' nx' ⟨g1,g2,g3,g4⟩
   exact g2
  ·rintro D H' H'' n1 n2 ⟨g1,g2,g3,g4,O,bs,ck,g5⟩ hle hsm
   exact ⟨by omega,(hsm _ (by omega)).trans g2,(hsm _ (by omega)).trans g3,(hsm _ (by omega)).trans g4,O,bs,ck,g5.same (hsm _ (by omega)) fun _=>rfl⟩
  ·rintro D f H' nx' ⟨g1,g2,g3,g4,O,bs,ck,g5⟩ hlt hfe hDe
   refine hy _ _ _ _ g3 rfl ?_
   clear hy
   have h2s:2 ≤ s.length:=Nat.le_of_not_lt fun h=>by
    have:fcs s=[]:=by unfold fcs; rw [if_pos h]
    rw [this] at hlt; simp at hlt
   have hfl:f.length=n:=by
    rw [hfe,rL h2s (by rw [nV h2s] at hlt; exact hlt),List.length_append,List.length_take,List.length_drop]
    rw [nV h2s] at hlt
    omega
   clear hfe hDe
   (have zz:=and_self; repeat' (first|apply a_n|refine zO ?_|refine vY ?_|fail)) <;> (try clear zz)
   refine ⟨g3,?_⟩
   have hmf:=u2 hn g5 hfl
   have q0:=(b0 (H:=H') (b:=nx + 1) (x:=0) (by omega)).trans g5.box
   have q1:=(b0 (H:=H') (b:=nx + 1) (x:=1) (by omega)).trans g4
   have q2:=(b0 (H:=H') (b:=nx + 1) (x:=nx) (by omega)).trans g2
   generalize bQ H' (nx + 1)=H2 at *
   (have zz:=and_self; repeat' (first|refine zW ?_|apply a_n|refine zO ?_|refine alY ?_|fail)) <;> (try clear zz)
   generalize hH3:ap H2 nx' z16=H3
   have p0:H3 0=H2 0:=by rw [← hH3]; exact ag (by omega)
   have p1:H3 1=H2 1:=by rw [← hH3]; exact ag (by omega)
   have p2:H3 nx=H2 nx:=by rw [← hH3]; exact ag (by omega)
   have p3:H3 nx'=some z16:=by rw [← hH3]; exact ah
   clear hH3
   refine wY rfl p3 rfl rfl ?_
   (have zz:=and_self; repeat' (first|apply a_n|refine zO ?_|refine vY ?_|fail)) <;> (try clear zz)
   refine wQ (n:=f.length) (H':=ap H3 nx' ((dP 8 f).map (AV.int .i64))) ?_ ?_
   ·((try simp only [bM,ZA,reduceEqDiff,↓reduceIte,reduceAdd,reduceLeDiff]); (try with_reducible rfl))
    have hnn:dE (aw f)=some f.length:=by unfold aw eH; simp [dE]
    have htr:ni f.length (aw f)=aw f:=by unfold aw eH; simp [ni]; exact List.take_of_length_le (by simp)
    have hmin:min f.length 8=f.length:=Nat.min_eq_left (by omega)
    have hal:dE (.msl nx' 16 2 0 8)=some 8:=rfl
    have hlp:bi z16 0 (cX f)=(dP 8 f).map (AV.int .i64):=by
     rw [← pp (n:=8) (s:=f) (by omega),xm]
     simp only [bi,List.take_zero,List.nil_append,Nat.zero_add,e5]
    by_cases hf0:f.length=0
    ·obtain rfl:=List.length_eq_zero_iff.1 hf0
     have e0:(dP 8 []).map (AV.int .i64)=z16:=rfl
     rw [e0,← sA p3]
     simp only [jR,hal,hnn,hmin]
     rfl
    ·simp only [jR,hal,hnn,hmin,if_neg hf0,p3,htr,pG]
     rw [if_pos (by refine ⟨?_,?_,?_,?_⟩ <;> first | rfl | trivial | omega | exact go f),hlp]
   have hl16:((dP 8 f).map (AV.int .i64)).length=16:=by rw [List.length_map,i6]
   have ht:((dP 8 f).map (AV.int .i64)).take 16=(dP 8 f).map (AV.int .i64):=List.take_of_length_le (by omega)
   have r0:=(ag (H:=H3) (b:=nx') (x:=0) (cs:=(dP 8 f).map (AV.int .i64)) (by omega)).trans (p0.trans q0)
   have r1:=(ag (H:=H3) (b:=nx') (x:=1) (cs:=(dP 8 f).map (AV.int .i64)) (by omega)).trans (p1.trans q1)
   have r2:=(ag (H:=H3) (b:=nx') (x:=nx) (cs:=(dP 8 f).map (AV.int .i64)) (by omega)).trans (p2.trans q2)
   have r3:ap H3 nx' ((dP 8 f).map (AV.int .i64)) nx'=some ((dP 8 f).map (AV.int .i64)):=ah
   generalize ap H3 nx' ((dP 8 f).map (AV.int .i64))=H4 at *
   have hek:eK (kZ f)=.agg ((dP 8 f).map (AV.int .i64)):=rfl
   have hkf:=sa (kZ f)
   rw [hek] at hmf hkf
   have hcnt:∀ g,g9 (a.take k) g + (D ++ [f]).count g=g9 (a.take k) g + D.count g + if g=f then 1 else 0:=fun g=>rb
   by_cases hf:f ∈ O
   ·rw [if_pos hf] at hmf
    have hil:O.idxOf f < O.length:=List.idxOf_lt_length_iff.2 hf
    have hgv:mget .esl true (some (O.idxOf f)) (O.map aw)=.tup [aw (O.getD (O.idxOf f) default),.bool true]:=by
     rw [← nt hil]; rfl
    generalize hKK:(dP 8 f).map (AV.int .i64)=KK at *
    (have zz:=aI @r1 (aI @r3 (aI @hl16 @ht)); repeat' (first|refine zW ?_|apply a_n|refine zO ?_|refine vY ?_|fail)) <;> (try clear zz)
    refine rO ev0 r0 ev0 hkf hmf ?_
    rw [hgv]
    (have zz:=aI @r1 (aI @r3 (aI @hl16 @ht)); repeat' (first|refine zW ?_|apply a_n|refine zO ?_|refine vY ?_|refine cTY ?_|fail)) <;> (try clear zz)
    refine xy ev0 r0 ev0 hkf hmf ?_
    (have zz:=and_self; repeat' (first|apply a_n|refine zO ?_|fail)) <;> (try clear zz)
    exact ⟨rfl,by omega,by rw [ag (by omega),ag (by omega)]; exact r2,ah,by rw [ag (by omega),ag (by omega)]; exact r1,O.erase f,bs.eraseIdx (O.idxOf f),ck,g5.del hf rfl (by rw [ag (by omega),ah]; rfl) hcnt⟩
   ·rw [if_neg hf] at hmf
    have hgv:mget .esl true none (O.map aw)=.tup [.esl,.bool false]:=rfl
    generalize hKK:(dP 8 f).map (AV.int .i64)=KK at *
    (have zz:=aI @r1 (aI @r3 (aI @hl16 @ht)); repeat' (first|refine zW ?_|apply a_n|refine zO ?_|refine vY ?_|fail)) <;> (try clear zz)
    refine rO ev0 r0 ev0 hkf hmf ?_
    rw [hgv]
    (have zz:=aI @r1 (aI @r3 (aI @hl16 @ht)); repeat' (first|refine zW ?_|apply a_n|refine zO ?_|refine vY ?_|refine cFY ?_|fail)) <;> (try clear zz)
    refine wx ev0 r0 ev0 ev0 hkf hmf ?_
    (have zz:=and_self; repeat' (first|apply a_n|refine zO ?_|fail)) <;> (try clear zz)
    exact ⟨rfl,by omega,by rw [ag (by omega),ag (by omega)]; exact r2,ah,by rw [ag (by omega),ag (by omega)]; exact r1,O ++ [f],bs ++ [ck],ck + 1,g5.put hf hfl (by rw [ag (by omega),ah,hek]; rfl) hcnt⟩
  ·exact ⟨Nat.le_refl _,by rw [ag (by omega),ah],ah,by rw [ag (by omega),ag (by omega)]; exact h3,O,bs,ck,h4.same (by rw [ag (by omega),ag (by omega)]) fun f=>by simp⟩
  ·rintro r H' nx' ⟨g1,g2,g3,g4,O,bs,ck,g5⟩
   refine .inl ⟨g3,?_⟩
   (have zz:=and_self; repeat' (first|apply a_n|refine zO ?_|refine vY ?_|fail)) <;> (try clear zz)
   exact ⟨k + 1,by omega,⟨by omega,by omega,by rw [b0 (by omega)]; exact g4,O,bs,ck,g5.same (b0 (by omega)) fun f=>by rw [hts,tx,lr.count_eq]⟩,ag0⟩
 rintro T H nx ⟨t3,h2,h3,O,bs,ck,h4⟩
 have hO70:O.length ≤ 300000:=by
  have he:=fq hv
  have h5:O.length ≤ (bX a).length:=f8 h4.nd fun f hf=>(he.2 f).2 ((h4.odd f).1 hf)
  have:=nQ h8
  omega
 (have zz:=aI @t3 @h3; repeat' (first|refine zW ?_|apply a_n|refine zO ?_|refine vY ?_|fail)) <;> (try clear zz)
 refine wc ev0 h4.box ?_
 (have zz:=and_self; repeat' (first|refine zW ?_|apply a_n|refine zO ?_|fail)) <;> (try clear zz)
 have hbn:bs.Nodup:=List.Pairwise.imp (fun {x y} (h:x < y) e=>by omega) h4.asc
 refine bd (X:=List Nat × List Spx × AV) (fun x=>[(10,x.2.2),(40,.itr nx)]) (fun x H' nx'=>H' nx=some [.biter 0 ck x.1]∧nx < nx'∧BOk H' n (g9 a) O bs ck∧x.1.Nodup∧(∀ s ∈ x.1,s ∈ bs)∧x.2.1=x.1.map (fun s=>O.getD (bs.idxOf s) default)∧Row H' 1 x.2.2 (x.2.1.map aw)∧∀ b,cm x.2.2=some b→nx < b∧b < nx') (fun x=>bs.length - x.1.length) ([],[],.esl) ⟨ah,Nat.lt_succ_self _,h4.same (ag (by omega)) fun _=>rfl,List.nodup_nil,fun s h=>(by cases h),rfl,Row.nil,fun b h=>(by cases h)⟩ (by (iterate 2 refine And.intro rfl ?_); trivial) ?_
 rintro ⟨seen,D,sv⟩ H1 nx1 ⟨hit,hnx,k4,hsn,hsb,hD,hrow,hbd⟩
 dsimp only at hit hsn hsb hD hrow hbd ⊢
 have hsl:seen.length ≤ bs.length:=f8 hsn hsb
 have hDl:D.length=seen.length:=by rw [hD,List.length_map]
 have hbl:=k4.len
 (have zz:=and_self; repeat' (first|refine zW ?_|apply a_n|refine zO ?_|fail)) <;> (try clear zz)
 refine v5 ev0 hit k4.box (fun i s hi hns=>?_) (fun hall=>?_)
 ·(have zz:=and_self; repeat' (first|refine zW ?_|apply a_n|refine zO ?_|refine vY ?_|refine cTY ?_|fail)) <;> (try clear zz)
  refine vH (i:=i) (s:=s) ev0 ah (by rw [ag (by omega)]; exact k4.box) (by simp) hi ?_
  obtain ⟨hil,his⟩:=List.getElem?_eq_some_iff.1 hi
  have hgx:=nt (O:=O) (i:=i) (by omega)
  have hidx:bs.idxOf s=i:=by
   have h5:=List.idxOf_lt_length_iff.2 (show s ∈ bs by rw [← his]; exact List.getElem_mem hil)
   have h6:bs[bs.idxOf s]=bs[i]:=by rw [List.getElem_idxOf h5,his]
   exact (List.getElem_inj hbn).1 h6
  have hsnd:(seen ++ [s]).Nodup:=List.nodup_append.2 ⟨hsn,by simp,fun x hx y hy e=>by rw [e,List.mem_singleton.1 hy] at hx; exact hns hx⟩
  have hssb:∀ x ∈ seen ++ [s],x ∈ bs:=fun x hx=>by
   rcases List.mem_append.1 hx with q | q
   ·exact hsb x q
   ·rw [List.mem_singleton.1 q,← his]; exact List.getElem_mem hil
  have hsl2:=f8 hsnd hssb
  rw [List.length_append,List.length_singleton] at hsl2
  (have zz:=aI @hgx (aI @ay @ar); repeat' (first|apply a_n|refine zO ?_|refine vY ?_|refine blY ?_|fail)) <;> (try clear zz)
  refine fO rfl ev0 (hrow.same fun b hb=>?_) ev0 du rfl rfl Nat.one_pos (by rw [List.length_map]; omega) (by rw [List.length_map]; omega) ?_
  ·have:=hbd b hb
   rw [ag (by omega),ag (by omega)]
  rintro s2 H2 nx2 hr2 i1 i2 i3 i4
  have lo:∀ x,x ≤ nx→H2 x=ap H1 nx [.biter 0 ck (seen ++ [s])] x:=fun x hx=>(i3 x (by omega) (fun h=>by have:=hbd x h; omega)).trans (ag (by omega))
  (have zz:=and_self; repeat' (first|apply a_n|refine zO ?_|refine vY ?_|fail)) <;> (try clear zz)
  refine ⟨(seen ++ [s],D ++ [O.getD i default],s2),by dsimp only; rw [List.length_append,List.length_singleton]; omega,⟨(lo nx (Nat.le_refl _)).trans ah,by omega,k4.same ((lo 0 (by omega)).trans (ag (by omega))) fun _=>rfl,hsnd,hssb,?_,?_,fun b hb=>?_⟩,ag0⟩
  ·dsimp only
   rw [hD,List.map_append,List.map_singleton,hidx]
  ·dsimp only
   rw [List.map_append]; exact hr2
  ·rcases i4 b hb with h | h
   ·have:=hbd b h; omega
   ·omega
 ·have hperm:seen.Perm bs:=(List.perm_ext_iff_of_nodup hsn hbn).2 fun x=>⟨hsb x,hall x⟩
  have hDO:D.Perm O:=by
   rw [hD]
   refine (hperm.map _).trans (List.Perm.of_eq ?_)
   refine List.ext_getElem (by rw [List.length_map]; exact hbl) fun j g1 g2=>?_
   rw [List.length_map] at g1
   have h5:bs.idxOf bs[j]=j:=by
    have h5:=List.idxOf_lt_length_iff.2 (List.getElem_mem g1)
    have h6:bs[bs.idxOf bs[j]]=bs[j]:=List.getElem_idxOf h5
    exact (List.getElem_inj hbn).1 h6
   rw [List.getElem_map,h5]
   simp [List.getD,g2]
  have hDn:D.Nodup:=hDO.nodup_iff.2 k4.nd
  have hDm:∀ s,s ∈ D ↔ s ∈ bX a:=fun s=>by rw [hDO.mem_iff,k4.odd,(fq hv).2]
  have hfin:=vM ia (tE hv)
  have hsort:Abs.Fn Try.prog 73 [sv,.func 40 []] H1 nx1 fun _ H' nx'=>Row H' 1 sv ((bX a).map aw):=by
   generalize hcs:D.map aw=cs at hrow
   cases hrow with
   | nil =>
    have hD0:D=[]:=List.map_eq_nil_iff.1 hcs
    refine Abs.Fn.mono (iP rfl) ?_
    rintro _ _ _ ⟨rfl,rfl⟩
    have:bX a=[]:=by
     rw [List.eq_nil_iff_forall_not_mem]
     intro s h
     have:=(hDm s).2 h
     rw [hD0] at this; cases this
    rw [this]; exact Row.nil
   | box b len cs k1 k2 =>
    obtain rfl:len=D.length:=by rw [← hcs,List.length_map] at k2; omega
    have hb:=hbd b rfl
    subst hcs
    by_cases h0:D.length=0
    ·have hD0:D=[]:=List.length_eq_zero_iff.1 h0
     have he:bX a=[]:=by
      rw [List.eq_nil_iff_forall_not_mem]
      intro s h
      have:=(hDm s).2 h
      rw [hD0] at this; cases this
     have hrw:Row H1 1 (.msl b (D.length * 1) 1 0 D.length) ((bX a).map aw):=by
      have:=Row.box (H:=H1) (sz:=1) b D.length _ k1 (by rw [List.length_map,Nat.mul_one])
      rw [he]; rwa [hD0] at this ⊢
     refine Abs.Fn.mono (iP (by rw [h0]; rfl)) ?_
     rintro _ _ _ ⟨_,e⟩
     rw [e]; exact hrw
    ·have hg:∀ s ∈ D,Shn s:=fun s h=>show s.length ≤ _ by have:=k4.all s (hDO.mem_iff.1 h); omega
     have hsf:=rM yb (L:=D) (b:=b) (nx:=nx1) (n:=D.length) k1 hb.2 rfl (by omega) hg (by omega)
     rw [Nat.mul_one]
     refine Abs.Fn.mono hsf ?_
     rintro _ H' nx' ⟨L',ps,p1,p2⟩
     have hlen:=p1.length_eq
     have:=kd p1 (by rw [hlen]; exact p2) hDn hDm
     rw [hfin] at this
     rw [← this,← hlen]
     have:=Row.box (H:=H') (sz:=1) b L'.length (L'.map aw) ps.at_ (by simp)
     rwa [Nat.mul_one] at this
  (have zz:=and_self; repeat' (first|refine zW ?_|apply a_n|apply a_x|refine zO ?_|refine vY ?_|refine cFY ?_|fail)) <;> (try clear zz)
  refine aR ev0 ev0 hsort ?_
  rintro r H' nx' hr
  (have zz:=and_self; repeat' (first|refine zW ?_|apply a_n|refine zO ?_|refine vY ?_|refine aj rfl ?_|refine r1Y ?_|fail)) <;> (try clear zz)
  exact fm hr
end Go.Proofs.Ytfcenbapjhecfaa
namespace Go.Proofs.Ytfcenbapjhecfaa
open Go Go.Abs
theorem sM {s f:Spx} (hs:bc s=0) (hf:f ∈ bC s):bc f=0:=by
 obtain ⟨h1,h2,h3⟩:=lJ.1 hf
 obtain ⟨p1,p2,p3,p4⟩:=cw hs
 exact pI ⟨by omega,by omega⟩ (p3.sublist h2) fun v hv=>p4 v (h2.subset hv)
theorem sL {a:List Spx} (ha:∀ s ∈ a,bc s=0):∀ f ∈ bX a,bc f=0:=fun f hf=>by
 obtain ⟨s,h1,h2⟩:=rh (py ha) hf
 exact sM (ha s h1) h2
theorem uA {a:List Spx} (h:∀ s ∈ a,bc s=0):∀ s ∈ a,s.length ≤ 8:=fun s hs=>(cw (h s hs)).2.1
def mz (a:List Spx):List Spx × Int:=if bR a ≠ 0 then ([],bR a) else if 4096 < (bX a).length then ([],5) else (bX a,0)
def wu (a:List Spx):Bool × Int:=if bR a ≠ 0 then (false,bR a) else (decide (bX a=[]),0)
attribute [local irreducible] aC ai aV aN aG aJ aA aK aP bb Go.Abs.Fn aM Go.Abs.Pure av aF Yl
theorem mW {a:List Spx} (h:bR a=0):Pure Try.prog 46 [aq a] (aq (bX a)):=by
 obtain ⟨h1,h2,h3,h4⟩:=eE h
 by_cases h0:a=[]
 ·subst h0
  exact kW [] 0 (by omega) (by simp) (by simp) (by simp) (by simp)
 ·have hm:a.getD 0 default ∈ a:=aZ (List.length_pos_iff.2 h0)
  have h5:=cw (h2 _ hm)
  exact kW a ((a.getD 0 default).length - 1) (by omega) h1 (py h2) (fun s hs=>.inl (by rw [h4 s hs]; omega)) (uA h2)
theorem qg {a:List Spx} (h:bR a=0):Shn (bX a)∧∀ s ∈ bX a,s.length ≤ 1000000:=by
 obtain ⟨h1,h2,h3,h4⟩:=eE h
 have:=nQ (uA h2)
 exact ⟨show _ ≤ _ by omega,qm (sL h2)⟩
theorem rX (a:List Spx) (ha:ShC a):Pure Try.prog 17 [aq a] (.tup [aq (mz a).1,.int .i64 (mz a).2]):=by
 refine Pure.of_c2 follows z8 (Nat.le_of_ble_eq_true rfl) ?_
 simp only [b17,cO,cG,cN,cM,cD,cF,cB,aE,aS]
 have f1:=gg a ha
 unfold mz
 by_cases h:bR a=0
 rotate_left
 ·have z:decide (bR a ≠ 0)=true:=decide_eq_true h
  rw [if_pos h]
  (have zz:=@z; repeat' (first|refine zW ?_|apply a_n|apply a_r|refine zO ?_|refine vY ?_|refine cY ?_ (hp:=f1) (hs:=by (first | refine ab ?_ rfl | apply ac); (repeat' (first | exact aa | apply an | apply ae | exact ax _)); first | done | fail)|refine cTY ?_|refine aj rfl ?_|refine r2Y ?_|fail)) <;> (try clear zz)
  exact bw (.eslsl _) rfl
 rw [if_neg (fun q=>q h)]
 have f2:=mW h
 have f3:=nA (bX a) (qg h).1 (qg h).2
 have z:decide ((0:Int) ≠ 0)=false:=rfl
 rw [h] at f1
 have hfin:(if 4096 < (bX a).length then (([]:List Spx),(5:Int)) else (bX a,0))=(if 4096 < (bX a).length then [] else bX a,if 4096 < (bX a).length then 5 else 0):=by
  split <;> rfl
 rw [hfin]
 (have zz:=@z; repeat' (first|refine zW ?_|apply a_n|refine zO ?_|refine vY ?_|refine cY ?_ (hp:=by first | exact f1 | exact f2 | exact f3) (hs:=by (first | refine ab ?_ rfl | apply ac); (repeat' (first | exact aa | apply an | apply ae | exact ax _)); first | done | fail)|refine cFY ?_|refine aj rfl ?_|refine r2Y ?_|fail)) <;> (try clear zz)
 exact bw (ax _).snap rfl
theorem yg (a:List Spx) (ha:ShC a):Pure Try.prog 19 [aq a] (.tup [.bool (wu a).1,.int .i64 (wu a).2]):=by
 refine Pure.of_c2 follows zU (Nat.le_of_ble_eq_true rfl) ?_
 simp only [b19,cO,cG,cN,cM,cD,cF,cB,aE,aS]
 have f1:=gg a ha
 unfold wu
 by_cases h:bR a=0
 rotate_left
 ·have z:decide (bR a ≠ 0)=true:=decide_eq_true h
  rw [if_pos h]
  (have zz:=@z; repeat' (first|refine zW ?_|apply a_n|apply a_r|refine zO ?_|refine vY ?_|refine cY ?_ (hp:=f1) (hs:=by (first | refine ab ?_ rfl | apply ac); (repeat' (first | exact aa | apply an | apply ae | exact ax _)); first | done | fail)|refine cTY ?_|refine aj rfl ?_|refine r2Y ?_|fail)) <;> (try clear zz)
  exact uH rfl rfl
 rw [if_neg (fun q=>q h)]
 have f2:=mW h
 have z:decide ((0:Int) ≠ 0)=false:=rfl
 have z2:decide ((((bX a).length:Nat):Int)=0)=decide (bX a=[]):=decide_eq_decide.2 (by rw [← List.length_eq_zero_iff]; omega)
 rw [h] at f1
 (have zz:=aI @z (aI @z2 @af); repeat' (first|refine zW ?_|apply a_n|refine zO ?_|refine vY ?_|refine cY ?_ (hp:=by first | exact f1 | exact f2) (hs:=by (first | refine ab ?_ rfl | apply ac); (repeat' (first | exact aa | apply an | apply ae | exact ax _)); first | done | fail)|refine cFY ?_|refine aj rfl ?_|refine r2Y ?_|fail)) <;> (try clear zz)
 exact uH rfl rfl
end Go.Proofs.Ytfcenbapjhecfaa
namespace Go.Proofs.Ytfcenbapjhecfaa
open Go Go.Abs
def on3 (b1:Nat) (c1:List AV) (b2:Nat) (c2:List AV) (b3:Nat) (c3:List AV):Hp:=fun x=>if x=b1 then some c1 else if x=b2 then some c2 else if x=b3 then some c3 else none
theorem xV {P:Program} {T:Tm} {H:Hp} {nx:Nat} (b1 b2 b3:Nat) {c1 c2 c3:List AV} {K:CP} {m:Nat} {l:List Op2} {C:List (Nat × Nat)} (h1:H b1=some c1) (h2:H b2=some c2) (h3:H b3=some c3) (n1:b2 ≠ b1) (n2:b3 ≠ b1) (n3:b3 ≠ b2) (k:∀ S:Hp,S b1=some c1→S b2=some c2→S b3=some c3→(∀ H':Hp,H' b1=some c1→H' b2=some c2→H' b3=some c3→Sub S H')→a6 P S (C.map fun k=>(l.getD k.1 ⟨none,none,.dead⟩,k.2)) T H nx fun T H nx=>K .normal T H nx):aC P (.mixS m l C) T H nx K:=by
 have hsub:∀ H':Hp,H' b1=some c1→H' b2=some c2→H' b3=some c3→Sub (on3 b1 c1 b2 c2 b3 c3) H':=fun H' a b c x cs h=>by
  unfold on3 at h
  split at h
  ·rename_i e; rw [e,a]; exact h
  split at h
  ·rename_i e; rw [e,b]; exact h
  split at h
  ·rename_i e; rw [e,c]; exact h
  ·cases h
 refine qX (on3 b1 c1 b2 c2 b3 c3) rfl (hsub H h1 h2 h3) (k _ ?_ ?_ ?_ hsub)
 ·unfold on3; rw [if_pos rfl]
 ·unfold on3; rw [if_neg n1,if_pos rfl]
 ·unfold on3; rw [if_neg n2,if_neg n3,if_pos rfl]
theorem rk {α:Type} {p q:Prop} [Decidable p] [Decidable q] (h:p ↔ q) {a b:α}:(if p then a else b)=if q then a else b:=by
 by_cases hq:q
 ·rw [if_pos hq,if_pos (h.2 hq)]
 ·rw [if_neg hq,if_neg fun x=>hq (h.1 x)]
def tY (c:List Spx) (d:Int):List Spx × Int:=if d < 0 then ([],0) else dI c (d + 1)
def dA (c:List Spx) (d:Int):List Spx:=if d ≤ 0 then [] else ir c d.toNat
def ng (c:List Spx) (d:Int):(Int × List (List Int)) × Int:=if bk c ≠ 0 then ((0,[]),bk c) else if d < 0 ∨ 8 ≤ d then ((0,[]),2) else ((((dA c (d + 1)).length:Nat),yO (dA c (d + 1)) (dA c d)),0)
theorem wv {c:List Spx} {d:Int} (hc:bk c=0) (h1:-1 ≤ d) (h2:d < 8):tY c d=(dA c (d + 1),0):=by
 unfold tY dA dI
 by_cases h:d < 0
 ·rw [if_pos h,if_pos (by omega)]
 ·rw [if_neg h,if_neg (fun q=>q hc),if_neg (by omega),if_neg (by omega)]
theorem nF {c:List Spx} {d:Int}:bm aO (dA c d):=by
 unfold dA; split
 ·exact bm.nil
 ·exact uw
theorem jz {c:List Spx} {d:Int} (hc:c.length ≤ 50) (h:bk c=0):(dA c d).length ≤ 3500:=by
 unfold dA; split
 ·exact Nat.zero_le _
 ·exact tW hc (uA (gQ h).2.1)
theorem sI {c:List Spx} {d:Int} {s:Spx}:s ∈ dA c d ↔ 0 < d∧s.length=d.toNat∧∃ t ∈ c,s.Sublist t:=by
 unfold dA; split
 ·exact ⟨fun h=>(by cases h),fun h=>absurd h.1 (by omega)⟩
 ·rw [t6]
  constructor
  ·rintro ⟨t,t1,t2⟩
   exact ⟨by omega,(c6.1 t2).2,t,t1,(c6.1 t2).1⟩
  ·rintro ⟨_,h1,t,t1,t2⟩
   exact ⟨t,t1,c6.2 ⟨t2,h1⟩⟩
theorem ik {c:List Spx} {d:Int} (h:bk c=0):∀ s ∈ dA c d,bc s=0:=fun s hs=>by
 obtain ⟨h1,h2,t,t1,t2⟩:=sI.1 hs
 obtain ⟨p1,p2,p3,p4⟩:=cw ((gQ h).2.1 t t1)
 have:=t2.length_le
 exact pI ⟨by omega,by omega⟩ (p3.sublist t2) fun v hv=>p4 v (t2.subset hv)
attribute [local irreducible] aC ai aV aN aG aJ aA aK aP bb Go.Abs.Fn aM Go.Abs.Pure av aF Yl
theorem pV (l:List Spx) (v:Spx) (hl:Shn l) (hs:∀ c ∈ l,Shn c) (hv:Shn v) (ha:bm aO l):∃ b:Nat,Pure Try.prog 52 [aq l,aw v] (.tup [.int .i64 b,.bool (decide (v ∈ l))])∧(v ∈ l→b < l.length∧l.getD b default=v):=by
 obtain ⟨b,hb,h1,h2⟩:=l5 (fun i=>aO (l.getD i default) v) l.length (fun i j hij hj h=>ia.trans (dz ha hij hj) h)
 have hc:=qM l v hl hs hv hb h1 h2
 have he:(decide (b < l.length) && decide (aO (l.getD b default) v=0))=decide (v ∈ l)∧(v ∈ l→b < l.length∧l.getD b default=v):=by
  by_cases hm:v ∈ l
  ·obtain ⟨i,hi,e⟩:=List.getElem_of_mem hm
   have e':l.getD i default=v:=by simp [List.getD,hi,e]
   have hbi:b=i:=by
    rcases Nat.lt_trichotomy b i with h | h | h
    ·have h3:=h2 b (Nat.le_refl _) (by omega)
     have h4:=dz ha h hi
     rw [e'] at h4; omega
    ·exact h
    ·have h3:=h1 i h
     rw [e',dG] at h3; omega
   subst hbi
   rw [decide_eq_true hi,decide_eq_true hm,e',decide_eq_true (dG v)]
   exact ⟨rfl,fun _=>⟨hi,rfl⟩⟩
  ·rw [decide_eq_false hm]
   refine ⟨?_,fun h=>absurd h hm⟩
   by_cases hlt:b < l.length
   ·rw [decide_eq_true hlt,Bool.true_and,decide_eq_false]
    intro h
    exact hm (by rw [← kJ h]; exact aZ hlt)
   ·rw [decide_eq_false hlt,Bool.false_and]
 rw [he.1] at hc
 refine ⟨b,?_,he.2⟩
 refine Pure.of_c2 follows AC (Nat.le_of_ble_eq_true rfl) ?_
 simp only [b52,cO,cG,cN,cM,cD,cF,cB,aE,aS]
 (have zz:=aI @ay (aI @ar (aI @au @am)); repeat' (first|refine zW ?_|apply a_n|refine zO ?_|refine vZ ?_|refine cZ ?_ (hp:=hc) (hs:=by (first | refine ab ?_ rfl | apply ac); (repeat' (first | exact aa | apply an | apply ae | exact ax _ | exact az _ | exact Dat.func DatL.nil)); first | done | fail)|refine aj rfl ?_|refine r2Z ?_|fail)) <;> (try clear zz)
 exact eD (ak (.int _ _) (ak (.bool _) aa))
theorem wF (c:List Spx) (d:Int) (hd:d ≤ 1000) (hc:c.length ≤ 50) (hs:∀ s ∈ c,Shn s):Pure Try.prog 50 [gN c,.int .i64 d] (.tup [aq (tY c d).1,.int .i64 (tY c d).2]):=by
 refine Pure.of_c2 follows z7 (Nat.le_of_ble_eq_true rfl) ?_
 simp only [b50,cO,cG,cN,cM,cD,cF,cB,aE,aS]
 unfold tY
 by_cases h:d < 0
 ·have z:decide (d < 0)=true:=decide_eq_true h
  rw [if_pos h]
  (have zz:=aI @z (aI @au @am); repeat' (first|refine zW ?_|apply a_n|apply a_r|refine zO ?_|refine vY ?_|refine bxY ?_|refine cTY ?_|refine aj rfl ?_|refine r2Y ?_|fail)) <;> (try clear zz)
  exact bw (.eslsl _) rfl
 ·have z:decide (d < 0)=false:=decide_eq_false h
  rw [if_neg h]
  have hS:=iI c (d + 1) hc hs
  (have zz:=aI @z (aI @au @am); repeat' (first|refine zW ?_|apply a_n|refine zO ?_|refine vY ?_|refine cY ?_ (hp:=hS) (hs:=by (first | refine ab ?_ rfl | apply ac); (repeat' (first | exact aa | apply an | apply ae | exact bG _)); first | done | fail)|refine bxY ?_|refine cFY ?_|refine aj rfl ?_|refine r2Y ?_|fail)) <;> (try clear zz)
  exact bw (ax _).snap rfl
set_option maxHeartbeats 2000000 in
theorem vv (c:List Spx) (d:Int) (hc:c.length ≤ 50) (hs:∀ s ∈ c,Shn s):Pure Try.prog 22 [gN c,.int .i64 d] (.tup [jH (ng c d).1.1 (ng c d).1.2,.int .i64 (ng c d).2]):=by
 refine Pure.of_c2 follows Ac (Nat.le_of_ble_eq_true rfl) ?_
 simp only [b22,cO,cG,cN,cM,cD,cF,cB,aE,aS]
 have hcc:=ms c (show _ ≤ _ by omega) hs
 unfold ng
 by_cases he:bk c=0
 rotate_left
 ·rw [if_pos he]
  have z:decide (bk c ≠ 0)=true:=decide_eq_true he
  (have zz:=aI @au (aI @am @z); repeat' (first|refine zW ?_|apply a_n|apply a_r|refine zO ?_|refine vY ?_|refine cY ?_ (hp:=hcc) (hs:=by (first | refine ab ?_ rfl | apply ac); (repeat' (first | exact aa | apply an | apply ae | exact bG _)); first | done | fail)|refine alY ?_|refine bxY ?_|refine stY ?_|refine cTY ?_|refine aj rfl ?_|refine r2Y ?_|fail)) <;> (try clear zz)
  exact oU (.eslsl _) rfl
 rw [if_neg (fun h=>h he)]
 rw [he] at hcc
 have z0:decide ((0:Int) ≠ 0)=false:=rfl
 by_cases hd:d < 0 ∨ 8 ≤ d
 ·rw [if_pos hd]
  (have zz:=aI @au (aI @am @z0); repeat' (first|refine zW ?_|apply a_n|apply a_r|refine zO ?_|refine vY ?_|refine cY ?_ (hp:=hcc) (hs:=by (first | refine ab ?_ rfl | apply ac); (repeat' (first | exact aa | apply an | apply ae | exact bG _)); first | done | fail)|refine alY ?_|refine bxY ?_|refine stY ?_|refine gTY ?_|refine gFY ?_|refine cTY ?_|refine cFY ?_|(refine zGY ?_ ?_ <;> (intro _hg; try (exfalso; omega)))|refine aj rfl ?_|refine r2Y ?_|fail)) <;> (try clear zz)
  all_goals first | exact oU (.eslsl _) rfl | (exfalso; omega)
 rw [if_neg hd]
 have hX:=wF c d (by omega) hc hs
 have hY:=wF c (d - 1) (by omega) hc hs
 rw [wv he (by omega) (by omega)] at hX hY
 rw [show d - 1 + 1=d by omega] at hY
 have hXl:=jz (d:=d + 1) hc he
 have hYl:=jz (d:=d) hc he
 have hXm:=ik (d:=d + 1) he
 have hYm:=iw (ik (d:=d) he)
 have hYa:=nF (c:=c) (d:=d)
 generalize dA c (d + 1)=X at *
 generalize dA c d=Y at *
 have z1:decide (d < 0)=false:=decide_eq_false (by omega)
 have z2:decide (8 ≤ d)=false:=decide_eq_false (by omega)
 have hzc:aY (AV.agg [AV.esl]) Y.length=List.replicate Y.length .esl:=by simp [aY,AV.cells]
 (have zz:=aI @au (aI @am (aI @af (aI @z0 (aI @z1 @z2)))); repeat' (first|refine zW ?_|apply a_n|refine zO ?_|refine vY ?_|refine cY ?_ (hp:=by first | exact hcc | exact hX | exact hY) (hs:=by (first | refine ab ?_ rfl | apply ac); (repeat' (first | exact aa | apply an | apply ae | exact bG _)); first | done | fail)|refine alY ?_|refine bxY ?_|refine stY ?_|refine gTY ?_|refine cFY ?_|fail)) <;> (try clear zz)
 refine wD (k1:=.i64) (k2:=.i64) (n:=Y.length) (m:=Y.length) rfl ev0 ev0 (by omega) (Int.le_refl _) (by omega) (by omega) ?_
 rw [Int.toNat_natCast,hzc,Nat.mul_one]
 (have zz:=@af; repeat' (first|refine zW ?_|apply a_n|refine zO ?_|refine vY ?_|refine alY ?_|refine stY ?_|fail)) <;> (try clear zz)
 refine bd (X:=Nat × List AV) (fun x=>[(4,.ptr 1 2 0),(9,.ptr 2 1 0),(10,.ptr 4 2 0),(56,aq X),(57,.int .i64 X.length),(58,.int .i64 x.1)]) (fun x H' nx'=>x.1 ≤ X.length∧5 ≤ nx'∧H' 1=some [.int .i64 0,.esl]∧H' 2=some [aq Y]∧H' 4=some [.int .i64 X.length,.msl 3 Y.length 1 0 Y.length]∧MatOk H' 3 5 nx' Y.length (gA X Y x.1) x.2) (fun x=>X.length - x.1) (0,List.replicate Y.length .esl) ⟨Nat.zero_le _,Nat.le_refl _,by (repeat rw [ag (by omega)]); rw [ah],by (repeat rw [ag (by omega)]); rw [ah]; rfl,by rw [ah]; rfl,MatOk.new (by (repeat rw [ag (by omega)]); rw [ah]) (fun j _=>rfl)⟩ (by (iterate 6 refine And.intro rfl ?_); trivial) ?_
 rintro ⟨k,vs⟩ H nx ⟨h1,h2,g1,g2,g4,hmat⟩
 dsimp only at h1 h2 g1 g2 g4 hmat ⊢
 by_cases hk:k < X.length
 rotate_left
 ·obtain rfl:k=X.length:=by omega
  have hst:Snap (ap H 1 [.int .i64 X.length,.msl 3 Y.length 1 0 Y.length]) (.msl 3 Y.length 1 0 Y.length) (cA (yO X Y)):=(hmat.same (hi':=nx) (G:=gA X Y X.length) (ag (by omega)) (fun x x1 x2 x3=>ag (by omega)) (Nat.le_refl _) (fun j _=>rfl)).snap
  (have zz:=aI @g4 @g1; repeat' (first|refine zW ?_|apply a_n|apply a_x|refine zO ?_|refine vY ?_|refine stY ?_|(refine zGY ?_ ?_ <;> (intro _hg; try (exfalso; omega)))|refine aj rfl ?_|refine r2Y ?_|fail)) <;> (try clear zz)
  exact oU hst rfl
 have ix:=dD hk
 have hsim:=hXm _ (aZ hk)
 have hF:∀ i,gA X Y (k + 1) i=gA X Y k i ++ if Y.getD i default ∈ bC (X.getD k default) then [k] else []:=fun i=>sW
 generalize X.getD k default=s at *
 obtain ⟨p1,p2,p3,p4⟩:=cw hsim
 (have zz:=@ix; repeat' (first|refine zW ?_|apply a_n|refine zO ?_|refine vY ?_|refine alY ?_|refine stY ?_|(refine zGY ?_ ?_ <;> (intro _hg; try (exfalso; omega)))|fail)) <;> (try clear zz)
 refine aR ev0 ev0 (nr s _ _) ?_
 rintro _ H1 nx1 ⟨rfl,rfl,rfl⟩
 (have zz:=and_self; repeat' (first|refine zW ?_|apply a_n|refine zO ?_|fail)) <;> (try clear zz)
 refine js (nx + 2) (nx + 3) rfl rfl ev0 (fun c0 cj hy=>?_)
 refine Abs.Fn.mono (nb (nx:=nx + 3) (y:=nx + 2) (sb:=nx + 1) (s:=s) (by omega) (fun D H' nx'=>nx + 3 ≤ nx'∧H' (nx + 1)=some [aw s]∧H' (nx + 2)=some [c0]∧H' nx=some [.int .i64 (k:Int)]∧H' 1=some [.int .i64 0,.esl]∧H' 2=some [aq Y]∧H' 4=some [.int .i64 X.length,.msl 3 Y.length 1 0 Y.length]∧∃ vs,MatOk H' 3 5 nx' Y.length (fun i=>gA X Y k i ++ if Y.getD i default ∈ D then [k] else []) vs∧∀ j B,j < Y.length→cm (vs.getD j .undef)=some B→B < nx ∨ nx + 3 ≤ B) ?_ ?_ ?_ ?_) ?_
 ·rintro D H' nx' ⟨j1,j2,_⟩
  exact j2
 ·rintro D H' H'' n1 n2 ⟨j1,j2,j3,j4,j5,j6,j7,vs,j8,j9⟩ hle hsm
  exact ⟨by omega,(hsm _ (by omega)).trans j2,(hsm _ (by omega)).trans j3,(hsm _ (by omega)).trans j4,(hsm _ (by omega)).trans j5,(hsm _ (by omega)).trans j6,(hsm _ (by omega)).trans j7,vs,j8.same (hsm _ (by omega)) (fun x x1 x2 x3=>hsm x x2) hle (fun _ _=>rfl),j9⟩
 ·rintro D f H' nx' ⟨j1,j2,j3,j4,j5,j6,j7,vs,j8,j9⟩ hlt hfe hDe
  refine hy _ _ _ _ j3 rfl ?_
  clear hy
  have hfm:f ∈ fcs s:=by rw [hfe]; exact aZ hlt
  have hfD:f ∉ D:=fun h=>by
   rw [hDe] at h
   have hnd:=tJ p3
   have e:=cL hlt
   have h5:=(List.nodup_append.1 (by rw [← e]; exact hnd.sublist (List.take_sublist _ _):((fcs s).take D.length ++ [(fcs s).getD D.length default]).Nodup)).2.2 _ h _ (List.mem_singleton.2 rfl)
   exact h5 hfe
  have hfs:=lJ.1 (sg.1 hfm)
  have hfn:Shn f:=by show _ ≤ _; omega
  clear hfe hDe hlt hfm
  (have zz:=and_self; repeat' (first|apply a_n|refine zO ?_|refine vY ?_|fail)) <;> (try clear zz)
  refine ⟨j3,?_⟩
  have hd:∀ x,x ≠ nx + 2→bQ H' (nx + 2) x=H' x:=fun x hx=>b0 hx
  generalize bQ H' (nx + 2)=H2 at *
  have q2:=(hd 2 (by omega)).trans j6
  have q3:=(hd 3 (by omega)).trans j8.box
  have q4:=(hd 4 (by omega)).trans j7
  have qk:=(hd nx (by omega)).trans j4
  obtain ⟨p,hpl,hpm⟩:=pV Y f (show _ ≤ _ by omega) hYm hfn hYa
  by_cases hin:f ∈ Y
  rotate_left
  ·rw [decide_eq_false hin] at hpl
   (have zz:=aI @q2 (aI @au @am); repeat' (first|refine zW ?_|apply a_n|refine zO ?_|refine vY ?_|refine cY ?_ (hp:=hpl) (hs:=by (first | refine ab ?_ rfl | apply ac); (repeat' (first | exact aa | apply an | apply ae | exact ax _ | exact az _)); first | done | fail)|refine cFY ?_|fail)) <;> (try clear zz)
   refine ⟨rfl,j1,(ag (by omega)).trans ((hd _ (by omega)).trans j2),ah,(ag (by omega)).trans qk,(ag (by omega)).trans ((hd _ (by omega)).trans j5),(ag (by omega)).trans q2,(ag (by omega)).trans q4,vs,j8.same ((ag (by omega)).trans (hd _ (by omega))) (fun x x1 x2 x3=>?_) (Nat.le_refl _) (fun j hj=>?_),j9⟩
   ·by_cases e:x=nx + 2
    ·rw [e,ah,j3]
    ·rw [ag e,hd x e]
   ·have hne:Y.getD j default ≠ f:=fun e=>hin (by rw [← e]; exact aZ hj)
    congr 1
    exact rk (by rw [List.mem_append,List.mem_singleton]; exact ⟨fun h=>h.resolve_right hne,.inl⟩)
  rw [decide_eq_true hin] at hpl
  obtain ⟨pl1,pl2⟩:=hpm hin
  have hFD:gA X Y k p ++ (if Y.getD p default ∈ D then [k] else [])=gA X Y k p:=by rw [pl2,if_neg hfD,List.append_nil]
  have hrow:Row H2 1 (vs.getD p .undef) ((gA X Y k p).map qK):=by
   have:=j8.row p pl1
   rw [hFD] at this
   exact this.same fun b hb=>hd b (by have:=j9 p b pl1 hb; omega)
  have hvs:vs[p]?=some (vs.getD p .undef):=by
   have:=j8.len
   simp [List.getD,show p < vs.length by omega]
  have hlen:=j8.len
  have hb3:∀ b,cm (vs.getD p .undef)=some b→5 ≤ b∧b < nx'∧b ≠ 3∧(b < nx ∨ nx + 3 ≤ b):=fun b hb=>by
   have h5:=j8.bnd p b pl1 hb
   have h6:=j9 p b pl1 hb
   exact ⟨h5.1,h5.2.1,h5.2.2,h6⟩
  generalize hrv:vs.getD p .undef=rv at *
  (have zz:=aI @q2 (aI @au @am); repeat' (first|refine zW ?_|apply a_n|refine zO ?_|refine vY ?_|refine cY ?_ (hp:=hpl) (hs:=by (first | refine ab ?_ rfl | apply ac); (repeat' (first | exact aa | apply an | apply ae | exact ax _ | exact az _)); first | done | fail)|refine cTY ?_|fail)) <;> (try clear zz)
  refine xV 4 3 nx q4 q3 qk (by omega) (by omega) (by omega) fun S0 hS1 hS2 hS3 hsub=>?_
  have hFl:=ub (X:=X) (Y:=Y) (n:=k) (i:=p)
  (have zz:=aI @hS1 (aI @hS2 (aI @hS3 (aI @hvs @hlen))); repeat' (first|apply a_n|refine zO ?_|refine nvY ?_|fail)) <;> (try clear zz)
  refine gW ?_
  (have zz:=and_self; repeat' (first|apply a_n|refine zO ?_|refine blY ?_|fail)) <;> (try clear zz)
  refine ⟨hsub _ (by rw [ag (by omega)]; exact q4) (by rw [ag (by omega)]; exact q3) (by rw [ag (by omega)]; exact qk),?_⟩
  refine gW ?_
  refine fO rfl ev0 (hrow.same fun b hb=>?_) ev0 du rfl rfl Nat.one_pos (by rw [List.length_map]; omega) (by rw [List.length_map]; omega) ?_
  ·have:=hb3 b hb; rw [ag (by omega)]
  rintro s2 H4 nx4 hr2 i1 i2 i3 i4
  have lo:∀ x,x < nx'→cm rv ≠ some x→H4 x=H2 x:=fun x x1 x2=>(i3 x (by omega) x2).trans (ag (by omega))
  have l3:H4 3=H2 3:=lo 3 (by omega) (fun h=>by have:=hb3 _ h; omega)
  have l4:H4 4=H2 4:=lo 4 (by omega) (fun h=>by have:=hb3 _ h; omega)
  have lk:H4 nx=H2 nx:=lo nx (by omega) (fun h=>by have:=hb3 _ h; omega)
  have lo2:∀ x,x < nx + 3→5 ≤ x→nx ≤ x→H4 x=H2 x:=fun x x1 x2 x3=>lo x (by omega) (fun h=>by have:=hb3 _ h; omega)
  have lo5:∀ x,x < 5→H4 x=H2 x:=fun x x1=>lo x (by omega) (fun h=>by have:=hb3 _ h; omega)
  obtain ⟨o1,o2⟩:=hr2.one
  have m3:=l3.trans q3
  refine nw ⟨hsub _ (l4.trans q4) m3 (lk.trans qk),?_⟩
  have hlp:bi vs p [s2]=vs.set p s2:=by
   simp only [bi,List.length_cons,List.length_nil,Nat.zero_add]
   rw [List.set_eq_take_append_cons_drop,if_pos (by omega)]; simp
  (have zz:=aI @m3 (aI @o1 (aI @o2 (aI @hlen @hlp))); repeat' (first|apply a_n|refine zO ?_|refine nvY ?_|apply jK|refine stY ?_|fail)) <;> (try clear zz)
  have hB2:∀ b,cm s2=some b→(cm rv=some b ∨ nx' ≤ b)∧b < nx4:=fun b hb=>by
   rcases i4 b hb with h | h
   ·exact ⟨.inl h,by have:=hb3 b h; omega⟩
   ·exact ⟨.inr (by omega),by omega⟩
  have hwd:∀ x,x ≠ 3→x ≠ nx + 2→ap (ap H4 3 (vs.set p s2)) (nx + 2) [c0] x=H4 x:=fun x x1 x2=>by rw [ag x2,ag x1]
  rw [hlp]
  refine ⟨rfl,by omega,?_,ah,?_,?_,?_,?_,vs.set p s2,?_,?_⟩
  ·rw [hwd _ (by omega) (by omega),lo2 _ (by omega) (by omega) (by omega),hd _ (by omega)]; exact j2
  ·rw [hwd _ (by omega) (by omega),lk]; exact qk
  ·rw [hwd _ (by omega) (by omega),lo5 _ (by omega),hd _ (by omega)]; exact j5
  ·rw [hwd _ (by omega) (by omega),lo5 _ (by omega)]; exact q2
  ·rw [hwd _ (by omega) (by omega),l4]; exact q4
  ·refine j8.put (sv:=s2) (x:=k) (i:=p) pl1 (fun j hj=>?_) ?_ (fun b hb=>?_) (by rw [ag (by omega),ah]) (fun x x1 x2 x3 x4=>?_) (by omega) (by omega)
   ·by_cases e:j=p
    ·subst e
     rw [if_pos rfl,pl2,if_neg hfD,if_pos (List.mem_append_right _ (List.mem_singleton.2 rfl)),List.append_nil]
    ·rw [if_neg e]
     have hne:Y.getD j default ≠ f:=fun h=>e (by
      rcases Nat.lt_trichotomy j p with h' | h' | h'
      ·have:=dz hYa h' pl1
       rw [h,pl2,dG] at this; omega
      ·exact h'
      ·have:=dz hYa h' hj
       rw [h,pl2,dG] at this; omega)
     congr 1
     exact rk (by rw [List.mem_append,List.mem_singleton]; exact ⟨fun h=>h.resolve_right hne,.inl⟩)
   ·rw [hFD,List.map_append]
    refine hr2.same fun b hb=>hwd b ?_ ?_
    ·have:=hB2 b hb
     rcases this.1 with h | h
     ·have:=hb3 b h; omega
     ·omega
    ·have:=hB2 b hb
     rcases this.1 with h | h
     ·have:=hb3 b h; omega
     ·omega
   ·rw [hrv]
    have:=hB2 b hb
    rcases this.1 with h | h
    ·exact .inl h
    ·exact .inr ⟨h,this.2,by omega⟩
   ·rw [hrv] at x4
    by_cases e:x=nx + 2
    ·rw [e,ah,j3]
    ·rw [hwd x x3 e,lo x x2 x4,hd x e]
  ·intro j B hj hB
   rw [jG (by omega)] at hB
   by_cases e:p=j
   ·rw [if_pos e] at hB
    have:=hB2 B hB
    rcases this.1 with h | h
    ·have:=hb3 B h; omega
    ·omega
   ·rw [if_neg e] at hB
    exact j9 j B hj hB
 ·have hlk:bi [AV.int .i64 0] 0 [.int .i64 (k:Int)]=[.int .i64 (k:Int)]:=rfl
  have hw:∀ x,x ≠ nx→x ≠ nx + 1→x ≠ nx + 2→ap (ap (ap (ap H nx [.int .i64 0]) nx (bi [.int .i64 0] 0 [.int .i64 (k:Int)])) (nx + 1) [aw s]) (nx + 2) [c0] x=H x:=fun x x1 x2 x3=>by rw [ag x3,ag x2,ag x1,ag x1]
  refine ⟨Nat.le_refl _,by rw [ag (by omega),ah],ah,by rw [ag (by omega),ag (by omega),ah]; rfl,(hw _ (by omega) (by omega) (by omega)).trans g1,(hw _ (by omega) (by omega) (by omega)).trans g2,(hw _ (by omega) (by omega) (by omega)).trans g4,vs,hmat.same (hw _ (by omega) (by omega) (by omega)) (fun x x1 x2 x3=>hw x (by omega) (by omega) (by omega)) (by omega) (fun j _=>by simp),fun j B hj hB=>by have:=hmat.bnd j B hj hB; omega⟩
 ·rintro r H' nx' ⟨j1,j2,j3,j4,j5,j6,j7,vs2,j8,j9⟩
  refine .inl ⟨j3,?_⟩
  (have zz:=and_self; repeat' (first|apply a_n|refine zO ?_|refine vY ?_|fail)) <;> (try clear zz)
  refine ⟨(k + 1,vs2),by dsimp only; omega,⟨by dsimp only; omega,by omega,(b0 (by omega)).trans j5,(b0 (by omega)).trans j6,(b0 (by omega)).trans j7,?_⟩,ag0⟩
  dsimp only
  have hrows:∀ j,j < Y.length→gA X Y (k + 1) j=gA X Y k j ++ if Y.getD j default ∈ fcs s then [k] else []:=fun j _=>by
   rw [hF]; congr 1; exact rk sg.symm
  exact ⟨(b0 (by omega)).trans j8.box,j8.len,fun j hj=>by rw [hrows j hj]; exact (j8.row j hj).same fun b hb=>b0 (by have:=j9 j b hj hb; omega),fun j B hj hB=>by have:=j8.bnd j B hj hB; exact this,j8.apart⟩
end Go.Proofs.Ytfcenbapjhecfaa
namespace Go.Proofs.Ytfcenbapjhecfaa
open Go Go.Abs
def rp (L a:List Spx):List Nat:=a.map fun s=>L.idxOf s
abbrev kw (a:List Spx):Nat:=(a.getD 0 default).length
def v8 (c a:List Spx):List Int × Int:=if bk c ≠ 0 then ([],bk c) else if bR a ≠ 0 then ([],bR a) else if a=[] then ([],0) else if (a.all fun s=>decide (s ∈ dA c (kw a)))=true then (fT (rp (dA c (kw a)) a),0) else ([],6)
theorem pN {l:List Nat} {n:Nat}:fT (l ++ [n])=fT l ++ [(n:Int)]:=by unfold fT; rw [List.map_append]; rfl
theorem tM {L a:List Spx} {k:Nat} (h:k < a.length):rp L (a.take (k + 1))=rp L (a.take k) ++ [L.idxOf (a.getD k default)]:=by
 unfold rp; rw [cL h,List.map_append]; rfl
theorem vW {l:List Spx} (hn:l.Nodup) {v:Spx} {k:Nat} (hk:k < l.length) (hv:l.getD k default=v):l.idxOf v=k:=by
 have hm:v ∈ l:=by rw [← hv]; exact aZ hk
 have h1:=List.idxOf_lt_length_iff.2 hm
 have h2:l[l.idxOf v]=v:=List.getElem_idxOf h1
 have h3:l[k]=v:=by simpa [List.getD,hk] using hv
 exact (List.getElem_inj hn).1 (h2.trans h3.symm)
theorem lM {H:Hp} {s:AV} {l:List Int} {e f:Int} (h:Snap H s (br l)) (he:e=f):Snap H (.tup [s,.int .i64 e]) (.tup [br l,.int .i64 f]):=by
 subst he; exact eD (ak h (ak (.int _ _) aa))
attribute [local irreducible] aC ai aV aN aG aJ aA aK aP bb Go.Abs.Fn aM Go.Abs.Pure av aF Yl
theorem xn (c a:List Spx) (hc:c.length ≤ 50) (hs:∀ s ∈ c,Shn s) (ha:ShC a):Pure Try.prog 25 [gN c,aq a] (.tup [br (v8 c a).1,.int .i64 (v8 c a).2]):=by
 refine Pure.of_c2 follows Ab (Nat.le_of_ble_eq_true rfl) ?_
 simp only [b25,cO,cG,cN,cM,cD,cF,cB,aE,aS]
 have hcc:=ms c (show _ ≤ _ by omega) hs
 have hca:=gg a ha
 have z0:decide ((0:Int) ≠ 0)=false:=rfl
 unfold v8
 by_cases he:bk c=0
 rotate_left
 ·rw [if_pos he]
  have z:decide (bk c ≠ 0)=true:=decide_eq_true he
  (have zz:=aI @au (aI @am @z); repeat' (first|refine zW ?_|apply a_n|apply a_r|refine zO ?_|refine vY ?_|refine cY ?_ (hp:=hcc) (hs:=by (first | refine ab ?_ rfl | apply ac); (repeat' (first | exact aa | apply an | apply ae | exact bG _)); first | done | fail)|refine bxY ?_|refine cTY ?_|refine aj rfl ?_|refine r2Y ?_|fail)) <;> (try clear zz)
  exact lM (.eslsl _) rfl
 rw [if_neg (fun h=>h he)]
 rw [he] at hcc
 by_cases h2:bR a=0
 rotate_left
 ·rw [if_pos h2]
  have z:decide (bR a ≠ 0)=true:=decide_eq_true h2
  (have zz:=aI @au (aI @am (aI @z @z0)); repeat' (first|refine zW ?_|apply a_n|apply a_r|refine zO ?_|refine vY ?_|refine cY ?_ (hp:=by first | exact hcc | exact hca) (hs:=by (first | refine ab ?_ rfl | apply ac); (repeat' (first | exact aa | apply an | apply ae | exact bG _ | exact ax _)); first | done | fail)|refine bxY ?_|refine cTY ?_|refine cFY ?_|refine aj rfl ?_|refine r2Y ?_|fail)) <;> (try clear zz)
  exact lM (.eslsl _) rfl
 rw [if_neg (fun h=>h h2)]
 rw [h2] at hca
 by_cases h3:a=[]
 ·rw [if_pos h3]
  subst h3
  have al:bF (aq [])=some (.int .i64 0):=rfl
  (have zz:=aI @au (aI @am (aI @al @z0)); repeat' (first|refine zW ?_|apply a_n|apply a_r|refine zO ?_|refine vY ?_|refine cY ?_ (hp:=by first | exact hcc | exact hca) (hs:=by (first | refine ab ?_ rfl | apply ac); (repeat' (first | exact aa | apply an | apply ae | exact bG _ | exact ax _)); first | done | fail)|refine bxY ?_|refine cFY ?_|(refine zGY ?_ ?_ <;> (intro _hg; try (exfalso; omega)))|refine aj rfl ?_|refine r2Y ?_|fail)) <;> (try clear zz)
  exact lM (.eslsl _) rfl
 rw [if_neg h3]
 have hpos:=List.length_pos_iff.2 h3
 have z3:decide ((a.length:Int)=0)=false:=decide_eq_false (by omega)
 obtain ⟨p1,p2,p3,p4⟩:=eE h2
 have p5:=cw (p2 _ (aZ hpos))
 have i0:=i8 hpos
 have hS:=iI c (kw a) hc hs
 unfold dI at hS
 rw [if_neg (fun h=>h he),if_neg (by unfold kw; omega),Int.toNat_natCast] at hS
 have eL:ir c (kw a)=dA c (kw a):=by unfold dA; rw [if_neg (by unfold kw; omega),Int.toNat_natCast]
 rw [eL] at hS
 have hLs:=iw (ik (d:=(kw a:Nat)) he)
 have hLl:=jz (d:=(kw a:Nat)) hc he
 have hLa:=nF (c:=c) (d:=(kw a:Nat))
 generalize dA c (kw a)=L at *
 unfold kw at hS
 (have zz:=aI @au (aI @am (aI @af (aI @ao (aI @i0 (aI @z0 @z3))))); repeat' (first|refine zW ?_|refine zM ?_|apply a_n|refine zO ?_|refine vY ?_|refine cY ?_ (hp:=by first | exact hcc | exact hca | exact hS) (hs:=by (first | refine ab ?_ rfl | apply ac); (repeat' (first | exact aa | apply an | apply ae | exact bG _ | exact ax _)); first | done | fail)|refine bxY ?_|refine cFY ?_|fail)) <;> (try clear zz)
 refine bd (X:=AV × Nat) (fun x=>[(8,aq L),(10,x.1),(40,aq a),(41,.int .i64 a.length),(42,.int .i64 x.2)]) (fun x H nx=>x.2 ≤ a.length∧(∀ i,i < x.2→decide (a.getD i default ∈ L)=true)∧Row H 1 x.1 ((fT (rp L (a.take x.2))).map (AV.int .i64))∧∀ b,cm x.1=some b→b < nx) (fun x=>a.length - x.2) (.esl,0) ⟨Nat.zero_le _,fun i h=>absurd h (by omega),Row.nil,fun b hb=>(by cases hb)⟩ ag0 ?_
 rintro ⟨sv,k⟩ H nx ⟨k1,k2,k3,k4⟩
 dsimp only at k1 k2 k3 k4 ⊢
 by_cases hk:k < a.length
 rotate_left
 ·rw [List.take_of_length_le (by omega)] at k3
  rw [if_pos (iE fun i hi=>k2 i (by omega))]
  (have zz:=and_self; repeat' (first|refine zW ?_|apply a_n|apply a_x|refine zO ?_|refine vY ?_|(refine zGY ?_ ?_ <;> (intro _hg; try (exfalso; omega)))|refine aj rfl ?_|refine r2Y ?_|fail)) <;> (try clear zz)
  exact lM k3.snapI rfl
 have ix:=dD hk
 have hsx:=ha.2 _ (aZ hk)
 obtain ⟨p,hpl,hpm⟩:=pV L (a.getD k default) (show _ ≤ _ by omega) hLs hsx hLa
 by_cases hin:a.getD k default ∈ L
 rotate_left
 ·rw [decide_eq_false hin] at hpl
  have hall:¬ (a.all fun s=>decide (s ∈ L))=true:=by
   rw [gr hk (decide_eq_false hin)]; decide
  rw [if_neg hall]
  (have zz:=@ix; repeat' (first|refine zW ?_|apply a_n|apply a_r|refine zO ?_|refine vY ?_|refine cY ?_ (hp:=hpl) (hs:=by (first | refine ab ?_ rfl | apply ac); (repeat' (first | exact aa | apply an | apply ae | exact ax _ | exact az _)); first | done | fail)|refine cTY ?_|(refine zGY ?_ ?_ <;> (intro _hg; try (exfalso; omega)))|refine aj rfl ?_|refine r2Y ?_|fail)) <;> (try clear zz)
  exact lM (.eslsl _) rfl
 rw [decide_eq_true hin] at hpl
 obtain ⟨p1',p2'⟩:=hpm hin
 have hidx:=vW (hLa.nodup ia) p1' p2'
 have hpt:=tM (L:=L) hk
 rw [hidx] at hpt
 have hnl:(fT (rp L (a.take k))).length=k:=by unfold fT rp; rw [List.length_map,List.length_map,List.length_take]; omega
 (have zz:=@ix; repeat' (first|refine zW ?_|apply a_n|refine zO ?_|refine vY ?_|refine cY ?_ (hp:=hpl) (hs:=by (first | refine ab ?_ rfl | apply ac); (repeat' (first | exact aa | apply an | apply ae | exact ax _ | exact az _)); first | done | fail)|refine blY ?_|refine cFY ?_|(refine zGY ?_ ?_ <;> (intro _hg; try (exfalso; omega)))|fail)) <;> (try clear zz)
 refine fO rfl ev0 (k3.same fun b hb=>?_) ev0 du rfl rfl Nat.one_pos (by rw [List.length_map]; omega) (by rw [List.length_map]; omega) ?_
 ·have:=k4 b hb; rw [ag (by omega)]
 rintro s2 E e hrow hle1 hle2 hsame hb2
 (have zz:=and_self; repeat' (first|apply a_n|refine zO ?_|refine vY ?_|fail)) <;> (try clear zz)
 refine ⟨(s2,k + 1),by dsimp only; omega,⟨by dsimp only; omega,fun i hi=>?_,?_,fun b hb=>?_⟩,ag0⟩
 ·rcases Nat.lt_succ_iff_lt_or_eq.1 hi with h' | rfl
  ·exact k2 i h'
  ·exact decide_eq_true hin
 ·dsimp only
  rw [hpt,pN,List.map_append]; exact hrow
 ·rcases hb2 b hb with h | h
  ·have:=k4 b h; omega
  ·omega
end Go.Proofs.Ytfcenbapjhecfaa
namespace Go.Proofs.Ytfcenbapjhecfaa
open Go Go.Abs
attribute [local irreducible] aC ai aV aN aG aJ aA aK aP bb Go.Abs.Fn aM Go.Abs.Pure av aF Yl
theorem tn (x y:List Int) (hx:x.length ≤ 1000000000) (hy:y.length ≤ 1000000000):Pure Try.prog 55 [br x,br y] (.bool (decide (x=y))):=by
 refine Pure.of_c2 follows zL (Nat.le_of_ble_eq_true rfl) ?_
 simp only [b55,cO,cG,cN,cM,cD,cF,cB,aE,aS]
 by_cases hl:x.length=y.length
 rotate_left
 ·have z:decide ((x.length:Int) ≠ y.length)=true:=decide_eq_true (by omega)
  (have zz:=@z; repeat' (first|refine zW ?_|apply a_n|apply a_r|refine zO ?_|refine vZ ?_|refine cTZ ?_|refine aj rfl ?_|refine r1Z ?_|fail)) <;> (try clear zz)
  exact bj (by symm; rw [decide_eq_false_iff_not]; rintro rfl; exact hl rfl)
 have z:decide ((x.length:Int) ≠ y.length)=false:=decide_eq_false (by omega)
 (have zz:=@z; repeat' (first|refine zW ?_|apply a_n|refine zO ?_|refine vZ ?_|refine cFZ ?_|fail)) <;> (try clear zz)
 refine iW (X:=Nat) (fun k=>[(0,br x),(1,br y),(5,.int .i64 k)]) (fun k=>k ≤ x.length∧∀ i,i < k→x.getD i default=y.getD i default) (fun k=>x.length - k) 0 ⟨Nat.zero_le _,fun i h=>absurd h (by omega)⟩ ag0 ?_
 rintro k ⟨h1,h2⟩
 by_cases hk:k < x.length
 rotate_left
 ·(have zz:=and_self; repeat' (first|refine zW ?_|apply a_n|apply a_x|refine zO ?_|refine vZ ?_|(refine zGZ ?_ ?_ <;> (intro _hg; try (exfalso; omega)))|refine aj rfl ?_|refine r1Z ?_|fail)) <;> (try clear zz)
  refine bj ?_
  symm
  rw [decide_eq_true_eq]
  refine List.ext_getElem hl fun i a b=>?_
  have:=h2 i (by omega)
  simpa [List.getD,a,b] using this
 by_cases he:x.getD k default=y.getD k default
 ·have z2:decide (x.getD k default ≠ y.getD k default)=false:=decide_eq_false (fun h=>h he)
  (have zz:=@z2; repeat' (first|refine zW ?_|apply a_n|refine zO ?_|refine vZ ?_|refine cFZ ?_|(refine zGZ ?_ ?_ <;> (intro _hg; try (exfalso; omega)))|fail)) <;> (try clear zz)
  exact ⟨k + 1,⟨by omega,fun i hi=>by
   rcases Nat.lt_succ_iff_lt_or_eq.1 hi with h' | rfl
   ·exact h2 i h'
   ·exact he⟩,by omega,ag0,rfl,rfl⟩
 ·have z2:decide (x.getD k default ≠ y.getD k default)=true:=decide_eq_true he
  (have zz:=@z2; repeat' (first|refine zW ?_|apply a_n|apply a_r|refine zO ?_|refine vZ ?_|refine cTZ ?_|(refine zGZ ?_ ?_ <;> (intro _hg; try (exfalso; omega)))|refine aj rfl ?_|refine r1Z ?_|fail)) <;> (try clear zz)
  exact bj (by symm; rw [decide_eq_false_iff_not]; rintro rfl; exact he rfl)
theorem m9 (c:Int) (x:List (List Int)) (hx:x.length ≤ 1000000) (hxs:∀ r ∈ x,r.length ≤ 1000000):Pure Try.prog 24 [jH c x,jH c x] (.bool true):=by
 refine Pure.of_c2 follows AA (Nat.le_of_ble_eq_true rfl) ?_
 simp only [b24,cO,cG,cN,cM,cD,cF,cB,aE,aS]
 unfold jH
 have z1:decide (c ≠ c)=false:=by simp
 have z2:decide ((x.length:Int) ≠ x.length)=false:=by simp
 (have zz:=aI @z1 @z2; repeat' (first|refine zW ?_|apply a_n|refine zO ?_|refine vY ?_|refine bxY ?_|refine gTY ?_|refine cFY ?_|fail)) <;> (try clear zz)
 refine bd (X:=Nat) (fun k=>[(2,.ptr 0 2 0),(3,.ptr 1 2 0),(5,.int .i64 k)]) (fun k H nx=>k ≤ x.length∧H 0=some [.int .i64 c,cA x]∧H 1=some [.int .i64 c,cA x]) (fun k=>x.length - k) 0 ⟨Nat.zero_le _,by rw [ag (by omega),ah],ah⟩ (by (iterate 3 refine And.intro rfl ?_); trivial) ?_
 rintro k H nx ⟨h1,g0,g1⟩
 by_cases hk:k < x.length
 rotate_left
 ·(have zz:=aI @g0 @g1; repeat' (first|refine zW ?_|apply a_n|apply a_x|refine zO ?_|refine vY ?_|(refine zGY ?_ ?_ <;> (intro _hg; try (exfalso; omega)))|refine aj rfl ?_|refine r1Y ?_|fail)) <;> (try clear zz)
  exact .bool _
 have hs:=tn (x.getD k default) (x.getD k default) (by have:=hxs _ (aZ hk); omega) (by have:=hxs _ (aZ hk); omega)
 rw [decide_eq_true rfl] at hs
 (have zz:=aI @g0 @g1; repeat' (first|refine zW ?_|refine zM ?_|apply a_n|refine zO ?_|refine vY ?_|refine cY ?_ (hp:=hs) (hs:=by (first | refine ab ?_ rfl | apply ac); (repeat' (first | exact aa | apply an | apply ae | exact eB _)); first | done | fail)|refine cFY ?_|(refine zGY ?_ ?_ <;> (intro _hg; try (exfalso; omega)))|fail)) <;> (try clear zz)
 exact ⟨k + 1,by omega,⟨by omega,g0,g1⟩,ag0⟩
end Go.Proofs.Ytfcenbapjhecfaa
namespace Go.Proofs.Ytfcenbapjhecfaa
open Go Go.Abs
attribute [local irreducible] aC ai aV aN aG aJ aA aK aP bb Go.Abs.Fn aM Go.Abs.Pure av aF Yl
end Go.Proofs.Ytfcenbapjhecfaa
namespace Go.Proofs.Ytfcenbapjhecfaa
open Go Go.Abs
theorem ixV {l:List Int} {k:Nat} (h:k < l.length):dv 1 (br l) (.int .i64 (k:Int))=some (.iptr [.int .i64 (l.getD k default)] 0):=by
 rw [mY,if_pos ⟨by omega,by omega⟩,Int.toNat_natCast]
attribute [local irreducible] aC ai aV aN aG aJ aA aK aP bb Go.Abs.Fn aM Go.Abs.Pure av aF Yl
end Go.Proofs.Ytfcenbapjhecfaa
namespace Go.Proofs.Ytfcenbapjhecfaa
open Go Go.Abs
def bP (l:List Int):Spx:=l.map fun c=>⟨c,0⟩
theorem tG {l:List Int} {k:Nat} (h:k < l.length):bP (l.take (k + 1))=bP (l.take k) ++ [⟨l.getD k default,0⟩]:=by
 unfold bP; rw [cL h,List.map_append]; rfl
attribute [local irreducible] aC ai aV aN aG aJ aA aK aP bb Go.Abs.Fn aM Go.Abs.Pure av aF Yl
theorem ro (l:List Int) (hl:l.length ≤ 1000):cV Try.prog 36 [br l] (aw (bP l)):=by
 refine cV.of_c2 follows zw (Nat.le_of_ble_eq_true rfl) ?_
 simp only [b36,cO,cG,cN,cM,cD,cF,cB,aE,aS]
 (have zz:=and_self; repeat' (first|refine zW ?_|apply a_n|refine zO ?_|refine vY ?_|fail)) <;> (try clear zz)
 refine bd (X:=AV × Nat) (fun x=>[(3,x.1),(6,br l),(7,.int .i64 l.length),(8,.int .i64 x.2)]) (fun x H nx=>x.2 ≤ l.length∧Row H 2 x.1 (cX (bP (l.take x.2)))∧∀ b,cm x.1=some b→b < nx) (fun x=>l.length - x.2) (.esl,0) ⟨Nat.zero_le _,Row.nil,fun b hb=>(by cases hb)⟩ ag0 ?_
 rintro ⟨sv,k⟩ H nx ⟨k1,k3,k4⟩
 dsimp only at k1 k3 k4 ⊢
 by_cases hk:k < l.length
 rotate_left
 ·rw [List.take_of_length_le (by omega)] at k3
  (have zz:=and_self; repeat' (first|refine zW ?_|apply a_n|apply a_x|refine zO ?_|refine vY ?_|(refine zGY ?_ ?_ <;> (intro _hg; try (exfalso; omega)))|refine aj rfl ?_|refine r1Y ?_|fail)) <;> (try clear zz)
  exact kC k3
 have ix:=ixV hk
 have hpt:=tG hk
 have hcl:(cX (bP (l.take k))).length=k * 2:=by rw [e5]; unfold bP; rw [List.length_map,List.length_take]; omega
 (have zz:=@ix; repeat' (first|refine zW ?_|apply a_n|refine zO ?_|refine vY ?_|refine blY ?_|(refine zGY ?_ ?_ <;> (intro _hg; try (exfalso; omega)))|fail)) <;> (try clear zz)
 refine fO rfl ev0 (k3.same fun b hb=>?_) ev0 nB rfl rfl (by omega) (by omega) (by omega) ?_
 ·have:=k4 b hb; rw [ag (by omega)]
 rintro s2 E e hrow hle1 hle2 hsame hb2
 (have zz:=and_self; repeat' (first|apply a_n|refine zO ?_|refine vY ?_|fail)) <;> (try clear zz)
 refine ⟨(s2,k + 1),by dsimp only; omega,⟨by dsimp only; omega,?_,fun b hb=>?_⟩,ag0⟩
 ·dsimp only
  rw [hpt,gn]; exact hrow
 ·rcases hb2 b hb with h | h
  ·have:=k4 b h; omega
  ·omega
end Go.Proofs.Ytfcenbapjhecfaa
namespace Go.Proofs.Ytfcenbapjhecfaa
open Go Go.Abs
end Go.Proofs.Ytfcenbapjhecfaa
namespace Go.Proofs.Ytfcenbapjhecfaa
open Go Go.Abs
attribute [local irreducible] aC ai aV aN aG aJ aA aK aP bb Go.Abs.Fn aM Go.Abs.Pure av aF Yl
end Go.Proofs.Ytfcenbapjhecfaa
namespace Go.Proofs.Ytfcenbapjhecfaa
open Go Go.Abs
attribute [local irreducible] aC ai aV aN aG aJ aA aK aP bb Go.Abs.Fn aM Go.Abs.Pure av aF Yl
end Go.Proofs.Ytfcenbapjhecfaa
namespace Go.Proofs.Ytfcenbapjhecfaa
open Go Go.Abs
structure PairV where
 a:List Spx
 b:List Spx
 d:Int
attribute [local irreducible] aC ai aV aN aG aJ aA aK aP bb Go.Abs.Fn aM Go.Abs.Pure av aF Yl
end Go.Proofs.Ytfcenbapjhecfaa
namespace Go.Proofs.Ytfcenbapjhecfaa
open Go Go.Abs
end Go.Proofs.Ytfcenbapjhecfaa
namespace Go.Proofs.Ytfcenbapjhecfaa
open Go Go.Abs
attribute [local irreducible] aC ai aV aN aG aJ aA aK aP bb Go.Abs.Fn aM Go.Abs.Pure av aF Yl
theorem u6 (l m:List Int) (hl:l.length ≤ 1000000) (hm:m.length ≤ 1000000):Pure Try.prog 29 [br l,br m] (.bool (decide (l=m))):=by
 refine Pure.of_c2 follows zE (Nat.le_of_ble_eq_true rfl) ?_
 simp only [b29,cO,cG,cN,cM,cD,cF,cB,aE,aS]
 (have zz:=and_self; repeat' (first|refine zW ?_|apply a_n|apply a_r|refine zO ?_|refine vZ ?_|(refine zGZ ?_ ?_ <;> (intro _hg; try (exfalso; omega)))|refine aj rfl ?_|refine r1Z ?_|fail)) <;> (try clear zz)
 ·refine bj ?_
  symm; rw [decide_eq_false_iff_not]; rintro rfl; omega
 refine iW (X:=Nat) (fun k=>[(0,br l),(1,br m),(12,.int .i64 l.length),(13,.int .i64 k)]) (fun k=>k ≤ l.length∧∀ i,i < k→l.getD i default=m.getD i default) (fun k=>l.length - k) 0 ⟨Nat.zero_le _,by simp⟩ ag0 ?_
 rintro k ⟨h1,h2⟩
 (have zz:=and_self; repeat' (first|refine zW ?_|apply a_n|apply a_x|apply a_r|refine zO ?_|refine vZ ?_|(refine zGZ ?_ ?_ <;> (intro _hg; try (exfalso; omega)))|refine aj rfl ?_|refine r1Z ?_|fail)) <;> (try clear zz)
 ·refine bj ?_
  symm; rw [decide_eq_false_iff_not]; rintro rfl; exact absurd rfl ‹_›
 ·refine ⟨k + 1,⟨by omega,fun i hi=>?_⟩,by omega,ag0,rfl,rfl⟩
  rcases Nat.lt_succ_iff_lt_or_eq.1 hi with h | rfl
  ·exact h2 i h
  ·omega
 ·refine bj ?_
  symm; rw [decide_eq_true_iff]
  refine List.ext_getElem (by omega) (fun i h3 h4=>?_)
  have:=h2 i (by omega)
  simpa [List.getD,h3,h4] using this
end Go.Proofs.Ytfcenbapjhecfaa
namespace Go.Proofs.Ytfcenbapjhecfaa
open Go Go.Abs
def exC:List Spx:=[bP [0,1,2],bP [2,3]]
def exA:List Spx:=[bP [0,1],bP [0,2],bP [1,2]]
def exB:List Spx:=[bP [0],bP [2]]
def exS:List Spx:=[bP [0,1],bP [2,3]]
theorem uP:cV Try.prog 36 [br [0,1,2]] (aw (bP [0,1,2])):=ro _ (by decide)
theorem kD:cV Try.prog 36 [br [0,1]] (aw (bP [0,1])):=ro _ (by decide)
theorem v4:cV Try.prog 36 [br [0,2]] (aw (bP [0,2])):=ro _ (by decide)
theorem kM:cV Try.prog 36 [br [1,2]] (aw (bP [1,2])):=ro _ (by decide)
theorem oS:cV Try.prog 36 [br [2,3]] (aw (bP [2,3])):=ro _ (by decide)
theorem xX:cV Try.prog 36 [br [0]] (aw (bP [0])):=ro _ (by decide)
theorem xP:cV Try.prog 36 [br [2]] (aw (bP [2])):=ro _ (by decide)
theorem yq:Pure Try.prog 17 [aq [bP [0,1,2]]] (.tup [aq exA,.int .i64 0]):=by
 have h:=rX [bP [0,1,2]] ⟨by decide,by decide⟩
 rwa [show mz [bP [0,1,2]]=(exA,0) by decide +kernel] at h
theorem yW:Pure Try.prog 17 [aq [bP [0,1],bP [1,2]]] (.tup [aq exB,.int .i64 0]):=by
 have h:=rX [bP [0,1],bP [1,2]] ⟨by decide,by decide⟩
 rwa [show mz [bP [0,1],bP [1,2]]=(exB,0) by decide +kernel] at h
theorem zb:Pure Try.prog 19 [aq exA] (.tup [.bool true,.int .i64 0]):=by
 have h:=yg exA ⟨by decide,by decide⟩
 rwa [show wu exA=(true,0) by decide +kernel] at h
theorem Ay:Pure Try.prog 12 [aq [bP [0,1],bP [1,2]],aq [bP [1,2],bP [2,3]]] (.tup [aq exS,.int .i64 0]):=by
 have h:=sj [bP [0,1],bP [1,2]] [bP [1,2],bP [2,3]] ⟨by decide,by decide⟩ ⟨by decide,by decide⟩
 rwa [show mE [bP [0,1],bP [1,2]] [bP [1,2],bP [2,3]]=(exS,0) by decide +kernel] at h
theorem wI:Pure Try.prog 22 [gN exC,.int .i64 1] (.tup [(.agg [.int .i64 4,cA [[0,1],[0,2],[1,2,3],[3]]]),.int .i64 0]):=by
 have h:=vv exC 1 (by decide) (by decide)
 rwa [show ng exC 1=((4,[[0,1],[0,2],[1,2,3],[3]]),0) by decide +kernel] at h
theorem wJ:Pure Try.prog 22 [gN exC,.int .i64 2] (.tup [(.agg [.int .i64 1,cA [[0],[0],[0],[]]]),.int .i64 0]):=by
 have h:=vv exC 2 (by decide) (by decide)
 rwa [show ng exC 2=((1,[[0],[0],[0],[]]),0) by decide +kernel] at h
theorem yd:Pure Try.prog 25 [gN exC,aq exS] (.tup [br [0,3],.int .i64 0]):=by
 have h:=xn exC exS (by decide) (by decide) ⟨by decide,by decide⟩
 rwa [show v8 exC exS=([0,3],0) by decide +kernel] at h
theorem kG (l:List Spx) (h:ShC l):Pure Try.prog 16 [aq l,aq l] (.bool true):=by
 have:=sF l l h.1 h.1 h.2 h.2
 rwa [decide_eq_true rfl] at this
theorem xO {H:Hp} {b c:Nat} {cs:List AV} {x y:AV} (h1:H b=some cs) (h2:H c=some [x]) (hne:c ≠ b) (hs:Snap (only b cs) x y):Fz (only b cs) H (only c [y]) where
 sub:=il h1
 to:=fun a cs' h=>by
  unfold only at h
  split at h
  ·rename_i e
   cases h
   refine ⟨[x],by rw [e]; exact h2,?_,rfl,fun i u v hu hv=>?_⟩
   ·unfold only; rw [if_neg (by rw [e]; exact hne)]
   ·match i with
    | 0=>simp at hu hv; subst hu; subst hv; exact .inr hs
    | i + 1=>simp at hu
  ·cases h
theorem fy {H:Hp} {b n:Nat} {l:List Spx} (h:H b=some (l.map aw)) (hn:n=l.length):Snap H (.msl b n 1 0 n) (aq l):=by
 subst hn
 have:=Row.box (H:=H) (sz:=1) b l.length (l.map aw) h (by simp)
 rw [Nat.mul_one] at this
 exact fm this
theorem pi {H:Hp} {b n:Nat} {cs:List AV} {l:List (List Int)} (hb:H b=some cs) (hn:cs.length=n) (h:aF H cs (l.map br)):Snap H (.msl b n 1 0 n) (cA l):=by
 have hl:=h.1
 refine iH (l:=l.map br) hb hn (by omega) (by omega) (fun y hy=>?_) (fun i a c ha hc=>?_)
 ·obtain ⟨z,_,rfl⟩:=List.mem_map.1 hy; rfl
 ·rw [Nat.zero_add] at ha
  exact h.2 i a c ha hc
theorem zm {g:FuncId} {r:AV} {l:List Spx} (hp:Pure Try.prog g [aq l] r) {H:Hp} {b nx c n:Nat} {cs:List AV} (h1:H b=some (l.map aw)) (hn:n=l.length) (h2:H c=some cs) (hne:c ≠ b):Abs.Fn Try.prog g [.msl b n 1 0 n] H nx fun r' H' nx'=>r'=r∧H'=only c cs∧nx'=nx :=
 Fn.of_pureZ hp (Hf:=only b (l.map aw)) (H':=only c cs) (il h1) (fun a cs' h=>by
  unfold only at h
  split at h
  ·rename_i e; cases h; subst e
   exact ⟨h2,by unfold only; rw [if_neg hne]⟩
  ·cases h) (ak (fy kL hn) aa) ⟨rfl,rfl,rfl⟩
theorem AF {g:FuncId} {r:AV} {l m:List Spx} (hp:Pure Try.prog g [aq l,aq m] r) {H:Hp} {b d nx c n k:Nat} {cs:List AV} (h1:H b=some (l.map aw)) (hn:n=l.length) (h3:H d=some (m.map aw)) (hk:k=m.length) (hbd:d ≠ b) (h2:H c=some cs) (hne:c ≠ b) (hne2:c ≠ d):Abs.Fn Try.prog g [.msl b n 1 0 n,.msl d k 1 0 k] H nx fun r' H' nx'=>r'=r∧H'=only c cs∧nx'=nx :=
 Fn.of_pureZ hp (Hf:=on2 b (l.map aw) d (m.map aw)) (H':=only c cs) (n8 h1 h3) (fun a cs' h=>by
  unfold only at h
  split at h
  ·rename_i e; cases h; subst e
   exact ⟨h2,by unfold on2; rw [if_neg hne,if_neg hne2]⟩
  ·cases h) (ak (fy wL hn) (ak (fy (wN hbd) hk) aa)) ⟨rfl,rfl,rfl⟩
theorem yh:Pure Try.prog 29 [br [0,3],br [0,3]] (.bool true):=by
 have:=u6 [0,3] [0,3] (by decide) (by decide)
 rwa [decide_eq_true rfl] at this
attribute [local irreducible] aC ai aV aN aG aJ aA aK aP bb Go.Abs.Fn aM Go.Abs.Pure av aF Yl
set_option maxHeartbeats 2000000 in
theorem sr:Pure Try.prog 11 [] (.bool true):=by
 refine Pure.of_c2 follows zX (Nat.le_of_ble_eq_true rfl) ?_
 simp only [b11,cO,cG,cN,cM,cD,cF,cB,aE,aS]
 have h3:only 3 [aq exC] 3=some [aq exC]:=kL
 (have zz:=aI @h3 (aI @ay (aI @ar (aI @au @am))); repeat' (first|refine zW ?_|apply a_n|refine zO ?_|refine vZ ?_|refine blZ ?_|fail)) <;> (try clear zz)
 refine bO ev0 ev0 uP (ak (be (n:=3) (len:=3) (l:=[0,1,2]) (by exact rfl) rfl rfl) aa) ?_
 (have zz:=aI @h3 (aI @ay (aI @ar (aI @au @am))); repeat' (first|apply a_n|refine zO ?_|refine blZ ?_|fail)) <;> (try clear zz)
 refine bO ev0 ev0 oS (ak (be (n:=2) (len:=2) (l:=[2,3]) (by exact rfl) rfl rfl) aa) ?_
 (have zz:=aI @h3 (aI @ay (aI @ar (aI @au @am))); repeat' (first|apply a_n|refine zO ?_|refine vZ ?_|refine alZ ?_|refine stZ ?_|refine blZ ?_|fail)) <;> (try clear zz)
 refine fF ?_
 refine sk (only 2 [aw (bP [0,1,2]),aw (bP [2,3])]) (only 3 [aq exC]) [(1,.ptr 3 1 0)] (xO (x:=.msl 2 2 1 0 2) rfl rfl (by decide) (fy (l:=exC) rfl rfl)) ⟨.inl rfl,trivial⟩ ?_
 (have zz:=aI @h3 (aI @ay (aI @ar (aI @au @am))); repeat' (first|apply a_n|refine zO ?_|refine blZ ?_|fail)) <;> (try clear zz)
 refine bO ev0 ev0 uP (ak (be (n:=3) (len:=3) (l:=[0,1,2]) (by exact rfl) rfl rfl) aa) ?_
 (have zz:=aI @h3 (aI @ay (aI @ar (aI @au @am))); repeat' (first|apply a_n|refine zO ?_|refine blZ ?_|fail)) <;> (try clear zz)
 refine aR ev0 ev0 (zm yq (b:=5) (c:=3) (cs:=[aq exC]) (by exact rfl) (by exact rfl) (by exact rfl) (by decide)) ?_
 rintro _ _ _ ⟨rfl,rfl,rfl⟩
 (have zz:=aI @h3 (aI @ay (aI @ar (aI @au @am))); repeat' (first|refine zW ?_|apply a_n|refine zO ?_|refine vZ ?_|refine cZ ?_ (hp:=by first | exact zb | exact wI | exact wJ | exact yd) (hs:=by (first | refine ab ?_ rfl | apply ac); (repeat' (first | exact aa | apply an | apply ae | exact ax _ | exact bG _)); first | done | fail)|refine blZ ?_|fail)) <;> (try clear zz)
 refine bO ev0 ev0 kD (ak (be (n:=2) (len:=2) (l:=[0,1]) (by exact rfl) rfl rfl) aa) ?_
 (have zz:=aI @h3 (aI @ay (aI @ar (aI @au @am))); repeat' (first|apply a_n|refine zO ?_|refine blZ ?_|fail)) <;> (try clear zz)
 refine bO ev0 ev0 kM (ak (be (n:=2) (len:=2) (l:=[1,2]) (by exact rfl) rfl rfl) aa) ?_
 (have zz:=aI @h3 (aI @ay (aI @ar (aI @au @am))); repeat' (first|apply a_n|refine zO ?_|refine blZ ?_|fail)) <;> (try clear zz)
 refine aR ev0 ev0 (zm yW (b:=8) (c:=3) (cs:=[aq exC]) (by exact rfl) (by exact rfl) (by exact rfl) (by decide)) ?_
 rintro _ _ _ ⟨rfl,rfl,rfl⟩
 (have zz:=aI @h3 (aI @ay (aI @ar (aI @au @am))); repeat' (first|refine zW ?_|apply a_n|refine zO ?_|refine vZ ?_|refine blZ ?_|fail)) <;> (try clear zz)
 refine bO ev0 ev0 kD (ak (be (n:=2) (len:=2) (l:=[0,1]) (by exact rfl) rfl rfl) aa) ?_
 (have zz:=aI @h3 (aI @ay (aI @ar (aI @au @am))); repeat' (first|apply a_n|refine zO ?_|refine blZ ?_|fail)) <;> (try clear zz)
 refine bO ev0 ev0 kM (ak (be (n:=2) (len:=2) (l:=[1,2]) (by exact rfl) rfl rfl) aa) ?_
 (have zz:=aI @h3 (aI @ay (aI @ar (aI @au @am))); repeat' (first|apply a_n|refine zO ?_|refine blZ ?_|fail)) <;> (try clear zz)
 refine bO ev0 ev0 kM (ak (be (n:=2) (len:=2) (l:=[1,2]) (by exact rfl) rfl rfl) aa) ?_
 (have zz:=aI @h3 (aI @ay (aI @ar (aI @au @am))); repeat' (first|apply a_n|refine zO ?_|refine blZ ?_|fail)) <;> (try clear zz)
 refine bO ev0 ev0 oS (ak (be (n:=2) (len:=2) (l:=[2,3]) (by exact rfl) rfl rfl) aa) ?_
 (have zz:=aI @h3 (aI @ay (aI @ar (aI @au @am))); repeat' (first|apply a_n|refine zO ?_|refine blZ ?_|fail)) <;> (try clear zz)
 refine aR ev0 ev0 (AF Ay (b:=11) (d:=14) (c:=3) (cs:=[aq exC]) (by exact rfl) (by exact rfl) (by exact rfl) (by exact rfl) (by decide) (by exact rfl) (by decide) (by decide)) ?_
 rintro _ _ _ ⟨rfl,rfl,rfl⟩
 (have zz:=aI @h3 (aI @ay (aI @ar (aI @au @am))); repeat' (first|refine zW ?_|apply a_n|refine zO ?_|refine vZ ?_|refine blZ ?_|refine gTZ ?_|(refine zGZ ?_ ?_ <;> (intro _hg; try (exfalso; omega)))|fail)) <;> (try clear zz)
 refine bO ev0 ev0 kD (ak (be (n:=2) (len:=2) (l:=[0,1]) (by exact rfl) rfl rfl) aa) ?_
 (have zz:=aI @h3 (aI @ay (aI @ar (aI @au @am))); repeat' (first|apply a_n|refine zO ?_|refine blZ ?_|refine gTZ ?_|fail)) <;> (try clear zz)
 refine bO ev0 ev0 v4 (ak (be (n:=2) (len:=2) (l:=[0,2]) (by exact rfl) rfl rfl) aa) ?_
 (have zz:=aI @h3 (aI @ay (aI @ar (aI @au @am))); repeat' (first|apply a_n|refine zO ?_|refine blZ ?_|refine gTZ ?_|fail)) <;> (try clear zz)
 refine bO ev0 ev0 kM (ak (be (n:=2) (len:=2) (l:=[1,2]) (by exact rfl) rfl rfl) aa) ?_
 (have zz:=aI @h3 (aI @ay (aI @ar (aI @au @am))); repeat' (first|apply a_n|refine zO ?_|refine blZ ?_|refine gTZ ?_|fail)) <;> (try clear zz)
 refine bE ev0 ev0 (kG exA ⟨by decide,by decide⟩) (ab (ak (ax _ _) (ak (fy (b:=18) (n:=3) (by exact rfl) (by exact rfl)) aa)) rfl) ?_
 (have zz:=aI @h3 (aI @ay (aI @ar (aI @au @am))); repeat' (first|apply a_n|refine zO ?_|refine vZ ?_|refine blZ ?_|refine gTZ ?_|fail)) <;> (try clear zz)
 refine bO ev0 ev0 xX (ak (be (n:=1) (len:=1) (l:=[0]) (by exact rfl) rfl rfl) aa) ?_
 (have zz:=aI @h3 (aI @ay (aI @ar (aI @au @am))); repeat' (first|apply a_n|refine zO ?_|refine blZ ?_|refine gTZ ?_|fail)) <;> (try clear zz)
 refine bO ev0 ev0 xP (ak (be (n:=1) (len:=1) (l:=[2]) (by exact rfl) rfl rfl) aa) ?_
 (have zz:=aI @h3 (aI @ay (aI @ar (aI @au @am))); repeat' (first|apply a_n|refine zO ?_|refine blZ ?_|refine gTZ ?_|fail)) <;> (try clear zz)
 refine bE ev0 ev0 (kG exB ⟨by decide,by decide⟩) (ab (ak (ax _ _) (ak (fy (b:=21) (n:=2) (by exact rfl) (by exact rfl)) aa)) rfl) ?_
 (have zz:=aI @h3 (aI @ay (aI @ar (aI @au @am))); repeat' (first|apply a_n|refine zO ?_|refine vZ ?_|refine blZ ?_|refine gTZ ?_|fail)) <;> (try clear zz)
 refine bO ev0 ev0 kD (ak (be (n:=2) (len:=2) (l:=[0,1]) (by exact rfl) rfl rfl) aa) ?_
 (have zz:=aI @h3 (aI @ay (aI @ar (aI @au @am))); repeat' (first|apply a_n|refine zO ?_|refine blZ ?_|refine gTZ ?_|fail)) <;> (try clear zz)
 refine bO ev0 ev0 oS (ak (be (n:=2) (len:=2) (l:=[2,3]) (by exact rfl) rfl rfl) aa) ?_
 (have zz:=aI @h3 (aI @ay (aI @ar (aI @au @am))); repeat' (first|apply a_n|refine zO ?_|refine blZ ?_|refine gTZ ?_|fail)) <;> (try clear zz)
 refine bE ev0 ev0 (kG exS ⟨by decide,by decide⟩) (ab (ak (ax _ _) (ak (fy (b:=24) (n:=2) (by exact rfl) (by exact rfl)) aa)) rfl) ?_
 (have zz:=aI @h3 (aI @ay (aI @ar (aI @au @am))); repeat' (first|refine zW ?_|apply a_n|refine zO ?_|refine vZ ?_|refine cZ ?_ (hp:=by first | exact zb | exact wI | exact wJ | exact yd) (hs:=by (first | refine ab ?_ rfl | apply ac); (repeat' (first | exact aa | apply an | apply ae | exact ax _ | exact bG _)); first | done | fail)|refine alZ ?_|refine stZ ?_|refine blZ ?_|refine gTZ ?_|(refine zGZ ?_ ?_ <;> (intro _hg; try (exfalso; omega)))|refine cFZ ?_|fail)) <;> (try clear zz)
 refine bE ev0 ev0 (m9 4 [[0,1],[0,2],[1,2,3],[3]] (by decide) (by decide)) (ab (ak ((show Dat (.agg [.int .i64 4,cA [[0,1],[0,2],[1,2,3],[3]]]) from mt 4 [[0,1],[0,2],[1,2,3],[3]]) _) (ak (mB (ak (.int _ _) (ak (pi (b:=31) (n:=4) (cs:=[.msl 27 2 1 0 2,.msl 28 2 1 0 2,.msl 29 3 1 0 3,.msl 30 1 1 0 1]) (by exact rfl) (by exact rfl) (ak (be (b:=27) (n:=2) (len:=2) (l:=[0,1]) (by exact rfl) rfl rfl) (ak (be (b:=28) (n:=2) (len:=2) (l:=[0,2]) (by exact rfl) rfl rfl) (ak (be (b:=29) (n:=3) (len:=3) (l:=[1,2,3]) (by exact rfl) rfl rfl) (ak (be (b:=30) (n:=1) (len:=1) (l:=[3]) (by exact rfl) rfl rfl) aa))))) aa))) aa)) rfl) ?_
 (have zz:=aI @h3 (aI @ay (aI @ar (aI @au @am))); repeat' (first|apply a_n|refine zO ?_|refine vZ ?_|refine blZ ?_|refine gTZ ?_|fail)) <;> (try clear zz)
 refine bE ev0 ev0 (m9 1 [[0],[0],[0],[]] (by decide) (by decide)) (ab (ak ((show Dat (.agg [.int .i64 1,cA [[0],[0],[0],[]]]) from mt 1 [[0],[0],[0],[]]) _) (ak (mB (ak (.int _ _) (ak (pi (b:=35) (n:=4) (cs:=[.msl 32 1 1 0 1,.msl 33 1 1 0 1,.msl 34 1 1 0 1,.esl]) (by exact rfl) (by exact rfl) (ak (be (b:=32) (n:=1) (len:=1) (l:=[0]) (by exact rfl) rfl rfl) (ak (be (b:=33) (n:=1) (len:=1) (l:=[0]) (by exact rfl) rfl rfl) (ak (be (b:=34) (n:=1) (len:=1) (l:=[0]) (by exact rfl) rfl rfl) (ak (.eslsl 1) aa))))) aa))) aa)) rfl) ?_
 (have zz:=aI @h3 (aI @ay (aI @ar (aI @au @am))); repeat' (first|apply a_n|refine zO ?_|refine vZ ?_|refine blZ ?_|refine gTZ ?_|fail)) <;> (try clear zz)
 refine bE ev0 ev0 yh (ab (ak (eB _ _) (ak (be (b:=36) (n:=2) (len:=2) (l:=[0,3]) (by exact rfl) rfl rfl) aa)) rfl) ?_
 (have zz:=aI @h3 (aI @ay (aI @ar (aI @au @am))); repeat' (first|apply a_n|refine zO ?_|refine vZ ?_|refine aj rfl ?_|refine r1Z ?_|fail)) <;> (try clear zz)
 exact .bool _
end Go.Proofs.Ytfcenbapjhecfaa
namespace Go.Proofs.Ytfcenbapjhecfaa
open Go Go.Abs
theorem kN:ShC []:=⟨Nat.zero_le _,fun s h=>(by cases h)⟩
theorem sO {a:List Spx} (h:a.length ≤ 1000000) (hs:∀ s ∈ a,bc s=0):ShC a:=⟨show _ ≤ _ by omega,iw hs⟩
theorem ww {a b:List Spx}:ShC (mE a b).1:=by
 unfold mE
 split
 ·exact kN
 split
 ·exact kN
 split
 ·exact kN
 split
 ·exact kN
 ·rename_i h1 h2 h3 h4
  exact sO (by show (cb aO a b).length ≤ _; omega) (sn (Decidable.of_not_not h1) (Decidable.of_not_not h2))
theorem Ag (a b:List Spx) (ha:ShC a) (hb:ShC b):Pure Try.prog 10 [dB [a,b]] (.bool (gV a && gV b)):=by
 have:=vU [a,b] (show _ ≤ _ by simp) (fun x hx=>by
  rcases List.mem_cons.1 hx with rfl | hx
  ·exact ha
  ·rw [List.mem_singleton.1 hx]; exact hb)
 rwa [show [a,b].all gV=(gV a && gV b) by simp] at this
attribute [local irreducible] aC ai aV aN aG aJ aA aK aP bb Go.Abs.Fn aM Go.Abs.Pure av aF Yl
theorem vA (a b:List Spx) (ha:ShC a) (hb:ShC b):Pure Try.prog 3 [aq a,aq b] (.bool true):=by
 refine Pure.of_c2 follows is3 (Nat.le_of_ble_eq_true rfl) ?_
 simp only [b3,cO,cG,cN,cM,cD,cF,cB,aE,aS]
 have f1:=Ag a b ha hb
 have s1:=sj a b ha hb
 have s2:=xz a b ha hb
 have s3:=gg a ha
 have s4:=oE a ha
 have s5:=kG _ (ww (a:=a) (b:=b))
 generalize mE a b=P at *
 obtain ⟨p,e⟩:=P
 dsimp only at s1 s2 s5
 generalize bR a=ca at *
 have z1:decide (ca=ca)=true:=decide_eq_true rfl
 have z2:decide (e=e)=true:=decide_eq_true rfl
 (have zz:=aI @au @am; repeat' (first|refine zW ?_|apply a_n|refine zO ?_|refine vY ?_|refine blY ?_|fail)) <;> (try clear zz)
 refine bE ev0 ev0 f1 (ab (ez (by rw [ah])) rfl) ?_
 cases (gV a && gV b)
 ·(have zz:=and_self; repeat' (first|refine zW ?_|apply a_n|apply a_r|refine zO ?_|refine vY ?_|refine cY ?_ (hp:=sr) (hs:=by (first | refine ab ?_ rfl | apply ac); (repeat' (first | exact aa | apply an | apply ae | exact ax _)); first | done | fail)|refine cTY ?_|refine aj rfl ?_|refine r1Y ?_|fail)) <;> (try clear zz)
  exact .bool _
 ·(have zz:=aI @z1 @z2; repeat' (first|refine zW ?_|apply a_n|refine zO ?_|refine vY ?_|refine cY ?_ (hp:=by first | exact sr | exact s1 | exact s2 | exact s3 | exact s4 | exact s5) (hs:=by (first | refine ab ?_ rfl | apply ac); (repeat' (first | exact aa | apply an | apply ae | exact ax _)); first | done | fail)|refine gTY ?_|(refine zGY ?_ ?_ <;> (intro _hg; try (exfalso; omega)))|refine cFY ?_|refine aj rfl ?_|refine r1Y ?_|fail)) <;> (try clear zz)
  exact .bool _
end Go.Proofs.Ytfcenbapjhecfaa
namespace Go.Proofs.Ytfcenbapjhecfaa
open Go Go.Abs Go.RowKit
section
variable {H:Type} {enc:TypeId × Value→H} {W:World}
theorem oi:di enc Try.prog W 3 (AV.int .i64) (fun n=>(Lit.int .i64 n).wf=true):=tN Try.underlying3
set_option maxRecDepth 100000 in
theorem zB:di enc Try.prog W 101 bK (fun _=>True) :=
 (nW Try.underlying101 (by kernel_rfl) (kj (off:=0) (off':=1) rfl (by kernel_rfl) oi (kj (off:=1) (off':=2) rfl (by kernel_rfl) oi rz))).map
  (fun a=>(⟨a.1,a.2.1⟩:Vtx)) (fun _ _=>trivial) (fun _ _=>rfl)
theorem oXs:di enc Try.prog W 52 aw Shn :=
 (jZ Try.underlying52 (sz:=2) (by_:=16) (by kernel_rfl) (by kernel_rfl) (by omega) (fun _=>rfl) zB).mono fun l h=>by have:=h.2.2; show _ ≤ _; omega
theorem yk:di enc Try.prog W 22 aq (fun l=>Shn l∧∀ x ∈ l,Shn x) :=
 (jZ Try.underlying22 (sz:=1) (by_:=24) (by kernel_rfl) (by kernel_rfl) Nat.one_pos (fun _=>rfl) oXs).mono fun l h=>⟨by have:=h.2.2; show _ ≤ _; omega,h.1⟩
end
theorem kP {f:FuncId} {xs:List AV} {vs:List Value} (h:Go.Abs.Pure Try.prog f xs (.bool true)) (w:World) (hv:bI (E0 (oI w)) w xs vs) :
    Calls Try.prog f vs.toArray w fun e w'=>e=.returned (.bool true)∧Below w.heap.size w w':=by
 refine (h.2 (oI w) w vs (fun _ h=>h) hv).mono ?_
 rintro e w' ⟨v,imm',rfl,hb,_,_,_,hr⟩
 cases hr
 exact ⟨rfl,hb⟩
theorem zu:laidOutB Try.prog=true:=by kernel_rfl
end Go.Proofs.Ytfcenbapjhecfaa
namespace Go.Proofs.Ytfcenbapjhecfaa
open Go Go.Abs Go.RowKit
section
variable {H:Type} {enc:TypeId × Value→H} {W:World}
end
end Go.Proofs.Ytfcenbapjhecfaa
namespace Go.Proofs.Ytfcenbapjhecfaa
open Go Go.Abs Go.RowKit Go.ChangeShapes Go.WideShapes Go.ChangeAt
theorem mH {H:Type} {enc:TypeId × Value→H} {P:Program} {f:Func} {s:ChangeSpec} {apart fresh handsOn again:Bool} {W W':World} {args:Array Value} {v:Value} {ds gs:List (DataW H)} {before pa pv:List MemPlace}
    (hW:DataW.Whole enc P f.params.toList s.vars apart W args.toList ds gs before)
    (hres:∀ (b:Nat) (sp:Nat→Bool) (hd:Bool),DataW.TrodAll enc P W' b sp hd f.resultTypes.toList (v.resultList f.resultTypes.size) (s.fn H (ds ++ gs)).results [])
    (hargs:∀ sp:Nat→Bool,(∀ p ∈ before,sp p.block=true)→DataW.TrodAll enc P W' 0 sp true f.params.toList args.toList (s.fn H (ds ++ gs)).args pa)
    (hvars:∀ sp:Nat→Bool,(∀ p ∈ before,sp p.block=true)→DataW.TrodVars enc P W' sp s.vars (s.fn H (ds ++ gs)).vars pv)
    (hps:before=pa ++ pv) (hb:Below W.heap.size W W')
    (hok:∀ (j:Nat) (t:TypeId) (r:Value),f.resultTypes[j]?=some t→(v.resultList f.resultTypes.size)[j]?=some r→Value.okWide P W' .any 0 t r) :
    s.post enc P f apart fresh handsOn again W args v W':=by
 have hold:∀ p ∈ before,(fun b=>decide (b < W.heap.size)) p.block=true:=fun p hp=>by simpa using hW.lt p hp
 have hlt:=fun p hp=>hW.lt p hp
 refine ⟨ds,gs,before,[],pa,pv,hW,hres _ _ _,hargs _ hold,hvars _ hold,World.keptBut_mono (fun p hp=>⟨hp,?_⟩) (hb.frame _),fun _=>?_⟩
 ·rw [hps,List.mem_append] at hp
  exact Or.inr hp
 ·obtain ⟨_,_,_,_,_,hz,hn⟩:=hW
  refine ⟨hok,_,_,([] ++ pa) ++ pv,⟨[] ++ pa,pv,trodAll_append (hargs _ (fun _ _=>rfl)) (hres _ _ _),hvars _ (fun _ _=>rfl),rfl,?_,?_⟩,?_⟩
  ·intro b off hp
   have hp':MemPlace.cell b off ∈ before:=by rw [hps]; simpa using hp
   rw [hb.frozen (hlt _ hp')]
   exact hz b off hp'
  ·intro ha
   have:=hn ha
   rw [hps] at this
   simpa using this
  ·intro p hp _
   rw [hps]
   simpa using hp
theorem ug {E:Env} {w:World}:bI E w [] []:=⟨rfl,fun i x y h=>(by cases h)⟩
theorem nK {E:Env} {w:World} {x:AV} {y:Value} {xs:List AV} {ys:List Value} (h:Rel E w x y) (hs:bI E w xs ys):bI E w (x :: xs) (y :: ys):=by
 refine ⟨by simp [hs.1],fun i a b ha hb=>?_⟩
 cases i with
 | zero=>simp at ha hb; subst ha hb; exact h
 | succ i=>simp at ha hb; exact hs.2 i a b ha hb
theorem own:ownKnob Try.prog.godebug=none:=by kernel_rfl
end Go.Proofs.Ytfcenbapjhecfaa