/- Texts of this claim, one after the other: T175, T176, T177, T179, T143, T178, T180, T181, A33, T122, T133, T144, T147, T148, T182, T183, T118, T184, T121. -/
import Derived.Test.YtfcenbapjhecfaaXG5
import Derived.Test.YtfcenbapjhecfaaXG4
import Derived.Test.YtfcenbapjhecfaaXG3
import Derived.Test.YtfcenbapjhecfaaRows
import Derived.WalkKit
import Derived.ProofKit
import Derived.OpenShut

set_option linter.unusedSimpArgs false
set_option linter.unusedVariables false
namespace Go.Proofs.Ytfcenbapjhecfaa
open Go Go.Abs
open Nat (reduceEqDiff reduceAdd reduceLeDiff)
def dR:Nat→Spx→List Int
 | 0,_=>[]
 | n + 1,[]=>0 :: 0 :: dR n []
 | n + 1,v :: l=>v.color :: v.label :: dR n l
theorem je:∀ {n:Nat} {s:Spx},(dR n s).length=2 * n
 | 0,_=>rfl
 | n + 1,[]=>by show (dR n []).length + 1 + 1=_; rw [je]; omega
 | n + 1,v :: l=>by show (dR n l).length + 1 + 1=_; rw [je]; omega
theorem qH:∀ {n:Nat} {s t:Spx},s.length=t.length→t.length ≤ n→dR n s=dR n t→s=t
 | _,[],[],_,_,_=>rfl
 | _,[],w :: m,h,_,_=>absurd h (by simp)
 | _,v :: l,[],h,_,_=>absurd h (by simp)
 | 0,v :: l,w :: m,_,h,_=>absurd h (by simp)
 | n + 1,v :: l,w :: m,hl,hm,e=>by
  obtain ⟨e1,e2⟩:=List.cons.inj e
  obtain ⟨e2,e3⟩:=List.cons.inj e2
  have:=qH (n:=n) (by simpa using hl) (by simpa using hm) e3
  rw [this,iv.2 ⟨e1,e2⟩]
abbrev z16:List AV:=[.int .i64 0,.int .i64 0,.int .i64 0,.int .i64 0,.int .i64 0,.int .i64 0,.int .i64 0,.int .i64 0,.int .i64 0,.int .i64 0,.int .i64 0,.int .i64 0,.int .i64 0,.int .i64 0,.int .i64 0,.int .i64 0]
theorem xG:z16=(dR 8 []).map (AV.int .i64):=rfl
theorem px:∀ {n:Nat} {s:Spx},s.length ≤ n→cX s ++ ((dR n []).map (AV.int .i64)).drop (s.length * 2)=(dR n s).map (AV.int .i64)
 | n,[],_=>by simp [cX]
 | 0,_ :: _,h=>absurd h (by simp)
 | n + 1,v :: l,h=>by
  have:=px (n:=n) (s:=l) (by simp at h; omega)
  show [AV.int .i64 v.color,AV.int .i64 v.label] ++ cX l ++ _=AV.int .i64 v.color :: AV.int .i64 v.label :: (dR n l).map (AV.int .i64)
  rw [← this,List.length_cons,show (l.length + 1) * 2=l.length * 2 + 1 + 1 by omega]
  rfl
def kZ (s:Spx):K16:=⟨dR 8 s,by rw [je]⟩
theorem uo {s t:Spx} (h:s.length=t.length) (h8:t.length ≤ 8) (e:kZ s=kZ t):s=t:=qH h h8 (congrArg Subtype.val e)
theorem vu {O:List Spx} {f:Spx} {n:Nat} (hn:n ≤ 8) (hO:∀ s ∈ O,s.length=n) (hf:f.length=n):kZ f ∈ O.map kZ ↔ f ∈ O:=by
 rw [List.mem_map]
 exact ⟨fun ⟨s,h1,h2⟩=>by rw [← uo (by rw [hO s h1,hf]) (by omega) h2]; exact h1,fun h=>⟨f,h,rfl⟩⟩
theorem uD {f:Spx} {n:Nat} (hn:n ≤ 8) (hf:f.length=n):∀ {O:List Spx},(∀ s ∈ O,s.length=n)→(O.map kZ).idxOf (kZ f)=O.idxOf f
 | [],_=>rfl
 | g :: O,hO=>by
  have ih:=uD hn hf (O:=O) fun s hs=>hO s (List.mem_cons_of_mem _ hs)
  have hg:=hO g List.mem_cons_self
  rw [List.map_cons,List.idxOf_cons,List.idxOf_cons,ih]
  have e:(kZ g == kZ f)=(g == f):=by
   rw [Bool.eq_iff_iff,beq_iff_eq,beq_iff_eq]
   exact ⟨fun h=>uo (by rw [hg,hf]) (by omega) h,fun h=>by rw [h]⟩
  rw [e]
structure BOk (H:Hp) (n:Nat) (c:Spx→Nat) (O:List Spx) (bs:List Nat) (ck:Nat):Prop where
 box:H 0=some [.bmap ((O.map kZ).map eK) (O.map au) bs ck]
 len:bs.length=O.length
 asc:bs.Pairwise (· < ·)
 below:∀ s ∈ bs,s < ck
 nd:O.Nodup
 all:∀ f ∈ O,f.length=n
 odd:∀ f,f ∈ O ↔ c f % 2=1
theorem BOk.same {H H':Hp} {n:Nat} {c c':Spx→Nat} {O:List Spx} {bs:List Nat} {ck:Nat} (h:BOk H n c O bs ck) (hs:H' 0=H 0) (hc:∀ f,c' f % 2=c f % 2):BOk H' n c' O bs ck :=
 ⟨hs.trans h.box,h.len,h.asc,h.below,h.nd,h.all,fun f=>by rw [hc]; exact h.odd f⟩
theorem BOk.put {H H':Hp} {n:Nat} {c c':Spx→Nat} {O:List Spx} {bs:List Nat} {ck:Nat} {f:Spx} (h:BOk H n c O bs ck) (hf:f ∉ O) (hl:f.length=n) (hH:H' 0=some [.bmap ((O.map kZ).map eK ++ [eK (kZ f)]) (O.map au ++ [au f]) (bs ++ [ck]) (ck + 1)]) (hc:∀ g,c' g=c g + if g=f then 1 else 0):BOk H' n c' (O ++ [f]) (bs ++ [ck]) (ck + 1):=by
 refine ⟨by rw [hH]; simp,by rw [List.length_append,List.length_append,h.len]; rfl,?_,fun s hs=>?_,?_,fun g hg=>?_,fun g=>?_⟩
 ·exact List.pairwise_append.2 ⟨h.asc,List.pairwise_singleton _ _,fun a ha b hb=>by rw [List.mem_singleton.1 hb]; exact h.below a ha⟩
 ·rcases List.mem_append.1 hs with q | q
  ·have:=h.below s q; omega
  ·rw [List.mem_singleton.1 q]; omega
 ·exact List.nodup_append.2 ⟨h.nd,by simp,fun a ha b hb e=>by rw [e,List.mem_singleton.1 hb] at ha; exact hf ha⟩
 ·rcases List.mem_append.1 hg with q | q
  ·exact h.all g q
  ·rw [List.mem_singleton.1 q]; exact hl
 ·rw [List.mem_append,List.mem_singleton,h.odd,hc]
  by_cases e:g=f
  ·subst e
   have:¬ c g % 2=1:=fun q=>hf ((h.odd g).2 q)
   rw [if_pos rfl]
   exact ⟨fun _=>by omega,fun _=>.inr rfl⟩
  ·rw [if_neg e]; simp [e]
theorem dT {α β:Type} {f:α→β}:∀ {l:List α} {i:Nat},(l.map f).eraseIdx i=(l.eraseIdx i).map f
 | [],_=>rfl
 | a :: l,0=>rfl
 | a :: l,i + 1=>by show f a :: (l.map f).eraseIdx i=f a :: (l.eraseIdx i).map f; rw [dT]
theorem BOk.del {H H':Hp} {n:Nat} {c c':Spx→Nat} {O:List Spx} {bs:List Nat} {ck i:Nat} {f:Spx} (h:BOk H n c O bs ck) (hf:f ∈ O) (hi:O.idxOf f=i) (hH:H' 0=some [.bmap (((O.map kZ).map eK).eraseIdx i) ((O.map au).eraseIdx i) (bs.eraseIdx i) ck]) (hc:∀ g,c' g=c g + if g=f then 1 else 0):BOk H' n c' (O.erase f) (bs.eraseIdx i) ck:=by
 have hil:i < O.length:=by rw [← hi]; exact List.idxOf_lt_length_iff.2 hf
 have he:O.erase f=O.eraseIdx i:=List.erase_eq_eraseIdx_of_idxOf hi
 refine ⟨?_,?_,h.asc.sublist (List.eraseIdx_sublist _ _),fun s hs=>h.below s ((List.eraseIdx_sublist _ _).subset hs),h.nd.erase _,fun g hg=>h.all g (List.mem_of_mem_erase hg),fun g=>?_⟩
 ·rw [hH,he]
  rw [dT,dT,dT]
 ·rw [he,List.length_eraseIdx_of_lt hil,List.length_eraseIdx_of_lt (by rw [h.len]; exact hil),h.len]
 ·rw [h.nd.mem_erase_iff,h.odd,hc]
  by_cases e:g=f
  ·subst e
   have:=(h.odd g).1 hf
   rw [if_pos rfl]
   constructor
   ·exact fun q=>absurd rfl q.1
   ·intro q; omega
  ·rw [if_neg e]; simp [e]
theorem gf {α:Type} [DecidableEq α] {a b:List α} (h:a.Nodup) (hs:∀ x ∈ a,x ∈ b):a.length ≤ b.length:=List.Nodup.length_le_of_subset h hs
theorem tI {l:List Spx} {s f:Spx}:ib (l ++ [s]) f=ib l f + (bo s).count f:=by unfold ib; simp
theorem rk {D:List Spx} {f g:Spx} {m:Nat}:m + (D ++ [f]).count g=m + D.count g + if g=f then 1 else 0:=by
 rw [List.count_append,List.count_singleton,Nat.add_assoc]
 congr 2
 by_cases e:g=f
 ·subst e; simp
 ·rw [if_neg e,if_neg]; simp only [beq_iff_eq]; exact fun h=>e h.symm
theorem nF {O:List Spx} {i:Nat} (h:i < O.length):(O.map au).getD i .undef=au (O.getD i default):=by simp [List.getD,h]
attribute [local irreducible] aD ai aW aN aG aJ aA aK aP bb Go.Abs.Fn aM Go.Abs.Pure aw aF Yl
theorem vw {n:Nat} {c:Spx→Nat} {O:List Spx} {bs:List Nat} {ck:Nat} {f:Spx} {H:Hp} (hn:n ≤ 8) (h:BOk H n c O bs ck) (hf:f.length=n) :
    bz (.st [.int,.int,.int,.int,.int,.int,.int,.int,.int,.int,.int,.int,.int,.int,.int,.int]) (eK (kZ f)) ((O.map kZ).map eK)=some (if f ∈ O then some (O.idxOf f) else none):=by
 rw [vS,uD hn hf h.all]
 by_cases e:f ∈ O
 ·rw [if_pos e,if_pos ((vu hn h.all hf).2 e)]
 ·rw [if_neg e,if_neg fun q=>e ((vu hn h.all hf).1 q)]
set_option maxHeartbeats 1000000 in
theorem lj (a:List Spx) (n:Nat) (hn:n ≤ 8) (ha:a.length ≤ 4096) (hv:∀ s ∈ a,bn bu s) (hl:∀ s ∈ a,s.length=n + 1 ∨ s.length < 2) (h8:∀ s ∈ a,s.length ≤ 8):Pure Try.prog 46 [ap a] (ap (bD a)):=by
 refine Pure.of_c2 follows zS (Nat.le_of_ble_eq_true rfl) ?_
 simp only [b46,cO,cG,cN,cM,cD,cF,cB,aC,aS]
 refine fK ?_
 (have zz:=and_self; repeat' (first|apply a_n|refine zO ?_|refine vY ?_|fail)) <;> (try clear zz)
 refine fK ?_
 (have zz:=and_self; repeat' (first|apply a_n|refine zO ?_|fail)) <;> (try clear zz)
 refine xx ?_
 refine oo (cs:=[.nilm]) rfl rfl rfl ?_
 (have zz:=and_self; repeat' (first|apply a_n|refine zO ?_|refine stY ?_|fail)) <;> (try clear zz)
 refine bt (fun T H nx=>T 3=.ptr 1 1 0∧2 ≤ nx∧H 1=some [.mp 0]∧∃ O bs ck,BOk H n (ib a) O bs ck) ?_ ?_
 ·(have zz:=@af; repeat' (first|refine zW ?_|apply a_n|refine zO ?_|refine vY ?_|fail)) <;> (try clear zz)
  refine bd (X:=Nat) (fun k=>[(3,.ptr 1 1 0),(14,ap a),(15,.int .i64 a.length),(16,.int .i64 k)]) (fun k H nx=>k ≤ a.length∧2 ≤ nx∧H 1=some [.mp 0]∧∃ O bs ck,BOk H n (ib (a.take k)) O bs ck) (fun k=>a.length - k) 0 ⟨Nat.zero_le _,Nat.le_refl _,by rw [ah]; rfl,[],[],0,⟨by rw [ag (by omega),ag (by omega),ah]; rfl,rfl,List.Pairwise.nil,fun s h=>(by cases h),List.nodup_nil,fun s h=>(by cases h),fun f=>⟨fun h=>(by cases h),fun h=>absurd h (by rw [List.take_zero]; exact (by decide:¬ (0:Nat) % 2=1))⟩⟩⟩ (by (iterate 4 refine And.intro rfl ?_); trivial) ?_
  rintro k H nx ⟨h1,h2,h3,O,bs,ck,h4⟩
  by_cases hk:k < a.length
  rotate_left
  ·rw [List.take_of_length_le (by omega)] at h4
   (have zz:=and_self; repeat' (first|refine zW ?_|apply a_n|apply a_x|refine zO ?_|refine vY ?_|(refine zGY ?_ ?_ <;> (intro _hg; try (exfalso; omega)))|fail)) <;> (try clear zz)
   exact ⟨rfl,h2,h3,O,bs,ck,h4⟩
  have ix:=dw hk
  have hts:=b9 hk
  have hvs:=hv _ (aU hk)
  have hls:=hl _ (aU hk)
  have h8s:=h8 _ (aU hk)
  generalize a.getD k default=s at *
  (have zz:=@ix; repeat' (first|refine zW ?_|apply a_n|refine zO ?_|refine vY ?_|(refine zGY ?_ ?_ <;> (intro _hg; try (exfalso; omega)))|fail)) <;> (try clear zz)
  refine aR ev0 ev0 (nC s H nx) ?_
  rintro _ H1 nx1 ⟨rfl,rfl,rfl⟩
  (have zz:=and_self; repeat' (first|refine zW ?_|apply a_n|refine zO ?_|fail)) <;> (try clear zz)
  refine jA (nx + 1) (nx + 2) rfl rfl ev0 (fun c0 cj hy=>?_)
  refine Abs.Fn.mono (np (nx:=nx + 2) (y:=nx + 1) (sb:=nx) (s:=s) (by omega) (fun D H' nx'=>nx + 2 ≤ nx'∧H' nx=some [au s]∧H' (nx + 1)=some [c0]∧H' 1=some [.mp 0]∧∃ O bs ck,BOk H' n (fun f=>ib (a.take k) f + D.count f) O bs ck) ?_ ?_ ?_ ?_) ?_
  ·rintro D H' nx' ⟨g1,g2,g3,g4⟩
   exact g2
  ·rintro D H' H'' n1 n2 ⟨g1,g2,g3,g4,O,bs,ck,g5⟩ hle hsm
   exact ⟨by omega,(hsm _ (by omega)).trans g2,(hsm _ (by omega)).trans g3,(hsm _ (by omega)).trans g4,O,bs,ck,g5.same (hsm _ (by omega)) fun _=>rfl⟩
  ·rintro D f H' nx' ⟨g1,g2,g3,g4,O,bs,ck,g5⟩ hlt hfe hDe
   refine hy _ _ _ _ g3 rfl ?_
   clear hy
   have h2s:2 ≤ s.length:=Nat.le_of_not_lt fun h=>by
    have:fcs s=[]:=by unfold fcs; rw [if_pos h]
    rw [this] at hlt; simp at hlt
   have hfl:f.length=n:=by
    rw [hfe,rT h2s (by rw [n5 h2s] at hlt; exact hlt),List.length_append,List.length_take,List.length_drop]
    rw [n5 h2s] at hlt
    omega
   clear hfe hDe
   (have zz:=and_self; repeat' (first|apply a_n|refine zO ?_|refine vY ?_|fail)) <;> (try clear zz)
   refine ⟨g3,?_⟩
   have hmf:=vw hn g5 hfl
   have q0:=(bP (H:=H') (b:=nx + 1) (x:=0) (by omega)).trans g5.box
   have q1:=(bP (H:=H') (b:=nx + 1) (x:=1) (by omega)).trans g4
   have q2:=(bP (H:=H') (b:=nx + 1) (x:=nx) (by omega)).trans g2
   generalize bK H' (nx + 1)=H2 at *
   (have zz:=and_self; repeat' (first|refine zW ?_|apply a_n|refine zO ?_|refine alY ?_|fail)) <;> (try clear zz)
   generalize hH3:aq H2 nx' z16=H3
   have p0:H3 0=H2 0:=by rw [← hH3]; exact ag (by omega)
   have p1:H3 1=H2 1:=by rw [← hH3]; exact ag (by omega)
   have p2:H3 nx=H2 nx:=by rw [← hH3]; exact ag (by omega)
   have p3:H3 nx'=some z16:=by rw [← hH3]; exact ah
   clear hH3
   refine xl rfl p3 rfl rfl ?_
   (have zz:=and_self; repeat' (first|apply a_n|refine zO ?_|refine vY ?_|fail)) <;> (try clear zz)
   refine xc (n:=f.length) (H':=aq H3 nx' ((dR 8 f).map (AV.int .i64))) ?_ ?_
   ·((try simp only [bN,ZA,reduceEqDiff,↓reduceIte,reduceAdd,reduceLeDiff]); (try with_reducible rfl))
    have hnn:dF (au f)=some f.length:=by unfold au eJ; simp [dF]
    have htr:nu f.length (au f)=au f:=by unfold au eJ; simp [nu]; exact List.take_of_length_le (by simp)
    have hmin:min f.length 8=f.length:=Nat.min_eq_left (by omega)
    have hal:dF (.msl nx' 16 2 0 8)=some 8:=rfl
    have hlp:bj z16 0 (cX f)=(dR 8 f).map (AV.int .i64):=by
     rw [← px (n:=8) (s:=f) (by omega),xG]
     simp only [bj,List.take_zero,List.nil_append,Nat.zero_add,dK]
    by_cases hf0:f.length=0
    ·obtain rfl:=List.length_eq_zero_iff.1 hf0
     have e0:(dR 8 []).map (AV.int .i64)=z16:=rfl
     rw [e0,← sI p3]
     simp only [jY,hal,hnn,hmin]
     rfl
    ·simp only [jY,hal,hnn,hmin,if_neg hf0,p3,htr,ny]
     rw [if_pos (by refine ⟨?_,?_,?_,?_⟩ <;> first | rfl | trivial | omega | exact fv f),hlp]
   have hl16:((dR 8 f).map (AV.int .i64)).length=16:=by rw [List.length_map,je]
   have ht:((dR 8 f).map (AV.int .i64)).take 16=(dR 8 f).map (AV.int .i64):=List.take_of_length_le (by omega)
   have r0:=(ag (H:=H3) (b:=nx') (x:=0) (cs:=(dR 8 f).map (AV.int .i64)) (by omega)).trans (p0.trans q0)
   have r1:=(ag (H:=H3) (b:=nx') (x:=1) (cs:=(dR 8 f).map (AV.int .i64)) (by omega)).trans (p1.trans q1)
   have r2:=(ag (H:=H3) (b:=nx') (x:=nx) (cs:=(dR 8 f).map (AV.int .i64)) (by omega)).trans (p2.trans q2)
   have r3:aq H3 nx' ((dR 8 f).map (AV.int .i64)) nx'=some ((dR 8 f).map (AV.int .i64)):=ah
   generalize aq H3 nx' ((dR 8 f).map (AV.int .i64))=H4 at *
   have hek:eK (kZ f)=.agg ((dR 8 f).map (AV.int .i64)):=rfl
   have hkf:=sn (kZ f)
   rw [hek] at hmf hkf
   have hcnt:∀ g,ib (a.take k) g + (D ++ [f]).count g=ib (a.take k) g + D.count g + if g=f then 1 else 0:=fun g=>rk
   by_cases hf:f ∈ O
   ·rw [if_pos hf] at hmf
    have hil:O.idxOf f < O.length:=List.idxOf_lt_length_iff.2 hf
    have hgv:mget .esl true (some (O.idxOf f)) (O.map au)=.tup [au (O.getD (O.idxOf f) default),.bool true]:=by
     rw [← nF hil]; rfl
    generalize hKK:(dR 8 f).map (AV.int .i64)=KK at *
    (have zz:=aI @r1 (aI @r3 (aI @hl16 @ht)); repeat' (first|refine zW ?_|apply a_n|refine zO ?_|refine vY ?_|fail)) <;> (try clear zz)
    refine rX ev0 r0 ev0 hkf hmf ?_
    rw [hgv]
    (have zz:=aI @r1 (aI @r3 (aI @hl16 @ht)); repeat' (first|refine zW ?_|apply a_n|refine zO ?_|refine vY ?_|refine cTY ?_|fail)) <;> (try clear zz)
    refine xQ ev0 r0 ev0 hkf hmf ?_
    (have zz:=and_self; repeat' (first|apply a_n|refine zO ?_|fail)) <;> (try clear zz)
    exact ⟨rfl,by omega,by rw [ag (by omega),ag (by omega)]; exact r2,ah,by rw [ag (by omega),ag (by omega)]; exact r1,O.erase f,bs.eraseIdx (O.idxOf f),ck,g5.del hf rfl (by rw [ag (by omega),ah]; rfl) hcnt⟩
   ·rw [if_neg hf] at hmf
    have hgv:mget .esl true none (O.map au)=.tup [.esl,.bool false]:=rfl
    generalize hKK:(dR 8 f).map (AV.int .i64)=KK at *
    (have zz:=aI @r1 (aI @r3 (aI @hl16 @ht)); repeat' (first|refine zW ?_|apply a_n|refine zO ?_|refine vY ?_|fail)) <;> (try clear zz)
    refine rX ev0 r0 ev0 hkf hmf ?_
    rw [hgv]
    (have zz:=aI @r1 (aI @r3 (aI @hl16 @ht)); repeat' (first|refine zW ?_|apply a_n|refine zO ?_|refine vY ?_|refine cFY ?_|fail)) <;> (try clear zz)
    refine wM ev0 r0 ev0 ev0 hkf hmf ?_
    (have zz:=and_self; repeat' (first|apply a_n|refine zO ?_|fail)) <;> (try clear zz)
    exact ⟨rfl,by omega,by rw [ag (by omega),ag (by omega)]; exact r2,ah,by rw [ag (by omega),ag (by omega)]; exact r1,O ++ [f],bs ++ [ck],ck + 1,g5.put hf hfl (by rw [ag (by omega),ah,hek]; rfl) hcnt⟩
  ·exact ⟨Nat.le_refl _,by rw [ag (by omega),ah],ah,by rw [ag (by omega),ag (by omega)]; exact h3,O,bs,ck,h4.same (by rw [ag (by omega),ag (by omega)]) fun f=>by simp⟩
  ·rintro r H' nx' ⟨g1,g2,g3,g4,O,bs,ck,g5⟩
   refine .inl ⟨g3,?_⟩
   (have zz:=and_self; repeat' (first|apply a_n|refine zO ?_|refine vY ?_|fail)) <;> (try clear zz)
   exact ⟨k + 1,by omega,⟨by omega,by omega,by rw [bP (by omega)]; exact g4,O,bs,ck,g5.same (bP (by omega)) fun f=>by rw [hts,tI,lD.count_eq]⟩,ag0⟩
 rintro T H nx ⟨t3,h2,h3,O,bs,ck,h4⟩
 have hO70:O.length ≤ 300000:=by
  have he:=fx hv
  have h5:O.length ≤ (bD a).length:=gf h4.nd fun f hf=>(he.2 f).2 ((h4.odd f).1 hf)
  have:=nW h8
  omega
 (have zz:=aI @t3 @h3; repeat' (first|refine zW ?_|apply a_n|refine zO ?_|refine vY ?_|fail)) <;> (try clear zz)
 refine ww ev0 h4.box ?_
 (have zz:=and_self; repeat' (first|refine zW ?_|apply a_n|refine zO ?_|fail)) <;> (try clear zz)
 have hbn:bs.Nodup:=List.Pairwise.imp (fun {x y} (h:x < y) e=>by omega) h4.asc
 refine bd (X:=List Nat × List Spx × AV) (fun x=>[(10,x.2.2),(40,.itr nx)]) (fun x H' nx'=>H' nx=some [.biter 0 ck x.1]∧nx < nx'∧BOk H' n (ib a) O bs ck∧x.1.Nodup∧(∀ s ∈ x.1,s ∈ bs)∧x.2.1=x.1.map (fun s=>O.getD (bs.idxOf s) default)∧Row H' 1 x.2.2 (x.2.1.map au)∧∀ b,b6 x.2.2=some b→nx < b∧b < nx') (fun x=>bs.length - x.1.length) ([],[],.esl) ⟨ah,Nat.lt_succ_self _,h4.same (ag (by omega)) fun _=>rfl,List.nodup_nil,fun s h=>(by cases h),rfl,Row.nil,fun b h=>(by cases h)⟩ (by (iterate 2 refine And.intro rfl ?_); trivial) ?_
 rintro ⟨seen,D,sv⟩ H1 nx1 ⟨hit,hnx,k4,hsn,hsb,hD,hrow,hbd⟩
 dsimp only at hit hsn hsb hD hrow hbd ⊢
 have hsl:seen.length ≤ bs.length:=gf hsn hsb
 have hDl:D.length=seen.length:=by rw [hD,List.length_map]
 have hbl:=k4.len
 (have zz:=and_self; repeat' (first|refine zW ?_|apply a_n|refine zO ?_|fail)) <;> (try clear zz)
 refine wq ev0 hit k4.box (fun i s hi hns=>?_) (fun hall=>?_)
 ·(have zz:=and_self; repeat' (first|refine zW ?_|apply a_n|refine zO ?_|refine vY ?_|refine cTY ?_|fail)) <;> (try clear zz)
  refine v4 (i:=i) (s:=s) ev0 ah (by rw [ag (by omega)]; exact k4.box) (by simp) hi ?_
  obtain ⟨hil,his⟩:=List.getElem?_eq_some_iff.1 hi
  have hgx:=nF (O:=O) (i:=i) (by omega)
  have hidx:bs.idxOf s=i:=by
   have h5:=List.idxOf_lt_length_iff.2 (show s ∈ bs by rw [← his]; exact List.getElem_mem hil)
   have h6:bs[bs.idxOf s]=bs[i]:=by rw [List.getElem_idxOf h5,his]
   exact (List.getElem_inj hbn).1 h6
  have hsnd:(seen ++ [s]).Nodup:=List.nodup_append.2 ⟨hsn,by simp,fun x hx y hy e=>by rw [e,List.mem_singleton.1 hy] at hx; exact hns hx⟩
  have hssb:∀ x ∈ seen ++ [s],x ∈ bs:=fun x hx=>by
   rcases List.mem_append.1 hx with q | q
   ·exact hsb x q
   ·rw [List.mem_singleton.1 q,← his]; exact List.getElem_mem hil
  have hsl2:=gf hsnd hssb
  rw [List.length_append,List.length_singleton] at hsl2
  (have zz:=aI @hgx (aI @az @ar); repeat' (first|apply a_n|refine zO ?_|refine vY ?_|refine blY ?_|fail)) <;> (try clear zz)
  refine e8 rfl ev0 (hrow.same fun b hb=>?_) ev0 dv rfl rfl Nat.one_pos (by rw [List.length_map]; omega) (by rw [List.length_map]; omega) ?_
  ·have:=hbd b hb
   rw [ag (by omega),ag (by omega)]
  rintro s2 H2 nx2 hr2 i1 i2 i3 i4
  have lo:∀ x,x ≤ nx→H2 x=aq H1 nx [.biter 0 ck (seen ++ [s])] x:=fun x hx=>(i3 x (by omega) (fun h=>by have:=hbd x h; omega)).trans (ag (by omega))
  (have zz:=and_self; repeat' (first|apply a_n|refine zO ?_|refine vY ?_|fail)) <;> (try clear zz)
  refine ⟨(seen ++ [s],D ++ [O.getD i default],s2),by dsimp only; rw [List.length_append,List.length_singleton]; omega,⟨(lo nx (Nat.le_refl _)).trans ah,by omega,k4.same ((lo 0 (by omega)).trans (ag (by omega))) fun _=>rfl,hsnd,hssb,?_,?_,fun b hb=>?_⟩,ag0⟩
  ·dsimp only
   rw [hD,List.map_append,List.map_singleton,hidx]
  ·dsimp only
   rw [List.map_append]; exact hr2
  ·rcases i4 b hb with h | h
   ·have:=hbd b h; omega
   ·omega
 ·have hperm:seen.Perm bs:=(List.perm_ext_iff_of_nodup hsn hbn).2 fun x=>⟨hsb x,hall x⟩
  have hDO:D.Perm O:=by
   rw [hD]
   refine (hperm.map _).trans (List.Perm.of_eq ?_)
   refine List.ext_getElem (by rw [List.length_map]; exact hbl) fun j g1 g2=>?_
   rw [List.length_map] at g1
   have h5:bs.idxOf bs[j]=j:=by
    have h5:=List.idxOf_lt_length_iff.2 (List.getElem_mem g1)
    have h6:bs[bs.idxOf bs[j]]=bs[j]:=List.getElem_idxOf h5
    exact (List.getElem_inj hbn).1 h6
   rw [List.getElem_map,h5]
   simp [List.getD,g2]
  have hDn:D.Nodup:=hDO.nodup_iff.2 k4.nd
  have hDm:∀ s,s ∈ D ↔ s ∈ bD a:=fun s=>by rw [hDO.mem_iff,k4.odd,(fx hv).2]
  have hfin:=v8 il (tM hv)
  have hsort:Abs.Fn Try.prog 73 [sv,.func 40 []] H1 nx1 fun _ H' nx'=>Row H' 1 sv ((bD a).map au):=by
   generalize hcs:D.map au=cs at hrow
   cases hrow with
   | nil =>
    have hD0:D=[]:=List.map_eq_nil_iff.1 hcs
    refine Abs.Fn.mono (iV rfl) ?_
    rintro _ _ _ ⟨rfl,rfl⟩
    have:bD a=[]:=by
     rw [List.eq_nil_iff_forall_not_mem]
     intro s h
     have:=(hDm s).2 h
     rw [hD0] at this; cases this
    rw [this]; exact Row.nil
   | box b len cs k1 k2 =>
    obtain rfl:len=D.length:=by rw [← hcs,List.length_map] at k2; omega
    have hb:=hbd b rfl
    subst hcs
    by_cases h0:D.length=0
    ·have hD0:D=[]:=List.length_eq_zero_iff.1 h0
     have he:bD a=[]:=by
      rw [List.eq_nil_iff_forall_not_mem]
      intro s h
      have:=(hDm s).2 h
      rw [hD0] at this; cases this
     have hrw:Row H1 1 (.msl b (D.length * 1) 1 0 D.length) ((bD a).map au):=by
      have:=Row.box (H:=H1) (sz:=1) b D.length _ k1 (by rw [List.length_map,Nat.mul_one])
      rw [he]; rwa [hD0] at this ⊢
     refine Abs.Fn.mono (iV (by rw [h0]; rfl)) ?_
     rintro _ _ _ ⟨_,e⟩
     rw [e]; exact hrw
    ·have hg:∀ s ∈ D,Shn s:=fun s h=>show s.length ≤ _ by have:=k4.all s (hDO.mem_iff.1 h); omega
     have hsf:=rV yt (L:=D) (b:=b) (nx:=nx1) (n:=D.length) k1 hb.2 rfl (by omega) hg (by omega)
     rw [Nat.mul_one]
     refine Abs.Fn.mono hsf ?_
     rintro _ H' nx' ⟨L',ps,p1,p2⟩
     have hlen:=p1.length_eq
     have:=kp p1 (by rw [hlen]; exact p2) hDn hDm
     rw [hfin] at this
     rw [← this,← hlen]
     have:=Row.box (H:=H') (sz:=1) b L'.length (L'.map au) ps.at_ (by simp)
     rwa [Nat.mul_one] at this
  (have zz:=and_self; repeat' (first|refine zW ?_|apply a_n|apply a_x|refine zO ?_|refine vY ?_|refine cFY ?_|fail)) <;> (try clear zz)
  refine aR ev0 ev0 hsort ?_
  rintro r H' nx' hr
  (have zz:=and_self; repeat' (first|refine zW ?_|apply a_n|refine zO ?_|refine vY ?_|refine aj rfl ?_|refine r1Y ?_|fail)) <;> (try clear zz)
  exact eM hr
end Go.Proofs.Ytfcenbapjhecfaa
namespace Go.Proofs.Ytfcenbapjhecfaa
open Go Go.Abs
theorem sT {s f:Spx} (hs:bc s=0) (hf:f ∈ bo s):bc f=0:=by
 obtain ⟨h1,h2,h3⟩:=fA.1 hf
 obtain ⟨p1,p2,p3,p4⟩:=cz hs
 exact pM ⟨by omega,by omega⟩ (p3.sublist h2) fun v hv=>p4 v (h2.subset hv)
theorem ns {a:List Spx} (ha:∀ s ∈ a,bc s=0):∀ f ∈ bD a,bc f=0:=fun f hf=>by
 obtain ⟨s,h1,h2⟩:=mv (iC ha) hf
 exact sT (ha s h1) h2
theorem rh {a o:List Spx} {k:Nat} (hk:k < a.length):fj (a.take (k + 1)) o=cm aO (fj (a.take k) o) (bo (a.getD k default)):=by
 rw [b9 hk]
 unfold fj
 rw [List.foldl_append]; rfl
theorem pX {a:List Spx} (h:∀ s ∈ a,bc s=0):∀ s ∈ a,s.length ≤ 8:=fun s hs=>(cz (h s hs)).2.1
def eI (a:List Spx):List Spx × Int:=if bT a ≠ 0 then ([],bT a) else if 4096 < (bD a).length then ([],5) else (bD a,0)
def qA (a:List Spx):Bool × Int:=if bT a ≠ 0 then (false,bT a) else (decide (bD a=[]),0)
attribute [local irreducible] aD ai aW aN aG aJ aA aK aP bb Go.Abs.Fn aM Go.Abs.Pure aw aF Yl
theorem uX (s:Spx) (hs:s.length ≤ 8):Pure Try.prog 74 [au s] (ap (bo s)):=by
 refine Pure.of_c2 follows zT (Nat.le_of_ble_eq_true rfl) ?_
 simp only [b74,cO,cG,cN,cM,cD,cF,cB,aC,aS]
 unfold bo
 by_cases h:s.length < 2
 ·have z:decide ((s.length:Int) < 2)=true:=decide_eq_true (by omega)
  rw [if_pos h]
  (have zz:=aI @ao @z; repeat' (first|refine zW ?_|apply a_n|apply a_r|refine zO ?_|refine vY ?_|refine cTY ?_|refine aj rfl ?_|refine r1Y ?_|fail)) <;> (try clear zz)
  exact .eslsl 1
 ·have z:decide ((s.length:Int) < 2)=false:=decide_eq_false (by omega)
  rw [if_neg h]
  have hs1:=qO (s.length - 1) s (by omega) hs
  rw [show ((s.length - 1:Nat):Int)=(s.length:Int) - 1 by omega] at hs1
  (have zz:=aI @ao @z; repeat' (first|refine zW ?_|apply a_n|refine zO ?_|refine vY ?_|refine cY ?_ (hp:=hs1) (hs:=by (first | refine ab ?_ rfl | apply ac); (repeat' (first | exact aa | apply an | apply ae | exact ay _)); first | done | fail)|refine cFY ?_|refine aj rfl ?_|refine r1Y ?_|fail)) <;> (try clear zz)
  exact ax _ _
theorem rU (a:List Spx) (ha:a.length ≤ 4096) (h8:∀ s ∈ a,s.length ≤ 8) (hv:∀ s ∈ a,bn bu s):Pure Try.prog 47 [ap a] (ap (bD a)):=by
 refine Pure.of_c2 follows AR (Nat.le_of_ble_eq_true rfl) ?_
 simp only [b47,cO,cG,cN,cM,cD,cF,cB,aC,aS]
 (have zz:=@af; repeat' (first|refine zW ?_|apply a_n|refine zO ?_|refine vY ?_|fail)) <;> (try clear zz)
 refine xe (X:=Nat) (fun j=>[(0,ap a),(3,ap (fj (a.take j) [])),(4,.int .i64 j)]) (fun j H' nx'=>j ≤ a.length) (fun j=>a.length - j) 0 ⟨_,_,Fz.none,Nat.zero_le _,⟨.inl rfl,.inr (.eslsl 1),.inl rfl,trivial⟩⟩ ?_
 rintro j H nx j1
 by_cases hj:j < a.length
 rotate_left
 ·rw [List.take_of_length_le (by omega)]
  (have zz:=@af; repeat' (first|refine zW ?_|apply a_n|apply a_x|refine zO ?_|refine vY ?_|(refine zGY ?_ ?_ <;> (intro _hg; try (exfalso; omega)))|refine aj rfl ?_|refine r1Y ?_|fail)) <;> (try clear zz)
  exact ax _ _
 have ix:=dw hj
 have h8s:=h8 _ (aU hj)
 have hvs:=hv _ (aU hj)
 have het:=rh (o:=[]) hj
 have hlen:=jg (a.take j) [] fun s hs=>h8 s (List.mem_of_mem_take hs)
 have hel:∀ f ∈ fj (a.take j) [],Shn f:=fun f hf=>by
  obtain ⟨s,h1,h2⟩:=mv (a:=a.take j) (fun s hs=>hv s (List.mem_of_mem_take hs)) hf
  have:=h8 s (List.mem_of_mem_take h1)
  have:=(fA.1 h2).2.2
  show _ ≤ _; omega
 rw [List.length_nil,List.length_take] at hlen
 generalize a.getD j default=s at *
 have hf:=uX s h8s
 have hfl:(bo s).length ≤ 70:=by
  unfold bo; split
  ·exact Nat.zero_le _
  ·exact gw h8s
 have hp:=xU (fj (a.take j) []) (bo s) ⟨by omega,hel⟩ ⟨by omega,fun f hf=>by have:=(fA.1 hf).2.2; show _ ≤ _; omega⟩
 rw [← het] at hp
 (have zz:=aI @af @ix; repeat' (first|refine zW ?_|apply a_n|refine zO ?_|refine vY ?_|refine cY ?_ (hp:=by first | exact hf | exact hp) (hs:=by (first | refine ab ?_ rfl | apply ac); (repeat' (first | exact aa | apply an | apply ae | exact ax _ | exact ay _)); first | done | fail)|(refine zGY ?_ ?_ <;> (intro _hg; try (exfalso; omega)))|fail)) <;> (try clear zz)
 exact ⟨j + 1,by omega,_,_,Fz.none,by omega,kL ag0⟩
theorem nc {a:List Spx} (h:bT a=0):Pure Try.prog 46 [ap a] (ap (bD a)):=by
 obtain ⟨h1,h2,h3,h4⟩:=dD h
 by_cases h0:a=[]
 ·subst h0
  exact lj [] 0 (by omega) (by simp) (by simp) (by simp) (by simp)
 ·have hm:a.getD 0 default ∈ a:=aU (List.length_pos_iff.2 h0)
  have h5:=cz (h2 _ hm)
  exact lj a ((a.getD 0 default).length - 1) (by omega) h1 (iC h2) (fun s hs=>.inl (by rw [h4 s hs]; omega)) (pX h2)
theorem qm {a:List Spx} (h:bT a=0):Shn (bD a)∧∀ s ∈ bD a,s.length ≤ 1000000:=by
 obtain ⟨h1,h2,h3,h4⟩:=dD h
 have:=nW (pX h2)
 exact ⟨show _ ≤ _ by omega,qr (ns h2)⟩
theorem oS (a:List Spx) (ha:ShC a):Pure Try.prog 17 [ap a] (.tup [ap (eI a).1,.int .i64 (eI a).2]):=by
 refine Pure.of_c2 follows Ap (Nat.le_of_ble_eq_true rfl) ?_
 simp only [b17,cO,cG,cN,cM,cD,cF,cB,aC,aS]
 have f1:=jd a ha
 unfold eI
 by_cases h:bT a=0
 rotate_left
 ·have z:decide (bT a ≠ 0)=true:=decide_eq_true h
  rw [if_pos h]
  (have zz:=@z; repeat' (first|refine zW ?_|apply a_n|apply a_r|refine zO ?_|refine vY ?_|refine cY ?_ (hp:=f1) (hs:=by (first | refine ab ?_ rfl | apply ac); (repeat' (first | exact aa | apply an | apply ae | exact ax _)); first | done | fail)|refine cTY ?_|refine aj rfl ?_|refine r2Y ?_|fail)) <;> (try clear zz)
  exact bS (.eslsl _) rfl
 rw [if_neg (fun q=>q h)]
 have f2:=nc h
 have f3:=nI (bD a) (qm h).1 (qm h).2
 have z:decide ((0:Int) ≠ 0)=false:=rfl
 rw [h] at f1
 have hfin:(if 4096 < (bD a).length then (([]:List Spx),(5:Int)) else (bD a,0))=(if 4096 < (bD a).length then [] else bD a,if 4096 < (bD a).length then 5 else 0):=by
  split <;> rfl
 rw [hfin]
 (have zz:=@z; repeat' (first|refine zW ?_|apply a_n|refine zO ?_|refine vY ?_|refine cY ?_ (hp:=by first | exact f1 | exact f2 | exact f3) (hs:=by (first | refine ab ?_ rfl | apply ac); (repeat' (first | exact aa | apply an | apply ae | exact ax _)); first | done | fail)|refine cFY ?_|refine aj rfl ?_|refine r2Y ?_|fail)) <;> (try clear zz)
 exact bS (ax _).snap rfl
theorem wX (a:List Spx) (ha:ShC a):Pure Try.prog 19 [ap a] (.tup [.bool (qA a).1,.int .i64 (qA a).2]):=by
 refine Pure.of_c2 follows Aj (Nat.le_of_ble_eq_true rfl) ?_
 simp only [b19,cO,cG,cN,cM,cD,cF,cB,aC,aS]
 have f1:=jd a ha
 unfold qA
 by_cases h:bT a=0
 rotate_left
 ·have z:decide (bT a ≠ 0)=true:=decide_eq_true h
  rw [if_pos h]
  (have zz:=@z; repeat' (first|refine zW ?_|apply a_n|apply a_r|refine zO ?_|refine vY ?_|refine cY ?_ (hp:=f1) (hs:=by (first | refine ab ?_ rfl | apply ac); (repeat' (first | exact aa | apply an | apply ae | exact ax _)); first | done | fail)|refine cTY ?_|refine aj rfl ?_|refine r2Y ?_|fail)) <;> (try clear zz)
  exact oM rfl rfl
 rw [if_neg (fun q=>q h)]
 have f2:=nc h
 have z:decide ((0:Int) ≠ 0)=false:=rfl
 have z2:decide ((((bD a).length:Nat):Int)=0)=decide (bD a=[]):=decide_eq_decide.2 (by rw [← List.length_eq_zero_iff]; omega)
 rw [h] at f1
 (have zz:=aI @z (aI @z2 @af); repeat' (first|refine zW ?_|apply a_n|refine zO ?_|refine vY ?_|refine cY ?_ (hp:=by first | exact f1 | exact f2) (hs:=by (first | refine ab ?_ rfl | apply ac); (repeat' (first | exact aa | apply an | apply ae | exact ax _)); first | done | fail)|refine cFY ?_|refine aj rfl ?_|refine r2Y ?_|fail)) <;> (try clear zz)
 exact oM rfl rfl
theorem u9 (a:List Spx) (ha:ShC a):Pure Try.prog 18 [ap a] (.tup [ap (eI a).1,.int .i64 (eI a).2]):=by
 refine Pure.of_c2 follows AQ (Nat.le_of_ble_eq_true rfl) ?_
 simp only [b18,cO,cG,cN,cM,cD,cF,cB,aC,aS]
 have f1:=rZ a ha
 unfold eI
 by_cases h:bT a=0
 rotate_left
 ·have z:decide (bT a ≠ 0)=true:=decide_eq_true h
  rw [if_pos h]
  (have zz:=@z; repeat' (first|refine zW ?_|apply a_n|apply a_r|refine zO ?_|refine vY ?_|refine cY ?_ (hp:=f1) (hs:=by (first | refine ab ?_ rfl | apply ac); (repeat' (first | exact aa | apply an | apply ae | exact ax _)); first | done | fail)|refine cTY ?_|refine aj rfl ?_|refine r2Y ?_|fail)) <;> (try clear zz)
  exact bS (.eslsl _) rfl
 rw [if_neg (fun q=>q h)]
 obtain ⟨h1,h2,h3,h4⟩:=dD h
 have f2:=rU a h1 (pX h2) (iC h2)
 have z:decide ((0:Int) ≠ 0)=false:=rfl
 rw [h] at f1
 by_cases h5:4096 < (bD a).length
 ·have z2:decide ((4096:Int) < ((bD a).length:Nat))=true:=decide_eq_true (by omega)
  rw [if_pos h5]
  (have zz:=aI @z (aI @z2 @af); repeat' (first|refine zW ?_|apply a_n|apply a_r|refine zO ?_|refine vY ?_|refine cY ?_ (hp:=by first | exact f1 | exact f2) (hs:=by (first | refine ab ?_ rfl | apply ac); (repeat' (first | exact aa | apply an | apply ae | exact ax _)); first | done | fail)|refine cTY ?_|refine cFY ?_|refine aj rfl ?_|refine r2Y ?_|fail)) <;> (try clear zz)
  exact bS (.eslsl _) rfl
 ·have z2:decide ((4096:Int) < ((bD a).length:Nat))=false:=decide_eq_false (by omega)
  rw [if_neg h5]
  (have zz:=aI @z (aI @z2 @af); repeat' (first|refine zW ?_|apply a_n|refine zO ?_|refine vY ?_|refine cY ?_ (hp:=by first | exact f1 | exact f2) (hs:=by (first | refine ab ?_ rfl | apply ac); (repeat' (first | exact aa | apply an | apply ae | exact ax _)); first | done | fail)|refine cFY ?_|refine aj rfl ?_|refine r2Y ?_|fail)) <;> (try clear zz)
  exact bS (ax _).snap rfl
theorem xO (a:List Spx) (ha:ShC a):Pure Try.prog 20 [ap a] (.tup [.bool (qA a).1,.int .i64 (qA a).2]):=by
 refine Pure.of_c2 follows AK (Nat.le_of_ble_eq_true rfl) ?_
 simp only [b20,cO,cG,cN,cM,cD,cF,cB,aC,aS]
 have f1:=rZ a ha
 unfold qA
 by_cases h:bT a=0
 rotate_left
 ·have z:decide (bT a ≠ 0)=true:=decide_eq_true h
  rw [if_pos h]
  (have zz:=@z; repeat' (first|refine zW ?_|apply a_n|apply a_r|refine zO ?_|refine vY ?_|refine cY ?_ (hp:=f1) (hs:=by (first | refine ab ?_ rfl | apply ac); (repeat' (first | exact aa | apply an | apply ae | exact ax _)); first | done | fail)|refine cTY ?_|refine aj rfl ?_|refine r2Y ?_|fail)) <;> (try clear zz)
  exact oM rfl rfl
 rw [if_neg (fun q=>q h)]
 obtain ⟨h1,h2,h3,h4⟩:=dD h
 have f2:=rU a h1 (pX h2) (iC h2)
 have z:decide ((0:Int) ≠ 0)=false:=rfl
 have z2:decide ((((bD a).length:Nat):Int)=0)=decide (bD a=[]):=decide_eq_decide.2 (by rw [← List.length_eq_zero_iff]; omega)
 rw [h] at f1
 (have zz:=aI @z (aI @z2 @af); repeat' (first|refine zW ?_|apply a_n|refine zO ?_|refine vY ?_|refine cY ?_ (hp:=by first | exact f1 | exact f2) (hs:=by (first | refine ab ?_ rfl | apply ac); (repeat' (first | exact aa | apply an | apply ae | exact ax _)); first | done | fail)|refine cFY ?_|refine aj rfl ?_|refine r2Y ?_|fail)) <;> (try clear zz)
 exact oM rfl rfl
end Go.Proofs.Ytfcenbapjhecfaa
namespace Go.Proofs.Ytfcenbapjhecfaa
open Go Go.Abs
def on3 (b1:Nat) (c1:List AV) (b2:Nat) (c2:List AV) (b3:Nat) (c3:List AV):Hp:=fun x=>if x=b1 then some c1 else if x=b2 then some c2 else if x=b3 then some c3 else none
theorem yh {P:Program} {T:Tm} {H:Hp} {nx:Nat} (b1 b2 b3:Nat) {c1 c2 c3:List AV} {K:CP} {m:Nat} {l:List Op2} {C:List (Nat × Nat)} (h1:H b1=some c1) (h2:H b2=some c2) (h3:H b3=some c3) (n1:b2 ≠ b1) (n2:b3 ≠ b1) (n3:b3 ≠ b2) (k:∀ S:Hp,S b1=some c1→S b2=some c2→S b3=some c3→(∀ H':Hp,H' b1=some c1→H' b2=some c2→H' b3=some c3→Sub S H')→a5 P S (C.map fun k=>(l.getD k.1 ⟨none,none,.dead⟩,k.2)) T H nx fun T H nx=>K .normal T H nx):aD P (.mixS m l C) T H nx K:=by
 have hsub:∀ H':Hp,H' b1=some c1→H' b2=some c2→H' b3=some c3→Sub (on3 b1 c1 b2 c2 b3 c3) H':=fun H' a b c x cs h=>by
  unfold on3 at h
  split at h
  ·rename_i e; rw [e,a]; exact h
  split at h
  ·rename_i e; rw [e,b]; exact h
  split at h
  ·rename_i e; rw [e,c]; exact h
  ·cases h
 refine oH (on3 b1 c1 b2 c2 b3 c3) rfl (hsub H h1 h2 h3) (k _ ?_ ?_ ?_ hsub)
 ·unfold on3; rw [if_pos rfl]
 ·unfold on3; rw [if_neg n1,if_pos rfl]
 ·unfold on3; rw [if_neg n2,if_neg n3,if_pos rfl]
theorem ru {α:Type} {p q:Prop} [Decidable p] [Decidable q] (h:p ↔ q) {a b:α}:(if p then a else b)=if q then a else b:=by
 by_cases hq:q
 ·rw [if_pos hq,if_pos (h.2 hq)]
 ·rw [if_neg hq,if_neg fun x=>hq (h.1 x)]
def ud (c:List Spx) (d:Int):List Spx × Int:=if d < 0 then ([],0) else dJ c (d + 1)
def dC (c:List Spx) (d:Int):List Spx:=if d ≤ 0 then [] else iB c d.toNat
def nt (c:List Spx) (d:Int):(Int × List (List Int)) × Int:=if bl c ≠ 0 then ((0,[]),bl c) else if d < 0 ∨ 8 ≤ d then ((0,[]),2) else ((((dC c (d + 1)).length:Nat),y8 (dC c (d + 1)) (dC c d)),0)
theorem wK {c:List Spx} {d:Int} (hc:bl c=0) (h1:-1 ≤ d) (h2:d < 8):ud c d=(dC c (d + 1),0):=by
 unfold ud dC dJ
 by_cases h:d < 0
 ·rw [if_pos h,if_pos (by omega)]
 ·rw [if_neg h,if_neg (fun q=>q hc),if_neg (by omega),if_neg (by omega)]
theorem nM {c:List Spx} {d:Int}:bn aO (dC c d):=by
 unfold dC; split
 ·exact bn.nil
 ·exact uI
theorem jH {c:List Spx} {d:Int} (hc:c.length ≤ 50) (h:bl c=0):(dC c d).length ≤ 3500:=by
 unfold dC; split
 ·exact Nat.zero_le _
 ·exact uc hc (pX (gX h).2.1)
theorem sQ {c:List Spx} {d:Int} {s:Spx}:s ∈ dC c d ↔ 0 < d∧s.length=d.toNat∧∃ t ∈ c,s.Sublist t:=by
 unfold dC; split
 ·exact ⟨fun h=>(by cases h),fun h=>absurd h.1 (by omega)⟩
 ·rw [uh]
  constructor
  ·rintro ⟨t,t1,t2⟩
   exact ⟨by omega,(cK.1 t2).2,t,t1,(cK.1 t2).1⟩
  ·rintro ⟨_,h1,t,t1,t2⟩
   exact ⟨t,t1,cK.2 ⟨t2,h1⟩⟩
theorem ir {c:List Spx} {d:Int} (h:bl c=0):∀ s ∈ dC c d,bc s=0:=fun s hs=>by
 obtain ⟨h1,h2,t,t1,t2⟩:=sQ.1 hs
 obtain ⟨p1,p2,p3,p4⟩:=cz ((gX h).2.1 t t1)
 have:=t2.length_le
 exact pM ⟨by omega,by omega⟩ (p3.sublist t2) fun v hv=>p4 v (t2.subset hv)
attribute [local irreducible] aD ai aW aN aG aJ aA aK aP bb Go.Abs.Fn aM Go.Abs.Pure aw aF Yl
theorem p6 (l:List Spx) (v:Spx) (hl:Shn l) (hs:∀ c ∈ l,Shn c) (hv:Shn v) (ha:bn aO l):∃ b:Nat,Pure Try.prog 52 [ap l,au v] (.tup [.int .i64 b,.bool (decide (v ∈ l))])∧(v ∈ l→b < l.length∧l.getD b default=v):=by
 obtain ⟨b,hb,h1,h2⟩:=md (fun i=>aO (l.getD i default) v) l.length (fun i j hij hj h=>il.trans (dB ha hij hj) h)
 have hc:=qU l v hl hs hv hb h1 h2
 have he:(decide (b < l.length) && decide (aO (l.getD b default) v=0))=decide (v ∈ l)∧(v ∈ l→b < l.length∧l.getD b default=v):=by
  by_cases hm:v ∈ l
  ·obtain ⟨i,hi,e⟩:=List.getElem_of_mem hm
   have e':l.getD i default=v:=by simp [List.getD,hi,e]
   have hbi:b=i:=by
    rcases Nat.lt_trichotomy b i with h | h | h
    ·have h3:=h2 b (Nat.le_refl _) (by omega)
     have h4:=dB ha h hi
     rw [e'] at h4; omega
    ·exact h
    ·have h3:=h1 i h
     rw [e',dH] at h3; omega
   subst hbi
   rw [decide_eq_true hi,decide_eq_true hm,e',decide_eq_true (dH v)]
   exact ⟨rfl,fun _=>⟨hi,rfl⟩⟩
  ·rw [decide_eq_false hm]
   refine ⟨?_,fun h=>absurd h hm⟩
   by_cases hlt:b < l.length
   ·rw [decide_eq_true hlt,Bool.true_and,decide_eq_false]
    intro h
    exact hm (by rw [← kT h]; exact aU hlt)
   ·rw [decide_eq_false hlt,Bool.false_and]
 rw [he.1] at hc
 refine ⟨b,?_,he.2⟩
 refine Pure.of_c2 follows AY (Nat.le_of_ble_eq_true rfl) ?_
 simp only [b52,cO,cG,cN,cM,cD,cF,cB,aC,aS]
 (have zz:=aI @az (aI @ar (aI @av @am)); repeat' (first|refine zW ?_|apply a_n|refine zO ?_|refine vZ ?_|refine cZ ?_ (hp:=hc) (hs:=by (first | refine ab ?_ rfl | apply ac); (repeat' (first | exact aa | apply an | apply ae | exact ax _ | exact ay _ | exact Dat.func DatL.nil)); first | done | fail)|refine aj rfl ?_|refine r2Z ?_|fail)) <;> (try clear zz)
 exact eG (ak (.int _ _) (ak (.bool _) aa))
theorem wV (c:List Spx) (d:Int) (hd:d ≤ 1000) (hc:c.length ≤ 50) (hs:∀ s ∈ c,Shn s):Pure Try.prog 50 [gU c,.int .i64 d] (.tup [ap (ud c d).1,.int .i64 (ud c d).2]):=by
 refine Pure.of_c2 follows Ao (Nat.le_of_ble_eq_true rfl) ?_
 simp only [b50,cO,cG,cN,cM,cD,cF,cB,aC,aS]
 unfold ud
 by_cases h:d < 0
 ·have z:decide (d < 0)=true:=decide_eq_true h
  rw [if_pos h]
  (have zz:=aI @z (aI @av @am); repeat' (first|refine zW ?_|apply a_n|apply a_r|refine zO ?_|refine vY ?_|refine bxY ?_|refine cTY ?_|refine aj rfl ?_|refine r2Y ?_|fail)) <;> (try clear zz)
  exact bS (.eslsl _) rfl
 ·have z:decide (d < 0)=false:=decide_eq_false h
  rw [if_neg h]
  have hS:=iP c (d + 1) hc hs
  (have zz:=aI @z (aI @av @am); repeat' (first|refine zW ?_|apply a_n|refine zO ?_|refine vY ?_|refine cY ?_ (hp:=hS) (hs:=by (first | refine ab ?_ rfl | apply ac); (repeat' (first | exact aa | apply an | apply ae | exact bG _)); first | done | fail)|refine bxY ?_|refine cFY ?_|refine aj rfl ?_|refine r2Y ?_|fail)) <;> (try clear zz)
  exact bS (ax _).snap rfl
set_option maxHeartbeats 2000000 in
theorem vP (c:List Spx) (d:Int) (hc:c.length ≤ 50) (hs:∀ s ∈ c,Shn s):Pure Try.prog 22 [gU c,.int .i64 d] (.tup [jP (nt c d).1.1 (nt c d).1.2,.int .i64 (nt c d).2]):=by
 refine Pure.of_c2 follows Au (Nat.le_of_ble_eq_true rfl) ?_
 simp only [b22,cO,cG,cN,cM,cD,cF,cB,aC,aS]
 have hcc:=mD c (show _ ≤ _ by omega) hs
 unfold nt
 by_cases he:bl c=0
 rotate_left
 ·rw [if_pos he]
  have z:decide (bl c ≠ 0)=true:=decide_eq_true he
  (have zz:=aI @av (aI @am @z); repeat' (first|refine zW ?_|apply a_n|apply a_r|refine zO ?_|refine vY ?_|refine cY ?_ (hp:=hcc) (hs:=by (first | refine ab ?_ rfl | apply ac); (repeat' (first | exact aa | apply an | apply ae | exact bG _)); first | done | fail)|refine alY ?_|refine bxY ?_|refine stY ?_|refine cTY ?_|refine aj rfl ?_|refine r2Y ?_|fail)) <;> (try clear zz)
  exact oZ (.eslsl _) rfl
 rw [if_neg (fun h=>h he)]
 rw [he] at hcc
 have z0:decide ((0:Int) ≠ 0)=false:=rfl
 by_cases hd:d < 0 ∨ 8 ≤ d
 ·rw [if_pos hd]
  (have zz:=aI @av (aI @am @z0); repeat' (first|refine zW ?_|apply a_n|apply a_r|refine zO ?_|refine vY ?_|refine cY ?_ (hp:=hcc) (hs:=by (first | refine ab ?_ rfl | apply ac); (repeat' (first | exact aa | apply an | apply ae | exact bG _)); first | done | fail)|refine alY ?_|refine bxY ?_|refine stY ?_|refine gTY ?_|refine gFY ?_|refine cTY ?_|refine cFY ?_|(refine zGY ?_ ?_ <;> (intro _hg; try (exfalso; omega)))|refine aj rfl ?_|refine r2Y ?_|fail)) <;> (try clear zz)
  all_goals first | exact oZ (.eslsl _) rfl | (exfalso; omega)
 rw [if_neg hd]
 have hX:=wV c d (by omega) hc hs
 have hY:=wV c (d - 1) (by omega) hc hs
 rw [wK he (by omega) (by omega)] at hX hY
 rw [show d - 1 + 1=d by omega] at hY
 have hXl:=jH (d:=d + 1) hc he
 have hYl:=jH (d:=d) hc he
 have hXm:=ir (d:=d + 1) he
 have hYm:=iH (ir (d:=d) he)
 have hYa:=nM (c:=c) (d:=d)
 generalize dC c (d + 1)=X at *
 generalize dC c d=Y at *
 have z1:decide (d < 0)=false:=decide_eq_false (by omega)
 have z2:decide (8 ≤ d)=false:=decide_eq_false (by omega)
 have hzc:aY (AV.agg [AV.esl]) Y.length=List.replicate Y.length .esl:=by simp [aY,AV.cells]
 (have zz:=aI @av (aI @am (aI @af (aI @z0 (aI @z1 @z2)))); repeat' (first|refine zW ?_|apply a_n|refine zO ?_|refine vY ?_|refine cY ?_ (hp:=by first | exact hcc | exact hX | exact hY) (hs:=by (first | refine ab ?_ rfl | apply ac); (repeat' (first | exact aa | apply an | apply ae | exact bG _)); first | done | fail)|refine alY ?_|refine bxY ?_|refine stY ?_|refine gTY ?_|refine cFY ?_|fail)) <;> (try clear zz)
 refine wT (k1:=.i64) (k2:=.i64) (n:=Y.length) (m:=Y.length) rfl ev0 ev0 (by omega) (Int.le_refl _) (by omega) (by omega) ?_
 rw [Int.toNat_natCast,hzc,Nat.mul_one]
 (have zz:=@af; repeat' (first|refine zW ?_|apply a_n|refine zO ?_|refine vY ?_|refine alY ?_|refine stY ?_|fail)) <;> (try clear zz)
 refine bd (X:=Nat × List AV) (fun x=>[(4,.ptr 1 2 0),(9,.ptr 2 1 0),(10,.ptr 4 2 0),(56,ap X),(57,.int .i64 X.length),(58,.int .i64 x.1)]) (fun x H' nx'=>x.1 ≤ X.length∧5 ≤ nx'∧H' 1=some [.int .i64 0,.esl]∧H' 2=some [ap Y]∧H' 4=some [.int .i64 X.length,.msl 3 Y.length 1 0 Y.length]∧MatOk H' 3 5 nx' Y.length (gG X Y x.1) x.2) (fun x=>X.length - x.1) (0,List.replicate Y.length .esl) ⟨Nat.zero_le _,Nat.le_refl _,by (repeat rw [ag (by omega)]); rw [ah],by (repeat rw [ag (by omega)]); rw [ah]; rfl,by rw [ah]; rfl,MatOk.new (by (repeat rw [ag (by omega)]); rw [ah]) (fun j _=>rfl)⟩ (by (iterate 6 refine And.intro rfl ?_); trivial) ?_
 rintro ⟨k,vs⟩ H nx ⟨h1,h2,g1,g2,g4,hmat⟩
 dsimp only at h1 h2 g1 g2 g4 hmat ⊢
 by_cases hk:k < X.length
 rotate_left
 ·obtain rfl:k=X.length:=by omega
  have hst:Snap (aq H 1 [.int .i64 X.length,.msl 3 Y.length 1 0 Y.length]) (.msl 3 Y.length 1 0 Y.length) (cC (y8 X Y)):=(hmat.same (hi':=nx) (G:=gG X Y X.length) (ag (by omega)) (fun x x1 x2 x3=>ag (by omega)) (Nat.le_refl _) (fun j _=>rfl)).snap
  (have zz:=aI @g4 @g1; repeat' (first|refine zW ?_|apply a_n|apply a_x|refine zO ?_|refine vY ?_|refine stY ?_|(refine zGY ?_ ?_ <;> (intro _hg; try (exfalso; omega)))|refine aj rfl ?_|refine r2Y ?_|fail)) <;> (try clear zz)
  exact oZ hst rfl
 have ix:=dw hk
 have hsim:=hXm _ (aU hk)
 have hF:∀ i,gG X Y (k + 1) i=gG X Y k i ++ if Y.getD i default ∈ bo (X.getD k default) then [k] else []:=fun i=>s9
 generalize X.getD k default=s at *
 obtain ⟨p1,p2,p3,p4⟩:=cz hsim
 (have zz:=@ix; repeat' (first|refine zW ?_|apply a_n|refine zO ?_|refine vY ?_|refine alY ?_|refine stY ?_|(refine zGY ?_ ?_ <;> (intro _hg; try (exfalso; omega)))|fail)) <;> (try clear zz)
 refine aR ev0 ev0 (nC s _ _) ?_
 rintro _ H1 nx1 ⟨rfl,rfl,rfl⟩
 (have zz:=and_self; repeat' (first|refine zW ?_|apply a_n|refine zO ?_|fail)) <;> (try clear zz)
 refine jA (nx + 2) (nx + 3) rfl rfl ev0 (fun c0 cj hy=>?_)
 refine Abs.Fn.mono (np (nx:=nx + 3) (y:=nx + 2) (sb:=nx + 1) (s:=s) (by omega) (fun D H' nx'=>nx + 3 ≤ nx'∧H' (nx + 1)=some [au s]∧H' (nx + 2)=some [c0]∧H' nx=some [.int .i64 (k:Int)]∧H' 1=some [.int .i64 0,.esl]∧H' 2=some [ap Y]∧H' 4=some [.int .i64 X.length,.msl 3 Y.length 1 0 Y.length]∧∃ vs,MatOk H' 3 5 nx' Y.length (fun i=>gG X Y k i ++ if Y.getD i default ∈ D then [k] else []) vs∧∀ j B,j < Y.length→b6 (vs.getD j .undef)=some B→B < nx ∨ nx + 3 ≤ B) ?_ ?_ ?_ ?_) ?_
 ·rintro D H' nx' ⟨j1,j2,_⟩
  exact j2
 ·rintro D H' H'' n1 n2 ⟨j1,j2,j3,j4,j5,j6,j7,vs,j8,j9⟩ hle hsm
  exact ⟨by omega,(hsm _ (by omega)).trans j2,(hsm _ (by omega)).trans j3,(hsm _ (by omega)).trans j4,(hsm _ (by omega)).trans j5,(hsm _ (by omega)).trans j6,(hsm _ (by omega)).trans j7,vs,j8.same (hsm _ (by omega)) (fun x x1 x2 x3=>hsm x x2) hle (fun _ _=>rfl),j9⟩
 ·rintro D f H' nx' ⟨j1,j2,j3,j4,j5,j6,j7,vs,j8,j9⟩ hlt hfe hDe
  refine hy _ _ _ _ j3 rfl ?_
  clear hy
  have hfm:f ∈ fcs s:=by rw [hfe]; exact aU hlt
  have hfD:f ∉ D:=fun h=>by
   rw [hDe] at h
   have hnd:=tR p3
   have e:=b9 hlt
   have h5:=(List.nodup_append.1 (by rw [← e]; exact hnd.sublist (List.take_sublist _ _):((fcs s).take D.length ++ [(fcs s).getD D.length default]).Nodup)).2.2 _ h _ (List.mem_singleton.2 rfl)
   exact h5 hfe
  have hfs:=fA.1 (su.1 hfm)
  have hfn:Shn f:=by show _ ≤ _; omega
  clear hfe hDe hlt hfm
  (have zz:=and_self; repeat' (first|apply a_n|refine zO ?_|refine vY ?_|fail)) <;> (try clear zz)
  refine ⟨j3,?_⟩
  have hd:∀ x,x ≠ nx + 2→bK H' (nx + 2) x=H' x:=fun x hx=>bP hx
  generalize bK H' (nx + 2)=H2 at *
  have q2:=(hd 2 (by omega)).trans j6
  have q3:=(hd 3 (by omega)).trans j8.box
  have q4:=(hd 4 (by omega)).trans j7
  have qk:=(hd nx (by omega)).trans j4
  obtain ⟨p,hpl,hpm⟩:=p6 Y f (show _ ≤ _ by omega) hYm hfn hYa
  by_cases hin:f ∈ Y
  rotate_left
  ·rw [decide_eq_false hin] at hpl
   (have zz:=aI @q2 (aI @av @am); repeat' (first|refine zW ?_|apply a_n|refine zO ?_|refine vY ?_|refine cY ?_ (hp:=hpl) (hs:=by (first | refine ab ?_ rfl | apply ac); (repeat' (first | exact aa | apply an | apply ae | exact ax _ | exact ay _)); first | done | fail)|refine cFY ?_|fail)) <;> (try clear zz)
   refine ⟨rfl,j1,(ag (by omega)).trans ((hd _ (by omega)).trans j2),ah,(ag (by omega)).trans qk,(ag (by omega)).trans ((hd _ (by omega)).trans j5),(ag (by omega)).trans q2,(ag (by omega)).trans q4,vs,j8.same ((ag (by omega)).trans (hd _ (by omega))) (fun x x1 x2 x3=>?_) (Nat.le_refl _) (fun j hj=>?_),j9⟩
   ·by_cases e:x=nx + 2
    ·rw [e,ah,j3]
    ·rw [ag e,hd x e]
   ·have hne:Y.getD j default ≠ f:=fun e=>hin (by rw [← e]; exact aU hj)
    congr 1
    exact ru (by rw [List.mem_append,List.mem_singleton]; exact ⟨fun h=>h.resolve_right hne,.inl⟩)
  rw [decide_eq_true hin] at hpl
  obtain ⟨pl1,pl2⟩:=hpm hin
  have hFD:gG X Y k p ++ (if Y.getD p default ∈ D then [k] else [])=gG X Y k p:=by rw [pl2,if_neg hfD,List.append_nil]
  have hrow:Row H2 1 (vs.getD p .undef) ((gG X Y k p).map qS):=by
   have:=j8.row p pl1
   rw [hFD] at this
   exact this.same fun b hb=>hd b (by have:=j9 p b pl1 hb; omega)
  have hvs:vs[p]?=some (vs.getD p .undef):=by
   have:=j8.len
   simp [List.getD,show p < vs.length by omega]
  have hlen:=j8.len
  have hb3:∀ b,b6 (vs.getD p .undef)=some b→5 ≤ b∧b < nx'∧b ≠ 3∧(b < nx ∨ nx + 3 ≤ b):=fun b hb=>by
   have h5:=j8.bnd p b pl1 hb
   have h6:=j9 p b pl1 hb
   exact ⟨h5.1,h5.2.1,h5.2.2,h6⟩
  generalize hrv:vs.getD p .undef=rv at *
  (have zz:=aI @q2 (aI @av @am); repeat' (first|refine zW ?_|apply a_n|refine zO ?_|refine vY ?_|refine cY ?_ (hp:=hpl) (hs:=by (first | refine ab ?_ rfl | apply ac); (repeat' (first | exact aa | apply an | apply ae | exact ax _ | exact ay _)); first | done | fail)|refine cTY ?_|fail)) <;> (try clear zz)
  refine yh 4 3 nx q4 q3 qk (by omega) (by omega) (by omega) fun S0 hS1 hS2 hS3 hsub=>?_
  have hFl:=ul (X:=X) (Y:=Y) (n:=k) (i:=p)
  (have zz:=aI @hS1 (aI @hS2 (aI @hS3 (aI @hvs @hlen))); repeat' (first|apply a_n|refine zO ?_|refine nvY ?_|fail)) <;> (try clear zz)
  refine f0 ?_
  (have zz:=and_self; repeat' (first|apply a_n|refine zO ?_|refine blY ?_|fail)) <;> (try clear zz)
  refine ⟨hsub _ (by rw [ag (by omega)]; exact q4) (by rw [ag (by omega)]; exact q3) (by rw [ag (by omega)]; exact qk),?_⟩
  refine f0 ?_
  refine e8 rfl ev0 (hrow.same fun b hb=>?_) ev0 dv rfl rfl Nat.one_pos (by rw [List.length_map]; omega) (by rw [List.length_map]; omega) ?_
  ·have:=hb3 b hb; rw [ag (by omega)]
  rintro s2 H4 nx4 hr2 i1 i2 i3 i4
  have lo:∀ x,x < nx'→b6 rv ≠ some x→H4 x=H2 x:=fun x x1 x2=>(i3 x (by omega) x2).trans (ag (by omega))
  have l3:H4 3=H2 3:=lo 3 (by omega) (fun h=>by have:=hb3 _ h; omega)
  have l4:H4 4=H2 4:=lo 4 (by omega) (fun h=>by have:=hb3 _ h; omega)
  have lk:H4 nx=H2 nx:=lo nx (by omega) (fun h=>by have:=hb3 _ h; omega)
  have lo2:∀ x,x < nx + 3→5 ≤ x→nx ≤ x→H4 x=H2 x:=fun x x1 x2 x3=>lo x (by omega) (fun h=>by have:=hb3 _ h; omega)
  have lo5:∀ x,x < 5→H4 x=H2 x:=fun x x1=>lo x (by omega) (fun h=>by have:=hb3 _ h; omega)
  obtain ⟨o1,o2⟩:=hr2.one
  have m3:=l3.trans q3
  refine mc ⟨hsub _ (l4.trans q4) m3 (lk.trans qk),?_⟩
  have hlp:bj vs p [s2]=vs.set p s2:=by
   simp only [bj,List.length_cons,List.length_nil,Nat.zero_add]
   rw [List.set_eq_take_append_cons_drop,if_pos (by omega)]; simp
  (have zz:=aI @m3 (aI @o1 (aI @o2 (aI @hlen @hlp))); repeat' (first|apply a_n|refine zO ?_|refine nvY ?_|apply gJ|refine stY ?_|fail)) <;> (try clear zz)
  have hB2:∀ b,b6 s2=some b→(b6 rv=some b ∨ nx' ≤ b)∧b < nx4:=fun b hb=>by
   rcases i4 b hb with h | h
   ·exact ⟨.inl h,by have:=hb3 b h; omega⟩
   ·exact ⟨.inr (by omega),by omega⟩
  have hwd:∀ x,x ≠ 3→x ≠ nx + 2→aq (aq H4 3 (vs.set p s2)) (nx + 2) [c0] x=H4 x:=fun x x1 x2=>by rw [ag x2,ag x1]
  rw [hlp]
  refine ⟨rfl,by omega,?_,ah,?_,?_,?_,?_,vs.set p s2,?_,?_⟩
  ·rw [hwd _ (by omega) (by omega),lo2 _ (by omega) (by omega) (by omega),hd _ (by omega)]; exact j2
  ·rw [hwd _ (by omega) (by omega),lk]; exact qk
  ·rw [hwd _ (by omega) (by omega),lo5 _ (by omega),hd _ (by omega)]; exact j5
  ·rw [hwd _ (by omega) (by omega),lo5 _ (by omega)]; exact q2
  ·rw [hwd _ (by omega) (by omega),l4]; exact q4
  ·refine j8.put (sv:=s2) (x:=k) (i:=p) pl1 (fun j hj=>?_) ?_ (fun b hb=>?_) (by rw [ag (by omega),ah]) (fun x x1 x2 x3 x4=>?_) (by omega) (by omega)
   ·by_cases e:j=p
    ·subst e
     rw [if_pos rfl,pl2,if_neg hfD,if_pos (List.mem_append_right _ (List.mem_singleton.2 rfl)),List.append_nil]
    ·rw [if_neg e]
     have hne:Y.getD j default ≠ f:=fun h=>e (by
      rcases Nat.lt_trichotomy j p with h' | h' | h'
      ·have:=dB hYa h' pl1
       rw [h,pl2,dH] at this; omega
      ·exact h'
      ·have:=dB hYa h' hj
       rw [h,pl2,dH] at this; omega)
     congr 1
     exact ru (by rw [List.mem_append,List.mem_singleton]; exact ⟨fun h=>h.resolve_right hne,.inl⟩)
   ·rw [hFD,List.map_append]
    refine hr2.same fun b hb=>hwd b ?_ ?_
    ·have:=hB2 b hb
     rcases this.1 with h | h
     ·have:=hb3 b h; omega
     ·omega
    ·have:=hB2 b hb
     rcases this.1 with h | h
     ·have:=hb3 b h; omega
     ·omega
   ·rw [hrv]
    have:=hB2 b hb
    rcases this.1 with h | h
    ·exact .inl h
    ·exact .inr ⟨h,this.2,by omega⟩
   ·rw [hrv] at x4
    by_cases e:x=nx + 2
    ·rw [e,ah,j3]
    ·rw [hwd x x3 e,lo x x2 x4,hd x e]
  ·intro j B hj hB
   rw [jO (by omega)] at hB
   by_cases e:p=j
   ·rw [if_pos e] at hB
    have:=hB2 B hB
    rcases this.1 with h | h
    ·have:=hb3 B h; omega
    ·omega
   ·rw [if_neg e] at hB
    exact j9 j B hj hB
 ·have hlk:bj [AV.int .i64 0] 0 [.int .i64 (k:Int)]=[.int .i64 (k:Int)]:=rfl
  have hw:∀ x,x ≠ nx→x ≠ nx + 1→x ≠ nx + 2→aq (aq (aq (aq H nx [.int .i64 0]) nx (bj [.int .i64 0] 0 [.int .i64 (k:Int)])) (nx + 1) [au s]) (nx + 2) [c0] x=H x:=fun x x1 x2 x3=>by rw [ag x3,ag x2,ag x1,ag x1]
  refine ⟨Nat.le_refl _,by rw [ag (by omega),ah],ah,by rw [ag (by omega),ag (by omega),ah]; rfl,(hw _ (by omega) (by omega) (by omega)).trans g1,(hw _ (by omega) (by omega) (by omega)).trans g2,(hw _ (by omega) (by omega) (by omega)).trans g4,vs,hmat.same (hw _ (by omega) (by omega) (by omega)) (fun x x1 x2 x3=>hw x (by omega) (by omega) (by omega)) (by omega) (fun j _=>by simp),fun j B hj hB=>by have:=hmat.bnd j B hj hB; omega⟩
 ·rintro r H' nx' ⟨j1,j2,j3,j4,j5,j6,j7,vs2,j8,j9⟩
  refine .inl ⟨j3,?_⟩
  (have zz:=and_self; repeat' (first|apply a_n|refine zO ?_|refine vY ?_|fail)) <;> (try clear zz)
  refine ⟨(k + 1,vs2),by dsimp only; omega,⟨by dsimp only; omega,by omega,(bP (by omega)).trans j5,(bP (by omega)).trans j6,(bP (by omega)).trans j7,?_⟩,ag0⟩
  dsimp only
  have hrows:∀ j,j < Y.length→gG X Y (k + 1) j=gG X Y k j ++ if Y.getD j default ∈ fcs s then [k] else []:=fun j _=>by
   rw [hF]; congr 1; exact ru su.symm
  exact ⟨(bP (by omega)).trans j8.box,j8.len,fun j hj=>by rw [hrows j hj]; exact (j8.row j hj).same fun b hb=>bP (by have:=j9 j b hj hb; omega),fun j B hj hB=>by have:=j8.bnd j B hj hB; exact this,j8.apart⟩
end Go.Proofs.Ytfcenbapjhecfaa
namespace Go.Proofs.Ytfcenbapjhecfaa
open Go Go.Abs
def rA (L a:List Spx):List Nat:=a.map fun s=>L.idxOf s
abbrev kF (a:List Spx):Nat:=(a.getD 0 default).length
def wt (c a:List Spx):List Int × Int:=if bl c ≠ 0 then ([],bl c) else if bT a ≠ 0 then ([],bT a) else if a=[] then ([],0) else if (a.all fun s=>decide (s ∈ dC c (kF a)))=true then (fX (rA (dC c (kF a)) a),0) else ([],6)
theorem pR {l:List Nat} {n:Nat}:fX (l ++ [n])=fX l ++ [(n:Int)]:=by unfold fX; rw [List.map_append]; rfl
theorem tW {L a:List Spx} {k:Nat} (h:k < a.length):rA L (a.take (k + 1))=rA L (a.take k) ++ [L.idxOf (a.getD k default)]:=by
 unfold rA; rw [b9 h,List.map_append]; rfl
theorem wk {l:List Spx} (hn:l.Nodup) {v:Spx} {k:Nat} (hk:k < l.length) (hv:l.getD k default=v):l.idxOf v=k:=by
 have hm:v ∈ l:=by rw [← hv]; exact aU hk
 have h1:=List.idxOf_lt_length_iff.2 hm
 have h2:l[l.idxOf v]=v:=List.getElem_idxOf h1
 have h3:l[k]=v:=by simpa [List.getD,hk] using hv
 exact (List.getElem_inj hn).1 (h2.trans h3.symm)
theorem lU {H:Hp} {s:AV} {l:List Int} {e f:Int} (h:Snap H s (bv l)) (he:e=f):Snap H (.tup [s,.int .i64 e]) (.tup [bv l,.int .i64 f]):=by
 subst he; exact eG (ak h (ak (.int _ _) aa))
attribute [local irreducible] aD ai aW aN aG aJ aA aK aP bb Go.Abs.Fn aM Go.Abs.Pure aw aF Yl
theorem xH (c a:List Spx) (hc:c.length ≤ 50) (hs:∀ s ∈ c,Shn s) (ha:ShC a):Pure Try.prog 25 [gU c,ap a] (.tup [bv (wt c a).1,.int .i64 (wt c a).2]):=by
 refine Pure.of_c2 follows As (Nat.le_of_ble_eq_true rfl) ?_
 simp only [b25,cO,cG,cN,cM,cD,cF,cB,aC,aS]
 have hcc:=mD c (show _ ≤ _ by omega) hs
 have hca:=jd a ha
 have z0:decide ((0:Int) ≠ 0)=false:=rfl
 unfold wt
 by_cases he:bl c=0
 rotate_left
 ·rw [if_pos he]
  have z:decide (bl c ≠ 0)=true:=decide_eq_true he
  (have zz:=aI @av (aI @am @z); repeat' (first|refine zW ?_|apply a_n|apply a_r|refine zO ?_|refine vY ?_|refine cY ?_ (hp:=hcc) (hs:=by (first | refine ab ?_ rfl | apply ac); (repeat' (first | exact aa | apply an | apply ae | exact bG _)); first | done | fail)|refine bxY ?_|refine cTY ?_|refine aj rfl ?_|refine r2Y ?_|fail)) <;> (try clear zz)
  exact lU (.eslsl _) rfl
 rw [if_neg (fun h=>h he)]
 rw [he] at hcc
 by_cases h2:bT a=0
 rotate_left
 ·rw [if_pos h2]
  have z:decide (bT a ≠ 0)=true:=decide_eq_true h2
  (have zz:=aI @av (aI @am (aI @z @z0)); repeat' (first|refine zW ?_|apply a_n|apply a_r|refine zO ?_|refine vY ?_|refine cY ?_ (hp:=by first | exact hcc | exact hca) (hs:=by (first | refine ab ?_ rfl | apply ac); (repeat' (first | exact aa | apply an | apply ae | exact bG _ | exact ax _)); first | done | fail)|refine bxY ?_|refine cTY ?_|refine cFY ?_|refine aj rfl ?_|refine r2Y ?_|fail)) <;> (try clear zz)
  exact lU (.eslsl _) rfl
 rw [if_neg (fun h=>h h2)]
 rw [h2] at hca
 by_cases h3:a=[]
 ·rw [if_pos h3]
  subst h3
  have al:bF (ap [])=some (.int .i64 0):=rfl
  (have zz:=aI @av (aI @am (aI @al @z0)); repeat' (first|refine zW ?_|apply a_n|apply a_r|refine zO ?_|refine vY ?_|refine cY ?_ (hp:=by first | exact hcc | exact hca) (hs:=by (first | refine ab ?_ rfl | apply ac); (repeat' (first | exact aa | apply an | apply ae | exact bG _ | exact ax _)); first | done | fail)|refine bxY ?_|refine cFY ?_|(refine zGY ?_ ?_ <;> (intro _hg; try (exfalso; omega)))|refine aj rfl ?_|refine r2Y ?_|fail)) <;> (try clear zz)
  exact lU (.eslsl _) rfl
 rw [if_neg h3]
 have hpos:=List.length_pos_iff.2 h3
 have z3:decide ((a.length:Int)=0)=false:=decide_eq_false (by omega)
 obtain ⟨p1,p2,p3,p4⟩:=dD h2
 have p5:=cz (p2 _ (aU hpos))
 have i0:=qE hpos
 have hS:=iP c (kF a) hc hs
 unfold dJ at hS
 rw [if_neg (fun h=>h he),if_neg (by unfold kF; omega),Int.toNat_natCast] at hS
 have eL:iB c (kF a)=dC c (kF a):=by unfold dC; rw [if_neg (by unfold kF; omega),Int.toNat_natCast]
 rw [eL] at hS
 have hLs:=iH (ir (d:=(kF a:Nat)) he)
 have hLl:=jH (d:=(kF a:Nat)) hc he
 have hLa:=nM (c:=c) (d:=(kF a:Nat))
 generalize dC c (kF a)=L at *
 unfold kF at hS
 (have zz:=aI @av (aI @am (aI @af (aI @ao (aI @i0 (aI @z0 @z3))))); repeat' (first|refine zW ?_|refine zM ?_|apply a_n|refine zO ?_|refine vY ?_|refine cY ?_ (hp:=by first | exact hcc | exact hca | exact hS) (hs:=by (first | refine ab ?_ rfl | apply ac); (repeat' (first | exact aa | apply an | apply ae | exact bG _ | exact ax _)); first | done | fail)|refine bxY ?_|refine cFY ?_|fail)) <;> (try clear zz)
 refine bd (X:=AV × Nat) (fun x=>[(8,ap L),(10,x.1),(40,ap a),(41,.int .i64 a.length),(42,.int .i64 x.2)]) (fun x H nx=>x.2 ≤ a.length∧(∀ i,i < x.2→decide (a.getD i default ∈ L)=true)∧Row H 1 x.1 ((fX (rA L (a.take x.2))).map (AV.int .i64))∧∀ b,b6 x.1=some b→b < nx) (fun x=>a.length - x.2) (.esl,0) ⟨Nat.zero_le _,fun i h=>absurd h (by omega),Row.nil,fun b hb=>(by cases hb)⟩ ag0 ?_
 rintro ⟨sv,k⟩ H nx ⟨k1,k2,k3,k4⟩
 dsimp only at k1 k2 k3 k4 ⊢
 by_cases hk:k < a.length
 rotate_left
 ·rw [List.take_of_length_le (by omega)] at k3
  rw [if_pos (iM fun i hi=>k2 i (by omega))]
  (have zz:=and_self; repeat' (first|refine zW ?_|apply a_n|apply a_x|refine zO ?_|refine vY ?_|(refine zGY ?_ ?_ <;> (intro _hg; try (exfalso; omega)))|refine aj rfl ?_|refine r2Y ?_|fail)) <;> (try clear zz)
  exact lU k3.snapI rfl
 have ix:=dw hk
 have hsx:=ha.2 _ (aU hk)
 obtain ⟨p,hpl,hpm⟩:=p6 L (a.getD k default) (show _ ≤ _ by omega) hLs hsx hLa
 by_cases hin:a.getD k default ∈ L
 rotate_left
 ·rw [decide_eq_false hin] at hpl
  have hall:¬ (a.all fun s=>decide (s ∈ L))=true:=by
   rw [gy hk (decide_eq_false hin)]; decide
  rw [if_neg hall]
  (have zz:=@ix; repeat' (first|refine zW ?_|apply a_n|apply a_r|refine zO ?_|refine vY ?_|refine cY ?_ (hp:=hpl) (hs:=by (first | refine ab ?_ rfl | apply ac); (repeat' (first | exact aa | apply an | apply ae | exact ax _ | exact ay _)); first | done | fail)|refine cTY ?_|(refine zGY ?_ ?_ <;> (intro _hg; try (exfalso; omega)))|refine aj rfl ?_|refine r2Y ?_|fail)) <;> (try clear zz)
  exact lU (.eslsl _) rfl
 rw [decide_eq_true hin] at hpl
 obtain ⟨p1',p2'⟩:=hpm hin
 have hidx:=wk (hLa.nodup il) p1' p2'
 have hpt:=tW (L:=L) hk
 rw [hidx] at hpt
 have hnl:(fX (rA L (a.take k))).length=k:=by unfold fX rA; rw [List.length_map,List.length_map,List.length_take]; omega
 (have zz:=@ix; repeat' (first|refine zW ?_|apply a_n|refine zO ?_|refine vY ?_|refine cY ?_ (hp:=hpl) (hs:=by (first | refine ab ?_ rfl | apply ac); (repeat' (first | exact aa | apply an | apply ae | exact ax _ | exact ay _)); first | done | fail)|refine blY ?_|refine cFY ?_|(refine zGY ?_ ?_ <;> (intro _hg; try (exfalso; omega)))|fail)) <;> (try clear zz)
 refine e8 rfl ev0 (k3.same fun b hb=>?_) ev0 dv rfl rfl Nat.one_pos (by rw [List.length_map]; omega) (by rw [List.length_map]; omega) ?_
 ·have:=k4 b hb; rw [ag (by omega)]
 rintro s2 E e hrow hle1 hle2 hsame hb2
 (have zz:=and_self; repeat' (first|apply a_n|refine zO ?_|refine vY ?_|fail)) <;> (try clear zz)
 refine ⟨(s2,k + 1),by dsimp only; omega,⟨by dsimp only; omega,fun i hi=>?_,?_,fun b hb=>?_⟩,ag0⟩
 ·rcases Nat.lt_succ_iff_lt_or_eq.1 hi with h' | rfl
  ·exact k2 i h'
  ·exact decide_eq_true hin
 ·dsimp only
  rw [hpt,pR,List.map_append]; exact hrow
 ·rcases hb2 b hb with h | h
  ·have:=k4 b h; omega
  ·omega
end Go.Proofs.Ytfcenbapjhecfaa
namespace Go.Proofs.Ytfcenbapjhecfaa
open Go Go.Abs
attribute [local irreducible] aD ai aW aN aG aJ aA aK aP bb Go.Abs.Fn aM Go.Abs.Pure aw aF Yl
theorem tE (x y:List Int) (hx:x.length ≤ 1000000000) (hy:y.length ≤ 1000000000):Pure Try.prog 55 [bv x,bv y] (.bool (decide (x=y))):=by
 refine Pure.of_c2 follows Ad (Nat.le_of_ble_eq_true rfl) ?_
 simp only [b55,cO,cG,cN,cM,cD,cF,cB,aC,aS]
 by_cases hl:x.length=y.length
 rotate_left
 ·have z:decide ((x.length:Int) ≠ y.length)=true:=decide_eq_true (by omega)
  (have zz:=@z; repeat' (first|refine zW ?_|apply a_n|apply a_r|refine zO ?_|refine vZ ?_|refine cTZ ?_|refine aj rfl ?_|refine r1Z ?_|fail)) <;> (try clear zz)
  exact bk (by symm; rw [decide_eq_false_iff_not]; rintro rfl; exact hl rfl)
 have z:decide ((x.length:Int) ≠ y.length)=false:=decide_eq_false (by omega)
 (have zz:=@z; repeat' (first|refine zW ?_|apply a_n|refine zO ?_|refine vZ ?_|refine cFZ ?_|fail)) <;> (try clear zz)
 refine i7 (X:=Nat) (fun k=>[(0,bv x),(1,bv y),(5,.int .i64 k)]) (fun k=>k ≤ x.length∧∀ i,i < k→x.getD i default=y.getD i default) (fun k=>x.length - k) 0 ⟨Nat.zero_le _,fun i h=>absurd h (by omega)⟩ ag0 ?_
 rintro k ⟨h1,h2⟩
 by_cases hk:k < x.length
 rotate_left
 ·(have zz:=and_self; repeat' (first|refine zW ?_|apply a_n|apply a_x|refine zO ?_|refine vZ ?_|(refine zGZ ?_ ?_ <;> (intro _hg; try (exfalso; omega)))|refine aj rfl ?_|refine r1Z ?_|fail)) <;> (try clear zz)
  refine bk ?_
  symm
  rw [decide_eq_true_eq]
  refine List.ext_getElem hl fun i a b=>?_
  have:=h2 i (by omega)
  simpa [List.getD,a,b] using this
 by_cases he:x.getD k default=y.getD k default
 ·have z2:decide (x.getD k default ≠ y.getD k default)=false:=decide_eq_false (fun h=>h he)
  (have zz:=@z2; repeat' (first|refine zW ?_|apply a_n|refine zO ?_|refine vZ ?_|refine cFZ ?_|(refine zGZ ?_ ?_ <;> (intro _hg; try (exfalso; omega)))|fail)) <;> (try clear zz)
  exact ⟨k + 1,⟨by omega,fun i hi=>by
   rcases Nat.lt_succ_iff_lt_or_eq.1 hi with h' | rfl
   ·exact h2 i h'
   ·exact he⟩,by omega,ag0,rfl,rfl⟩
 ·have z2:decide (x.getD k default ≠ y.getD k default)=true:=decide_eq_true he
  (have zz:=@z2; repeat' (first|refine zW ?_|apply a_n|apply a_r|refine zO ?_|refine vZ ?_|refine cTZ ?_|(refine zGZ ?_ ?_ <;> (intro _hg; try (exfalso; omega)))|refine aj rfl ?_|refine r1Z ?_|fail)) <;> (try clear zz)
  exact bk (by symm; rw [decide_eq_false_iff_not]; rintro rfl; exact he rfl)
theorem nk (c:Int) (x:List (List Int)) (hx:x.length ≤ 1000000) (hxs:∀ r ∈ x,r.length ≤ 1000000):Pure Try.prog 24 [jP c x,jP c x] (.bool true):=by
 refine Pure.of_c2 follows AW (Nat.le_of_ble_eq_true rfl) ?_
 simp only [b24,cO,cG,cN,cM,cD,cF,cB,aC,aS]
 unfold jP
 have z1:decide (c ≠ c)=false:=by simp
 have z2:decide ((x.length:Int) ≠ x.length)=false:=by simp
 (have zz:=aI @z1 @z2; repeat' (first|refine zW ?_|apply a_n|refine zO ?_|refine vY ?_|refine bxY ?_|refine gTY ?_|refine cFY ?_|fail)) <;> (try clear zz)
 refine bd (X:=Nat) (fun k=>[(2,.ptr 0 2 0),(3,.ptr 1 2 0),(5,.int .i64 k)]) (fun k H nx=>k ≤ x.length∧H 0=some [.int .i64 c,cC x]∧H 1=some [.int .i64 c,cC x]) (fun k=>x.length - k) 0 ⟨Nat.zero_le _,by rw [ag (by omega),ah],ah⟩ (by (iterate 3 refine And.intro rfl ?_); trivial) ?_
 rintro k H nx ⟨h1,g0,g1⟩
 by_cases hk:k < x.length
 rotate_left
 ·(have zz:=aI @g0 @g1; repeat' (first|refine zW ?_|apply a_n|apply a_x|refine zO ?_|refine vY ?_|(refine zGY ?_ ?_ <;> (intro _hg; try (exfalso; omega)))|refine aj rfl ?_|refine r1Y ?_|fail)) <;> (try clear zz)
  exact .bool _
 have hs:=tE (x.getD k default) (x.getD k default) (by have:=hxs _ (aU hk); omega) (by have:=hxs _ (aU hk); omega)
 rw [decide_eq_true rfl] at hs
 (have zz:=aI @g0 @g1; repeat' (first|refine zW ?_|refine zM ?_|apply a_n|refine zO ?_|refine vY ?_|refine cY ?_ (hp:=hs) (hs:=by (first | refine ab ?_ rfl | apply ac); (repeat' (first | exact aa | apply an | apply ae | exact eE _)); first | done | fail)|refine cFY ?_|(refine zGY ?_ ?_ <;> (intro _hg; try (exfalso; omega)))|fail)) <;> (try clear zz)
 exact ⟨k + 1,by omega,⟨by omega,g0,g1⟩,ag0⟩
end Go.Proofs.Ytfcenbapjhecfaa
namespace Go.Proofs.Ytfcenbapjhecfaa
open Go Go.Abs
attribute [local irreducible] aD ai aW aN aG aJ aA aK aP bb Go.Abs.Fn aM Go.Abs.Pure aw aF Yl
end Go.Proofs.Ytfcenbapjhecfaa
namespace Go.Proofs.Ytfcenbapjhecfaa
open Go Go.Abs
theorem ixV {l:List Int} {k:Nat} (h:k < l.length):dx 1 (bv l) (.int .i64 (k:Int))=some (.iptr [.int .i64 (l.getD k default)] 0):=by
 rw [ng,if_pos ⟨by omega,by omega⟩,Int.toNat_natCast]
attribute [local irreducible] aD ai aW aN aG aJ aA aK aP bb Go.Abs.Fn aM Go.Abs.Pure aw aF Yl
end Go.Proofs.Ytfcenbapjhecfaa
namespace Go.Proofs.Ytfcenbapjhecfaa
open Go Go.Abs
def bR (l:List Int):Spx:=l.map fun c=>⟨c,0⟩
theorem tO {l:List Int} {k:Nat} (h:k < l.length):bR (l.take (k + 1))=bR (l.take k) ++ [⟨l.getD k default,0⟩]:=by
 unfold bR; rw [b9 h,List.map_append]; rfl
attribute [local irreducible] aD ai aW aN aG aJ aA aK aP bb Go.Abs.Fn aM Go.Abs.Pure aw aF Yl
theorem rz (l:List Int) (hl:l.length ≤ 1000):cW Try.prog 36 [bv l] (au (bR l)):=by
 refine cW.of_c2 follows zP (Nat.le_of_ble_eq_true rfl) ?_
 simp only [b36,cO,cG,cN,cM,cD,cF,cB,aC,aS]
 (have zz:=and_self; repeat' (first|refine zW ?_|apply a_n|refine zO ?_|refine vY ?_|fail)) <;> (try clear zz)
 refine bd (X:=AV × Nat) (fun x=>[(3,x.1),(6,bv l),(7,.int .i64 l.length),(8,.int .i64 x.2)]) (fun x H nx=>x.2 ≤ l.length∧Row H 2 x.1 (cX (bR (l.take x.2)))∧∀ b,b6 x.1=some b→b < nx) (fun x=>l.length - x.2) (.esl,0) ⟨Nat.zero_le _,Row.nil,fun b hb=>(by cases hb)⟩ ag0 ?_
 rintro ⟨sv,k⟩ H nx ⟨k1,k3,k4⟩
 dsimp only at k1 k3 k4 ⊢
 by_cases hk:k < l.length
 rotate_left
 ·rw [List.take_of_length_le (by omega)] at k3
  (have zz:=and_self; repeat' (first|refine zW ?_|apply a_n|apply a_x|refine zO ?_|refine vY ?_|(refine zGY ?_ ?_ <;> (intro _hg; try (exfalso; omega)))|refine aj rfl ?_|refine r1Y ?_|fail)) <;> (try clear zz)
  exact kM k3
 have ix:=ixV hk
 have hpt:=tO hk
 have hcl:(cX (bR (l.take k))).length=k * 2:=by rw [dK]; unfold bR; rw [List.length_map,List.length_take]; omega
 (have zz:=@ix; repeat' (first|refine zW ?_|apply a_n|refine zO ?_|refine vY ?_|refine blY ?_|(refine zGY ?_ ?_ <;> (intro _hg; try (exfalso; omega)))|fail)) <;> (try clear zz)
 refine e8 rfl ev0 (k3.same fun b hb=>?_) ev0 nJ rfl rfl (by omega) (by omega) (by omega) ?_
 ·have:=k4 b hb; rw [ag (by omega)]
 rintro s2 E e hrow hle1 hle2 hsame hb2
 (have zz:=and_self; repeat' (first|apply a_n|refine zO ?_|refine vY ?_|fail)) <;> (try clear zz)
 refine ⟨(s2,k + 1),by dsimp only; omega,⟨by dsimp only; omega,?_,fun b hb=>?_⟩,ag0⟩
 ·dsimp only
  rw [hpt,gu]; exact hrow
 ·rcases hb2 b hb with h | h
  ·have:=k4 b h; omega
  ·omega
end Go.Proofs.Ytfcenbapjhecfaa
namespace Go.Proofs.Ytfcenbapjhecfaa
open Go Go.Abs
end Go.Proofs.Ytfcenbapjhecfaa
namespace Go.Proofs.Ytfcenbapjhecfaa
open Go Go.Abs
attribute [local irreducible] aD ai aW aN aG aJ aA aK aP bb Go.Abs.Fn aM Go.Abs.Pure aw aF Yl
end Go.Proofs.Ytfcenbapjhecfaa
namespace Go.Proofs.Ytfcenbapjhecfaa
open Go Go.Abs
attribute [local irreducible] aD ai aW aN aG aJ aA aK aP bb Go.Abs.Fn aM Go.Abs.Pure aw aF Yl
end Go.Proofs.Ytfcenbapjhecfaa
namespace Go.Proofs.Ytfcenbapjhecfaa
open Go Go.Abs
structure PairV where
 a:List Spx
 b:List Spx
 d:Int
attribute [local irreducible] aD ai aW aN aG aJ aA aK aP bb Go.Abs.Fn aM Go.Abs.Pure aw aF Yl
end Go.Proofs.Ytfcenbapjhecfaa
namespace Go.Proofs.Ytfcenbapjhecfaa
open Go Go.Abs
end Go.Proofs.Ytfcenbapjhecfaa
namespace Go.Proofs.Ytfcenbapjhecfaa
open Go Go.Abs
attribute [local irreducible] aD ai aW aN aG aJ aA aK aP bb Go.Abs.Fn aM Go.Abs.Pure aw aF Yl
theorem vD (l m:List Int) (hl:l.length ≤ 1000000) (hm:m.length ≤ 1000000):Pure Try.prog 29 [bv l,bv m] (.bool (decide (l=m))):=by
 refine Pure.of_c2 follows zY (Nat.le_of_ble_eq_true rfl) ?_
 simp only [b29,cO,cG,cN,cM,cD,cF,cB,aC,aS]
 (have zz:=and_self; repeat' (first|refine zW ?_|apply a_n|apply a_r|refine zO ?_|refine vZ ?_|(refine zGZ ?_ ?_ <;> (intro _hg; try (exfalso; omega)))|refine aj rfl ?_|refine r1Z ?_|fail)) <;> (try clear zz)
 ·refine bk ?_
  symm; rw [decide_eq_false_iff_not]; rintro rfl; omega
 refine i7 (X:=Nat) (fun k=>[(0,bv l),(1,bv m),(12,.int .i64 l.length),(13,.int .i64 k)]) (fun k=>k ≤ l.length∧∀ i,i < k→l.getD i default=m.getD i default) (fun k=>l.length - k) 0 ⟨Nat.zero_le _,by simp⟩ ag0 ?_
 rintro k ⟨h1,h2⟩
 (have zz:=and_self; repeat' (first|refine zW ?_|apply a_n|apply a_x|apply a_r|refine zO ?_|refine vZ ?_|(refine zGZ ?_ ?_ <;> (intro _hg; try (exfalso; omega)))|refine aj rfl ?_|refine r1Z ?_|fail)) <;> (try clear zz)
 ·refine bk ?_
  symm; rw [decide_eq_false_iff_not]; rintro rfl; exact absurd rfl ‹_›
 ·refine ⟨k + 1,⟨by omega,fun i hi=>?_⟩,by omega,ag0,rfl,rfl⟩
  rcases Nat.lt_succ_iff_lt_or_eq.1 hi with h | rfl
  ·exact h2 i h
  ·omega
 ·refine bk ?_
  symm; rw [decide_eq_true_iff]
  refine List.ext_getElem (by omega) (fun i h3 h4=>?_)
  have:=h2 i (by omega)
  simpa [List.getD,h3,h4] using this
end Go.Proofs.Ytfcenbapjhecfaa
namespace Go.Proofs.Ytfcenbapjhecfaa
open Go Go.Abs
def exC:List Spx:=[bR [0,1,2],bR [2,3]]
def exA:List Spx:=[bR [0,1],bR [0,2],bR [1,2]]
def exB:List Spx:=[bR [0],bR [2]]
def exS:List Spx:=[bR [0,1],bR [2,3]]
theorem u0:cW Try.prog 36 [bv [0,1,2]] (au (bR [0,1,2])):=rz _ (by decide)
theorem kN:cW Try.prog 36 [bv [0,1]] (au (bR [0,1])):=rz _ (by decide)
theorem wo:cW Try.prog 36 [bv [0,2]] (au (bR [0,2])):=rz _ (by decide)
theorem kU:cW Try.prog 36 [bv [1,2]] (au (bR [1,2])):=rz _ (by decide)
theorem oX:cW Try.prog 36 [bv [2,3]] (au (bR [2,3])):=rz _ (by decide)
theorem yj:cW Try.prog 36 [bv [0]] (au (bR [0])):=rz _ (by decide)
theorem yb:cW Try.prog 36 [bv [2]] (au (bR [2])):=rz _ (by decide)
theorem yG:Pure Try.prog 17 [ap [bR [0,1,2]]] (.tup [ap exA,.int .i64 0]):=by
 have h:=oS [bR [0,1,2]] ⟨by decide,by decide⟩
 rwa [show eI [bR [0,1,2]]=(exA,0) by decide +kernel] at h
theorem zg:Pure Try.prog 17 [ap [bR [0,1],bR [1,2]]] (.tup [ap exB,.int .i64 0]):=by
 have h:=oS [bR [0,1],bR [1,2]] ⟨by decide,by decide⟩
 rwa [show eI [bR [0,1],bR [1,2]]=(exB,0) by decide +kernel] at h
theorem zr:Pure Try.prog 19 [ap exA] (.tup [.bool true,.int .i64 0]):=by
 have h:=wX exA ⟨by decide,by decide⟩
 rwa [show qA exA=(true,0) by decide +kernel] at h
theorem AS:Pure Try.prog 12 [ap [bR [0,1],bR [1,2]],ap [bR [1,2],bR [2,3]]] (.tup [ap exS,.int .i64 0]):=by
 have h:=wL [bR [0,1],bR [1,2]] [bR [1,2],bR [2,3]] ⟨by decide,by decide⟩ ⟨by decide,by decide⟩
 rwa [show vX [bR [0,1],bR [1,2]] [bR [1,2],bR [2,3]]=(exS,0) by decide +kernel] at h
theorem wZ:Pure Try.prog 22 [gU exC,.int .i64 1] (.tup [(.agg [.int .i64 4,cC [[0,1],[0,2],[1,2,3],[3]]]),.int .i64 0]):=by
 have h:=vP exC 1 (by decide) (by decide)
 rwa [show nt exC 1=((4,[[0,1],[0,2],[1,2,3],[3]]),0) by decide +kernel] at h
theorem w5:Pure Try.prog 22 [gU exC,.int .i64 2] (.tup [(.agg [.int .i64 1,cC [[0],[0],[0],[]]]),.int .i64 0]):=by
 have h:=vP exC 2 (by decide) (by decide)
 rwa [show nt exC 2=((1,[[0],[0],[0],[]]),0) by decide +kernel] at h
theorem yv:Pure Try.prog 25 [gU exC,ap exS] (.tup [bv [0,3],.int .i64 0]):=by
 have h:=xH exC exS (by decide) (by decide) ⟨by decide,by decide⟩
 rwa [show wt exC exS=([0,3],0) by decide +kernel] at h
theorem kQ (l:List Spx) (h:ShC l):Pure Try.prog 16 [ap l,ap l] (.bool true):=by
 have:=sN l l h.1 h.1 h.2 h.2
 rwa [decide_eq_true rfl] at this
theorem ya {H:Hp} {b c:Nat} {cs:List AV} {x y:AV} (h1:H b=some cs) (h2:H c=some [x]) (hne:c ≠ b) (hs:Snap (only b cs) x y):Fz (only b cs) H (only c [y]) where
 sub:=iu h1
 to:=fun a cs' h=>by
  unfold only at h
  split at h
  ·rename_i e
   cases h
   refine ⟨[x],by rw [e]; exact h2,?_,rfl,fun i u v hu hv=>?_⟩
   ·unfold only; rw [if_neg (by rw [e]; exact hne)]
   ·match i with
    | 0=>simp at hu hv; subst hu; subst hv; exact .inr hs
    | i + 1=>simp at hu
  ·cases h
theorem fF {H:Hp} {b n:Nat} {l:List Spx} (h:H b=some (l.map au)) (hn:n=l.length):Snap H (.msl b n 1 0 n) (ap l):=by
 subst hn
 have:=Row.box (H:=H) (sz:=1) b l.length (l.map au) h (by simp)
 rw [Nat.mul_one] at this
 exact eM this
theorem po {H:Hp} {b n:Nat} {cs:List AV} {l:List (List Int)} (hb:H b=some cs) (hn:cs.length=n) (h:aF H cs (l.map bv)):Snap H (.msl b n 1 0 n) (cC l):=by
 have hl:=h.1
 refine f8 (l:=l.map bv) hb hn (by omega) (by omega) (fun y hy=>?_) (fun i a c ha hc=>?_)
 ·obtain ⟨z,_,rfl⟩:=List.mem_map.1 hy; rfl
 ·rw [Nat.zero_add] at ha
  exact h.2 i a c ha hc
theorem zD {g:FuncId} {r:AV} {l:List Spx} (hp:Pure Try.prog g [ap l] r) {H:Hp} {b nx c n:Nat} {cs:List AV} (h1:H b=some (l.map au)) (hn:n=l.length) (h2:H c=some cs) (hne:c ≠ b):Abs.Fn Try.prog g [.msl b n 1 0 n] H nx fun r' H' nx'=>r'=r∧H'=only c cs∧nx'=nx :=
 Fn.of_pureZ hp (Hf:=only b (l.map au)) (H':=only c cs) (iu h1) (fun a cs' h=>by
  unfold only at h
  split at h
  ·rename_i e; cases h; subst e
   exact ⟨h2,by unfold only; rw [if_neg hne]⟩
  ·cases h) (ak (fF ja hn) aa) ⟨rfl,rfl,rfl⟩
theorem A1 {g:FuncId} {r:AV} {l m:List Spx} (hp:Pure Try.prog g [ap l,ap m] r) {H:Hp} {b d nx c n k:Nat} {cs:List AV} (h1:H b=some (l.map au)) (hn:n=l.length) (h3:H d=some (m.map au)) (hk:k=m.length) (hbd:d ≠ b) (h2:H c=some cs) (hne:c ≠ b) (hne2:c ≠ d):Abs.Fn Try.prog g [.msl b n 1 0 n,.msl d k 1 0 k] H nx fun r' H' nx'=>r'=r∧H'=only c cs∧nx'=nx :=
 Fn.of_pureZ hp (Hf:=on2 b (l.map au) d (m.map au)) (H':=only c cs) (oe h1 h3) (fun a cs' h=>by
  unfold only at h
  split at h
  ·rename_i e; cases h; subst e
   exact ⟨h2,by unfold on2; rw [if_neg hne,if_neg hne2]⟩
  ·cases h) (ak (fF w7 hn) (ak (fF (w9 hbd) hk) aa)) ⟨rfl,rfl,rfl⟩
theorem yy:Pure Try.prog 29 [bv [0,3],bv [0,3]] (.bool true):=by
 have:=vD [0,3] [0,3] (by decide) (by decide)
 rwa [decide_eq_true rfl] at this
attribute [local irreducible] aD ai aW aN aG aJ aA aK aP bb Go.Abs.Fn aM Go.Abs.Pure aw aF Yl
set_option maxHeartbeats 2000000 in
theorem sC:Pure Try.prog 11 [] (.bool true):=by
 refine Pure.of_c2 follows Al (Nat.le_of_ble_eq_true rfl) ?_
 simp only [b11,cO,cG,cN,cM,cD,cF,cB,aC,aS]
 have h3:only 3 [ap exC] 3=some [ap exC]:=ja
 (have zz:=aI @h3 (aI @az (aI @ar (aI @av @am))); repeat' (first|refine zW ?_|apply a_n|refine zO ?_|refine vZ ?_|refine blZ ?_|fail)) <;> (try clear zz)
 refine bQ ev0 ev0 u0 (ak (be (n:=3) (len:=3) (l:=[0,1,2]) (by exact rfl) rfl rfl) aa) ?_
 (have zz:=aI @h3 (aI @az (aI @ar (aI @av @am))); repeat' (first|apply a_n|refine zO ?_|refine blZ ?_|fail)) <;> (try clear zz)
 refine bQ ev0 ev0 oX (ak (be (n:=2) (len:=2) (l:=[2,3]) (by exact rfl) rfl rfl) aa) ?_
 (have zz:=aI @h3 (aI @az (aI @ar (aI @av @am))); repeat' (first|apply a_n|refine zO ?_|refine vZ ?_|refine alZ ?_|refine stZ ?_|refine blZ ?_|fail)) <;> (try clear zz)
 refine fK ?_
 refine sy (only 2 [au (bR [0,1,2]),au (bR [2,3])]) (only 3 [ap exC]) [(1,.ptr 3 1 0)] (ya (x:=.msl 2 2 1 0 2) rfl rfl (by decide) (fF (l:=exC) rfl rfl)) ⟨.inl rfl,trivial⟩ ?_
 (have zz:=aI @h3 (aI @az (aI @ar (aI @av @am))); repeat' (first|apply a_n|refine zO ?_|refine blZ ?_|fail)) <;> (try clear zz)
 refine bQ ev0 ev0 u0 (ak (be (n:=3) (len:=3) (l:=[0,1,2]) (by exact rfl) rfl rfl) aa) ?_
 (have zz:=aI @h3 (aI @az (aI @ar (aI @av @am))); repeat' (first|apply a_n|refine zO ?_|refine blZ ?_|fail)) <;> (try clear zz)
 refine aR ev0 ev0 (zD yG (b:=5) (c:=3) (cs:=[ap exC]) (by exact rfl) (by exact rfl) (by exact rfl) (by decide)) ?_
 rintro _ _ _ ⟨rfl,rfl,rfl⟩
 (have zz:=aI @h3 (aI @az (aI @ar (aI @av @am))); repeat' (first|refine zW ?_|apply a_n|refine zO ?_|refine vZ ?_|refine cZ ?_ (hp:=by first | exact zr | exact wZ | exact w5 | exact yv) (hs:=by (first | refine ab ?_ rfl | apply ac); (repeat' (first | exact aa | apply an | apply ae | exact ax _ | exact bG _)); first | done | fail)|refine blZ ?_|fail)) <;> (try clear zz)
 refine bQ ev0 ev0 kN (ak (be (n:=2) (len:=2) (l:=[0,1]) (by exact rfl) rfl rfl) aa) ?_
 (have zz:=aI @h3 (aI @az (aI @ar (aI @av @am))); repeat' (first|apply a_n|refine zO ?_|refine blZ ?_|fail)) <;> (try clear zz)
 refine bQ ev0 ev0 kU (ak (be (n:=2) (len:=2) (l:=[1,2]) (by exact rfl) rfl rfl) aa) ?_
 (have zz:=aI @h3 (aI @az (aI @ar (aI @av @am))); repeat' (first|apply a_n|refine zO ?_|refine blZ ?_|fail)) <;> (try clear zz)
 refine aR ev0 ev0 (zD zg (b:=8) (c:=3) (cs:=[ap exC]) (by exact rfl) (by exact rfl) (by exact rfl) (by decide)) ?_
 rintro _ _ _ ⟨rfl,rfl,rfl⟩
 (have zz:=aI @h3 (aI @az (aI @ar (aI @av @am))); repeat' (first|refine zW ?_|apply a_n|refine zO ?_|refine vZ ?_|refine blZ ?_|fail)) <;> (try clear zz)
 refine bQ ev0 ev0 kN (ak (be (n:=2) (len:=2) (l:=[0,1]) (by exact rfl) rfl rfl) aa) ?_
 (have zz:=aI @h3 (aI @az (aI @ar (aI @av @am))); repeat' (first|apply a_n|refine zO ?_|refine blZ ?_|fail)) <;> (try clear zz)
 refine bQ ev0 ev0 kU (ak (be (n:=2) (len:=2) (l:=[1,2]) (by exact rfl) rfl rfl) aa) ?_
 (have zz:=aI @h3 (aI @az (aI @ar (aI @av @am))); repeat' (first|apply a_n|refine zO ?_|refine blZ ?_|fail)) <;> (try clear zz)
 refine bQ ev0 ev0 kU (ak (be (n:=2) (len:=2) (l:=[1,2]) (by exact rfl) rfl rfl) aa) ?_
 (have zz:=aI @h3 (aI @az (aI @ar (aI @av @am))); repeat' (first|apply a_n|refine zO ?_|refine blZ ?_|fail)) <;> (try clear zz)
 refine bQ ev0 ev0 oX (ak (be (n:=2) (len:=2) (l:=[2,3]) (by exact rfl) rfl rfl) aa) ?_
 (have zz:=aI @h3 (aI @az (aI @ar (aI @av @am))); repeat' (first|apply a_n|refine zO ?_|refine blZ ?_|fail)) <;> (try clear zz)
 refine aR ev0 ev0 (A1 AS (b:=11) (d:=14) (c:=3) (cs:=[ap exC]) (by exact rfl) (by exact rfl) (by exact rfl) (by exact rfl) (by decide) (by exact rfl) (by decide) (by decide)) ?_
 rintro _ _ _ ⟨rfl,rfl,rfl⟩
 (have zz:=aI @h3 (aI @az (aI @ar (aI @av @am))); repeat' (first|refine zW ?_|apply a_n|refine zO ?_|refine vZ ?_|refine blZ ?_|refine gTZ ?_|(refine zGZ ?_ ?_ <;> (intro _hg; try (exfalso; omega)))|fail)) <;> (try clear zz)
 refine bQ ev0 ev0 kN (ak (be (n:=2) (len:=2) (l:=[0,1]) (by exact rfl) rfl rfl) aa) ?_
 (have zz:=aI @h3 (aI @az (aI @ar (aI @av @am))); repeat' (first|apply a_n|refine zO ?_|refine blZ ?_|refine gTZ ?_|fail)) <;> (try clear zz)
 refine bQ ev0 ev0 wo (ak (be (n:=2) (len:=2) (l:=[0,2]) (by exact rfl) rfl rfl) aa) ?_
 (have zz:=aI @h3 (aI @az (aI @ar (aI @av @am))); repeat' (first|apply a_n|refine zO ?_|refine blZ ?_|refine gTZ ?_|fail)) <;> (try clear zz)
 refine bQ ev0 ev0 kU (ak (be (n:=2) (len:=2) (l:=[1,2]) (by exact rfl) rfl rfl) aa) ?_
 (have zz:=aI @h3 (aI @az (aI @ar (aI @av @am))); repeat' (first|apply a_n|refine zO ?_|refine blZ ?_|refine gTZ ?_|fail)) <;> (try clear zz)
 refine bE ev0 ev0 (kQ exA ⟨by decide,by decide⟩) (ab (ak (ax _ _) (ak (fF (b:=18) (n:=3) (by exact rfl) (by exact rfl)) aa)) rfl) ?_
 (have zz:=aI @h3 (aI @az (aI @ar (aI @av @am))); repeat' (first|apply a_n|refine zO ?_|refine vZ ?_|refine blZ ?_|refine gTZ ?_|fail)) <;> (try clear zz)
 refine bQ ev0 ev0 yj (ak (be (n:=1) (len:=1) (l:=[0]) (by exact rfl) rfl rfl) aa) ?_
 (have zz:=aI @h3 (aI @az (aI @ar (aI @av @am))); repeat' (first|apply a_n|refine zO ?_|refine blZ ?_|refine gTZ ?_|fail)) <;> (try clear zz)
 refine bQ ev0 ev0 yb (ak (be (n:=1) (len:=1) (l:=[2]) (by exact rfl) rfl rfl) aa) ?_
 (have zz:=aI @h3 (aI @az (aI @ar (aI @av @am))); repeat' (first|apply a_n|refine zO ?_|refine blZ ?_|refine gTZ ?_|fail)) <;> (try clear zz)
 refine bE ev0 ev0 (kQ exB ⟨by decide,by decide⟩) (ab (ak (ax _ _) (ak (fF (b:=21) (n:=2) (by exact rfl) (by exact rfl)) aa)) rfl) ?_
 (have zz:=aI @h3 (aI @az (aI @ar (aI @av @am))); repeat' (first|apply a_n|refine zO ?_|refine vZ ?_|refine blZ ?_|refine gTZ ?_|fail)) <;> (try clear zz)
 refine bQ ev0 ev0 kN (ak (be (n:=2) (len:=2) (l:=[0,1]) (by exact rfl) rfl rfl) aa) ?_
 (have zz:=aI @h3 (aI @az (aI @ar (aI @av @am))); repeat' (first|apply a_n|refine zO ?_|refine blZ ?_|refine gTZ ?_|fail)) <;> (try clear zz)
 refine bQ ev0 ev0 oX (ak (be (n:=2) (len:=2) (l:=[2,3]) (by exact rfl) rfl rfl) aa) ?_
 (have zz:=aI @h3 (aI @az (aI @ar (aI @av @am))); repeat' (first|apply a_n|refine zO ?_|refine blZ ?_|refine gTZ ?_|fail)) <;> (try clear zz)
 refine bE ev0 ev0 (kQ exS ⟨by decide,by decide⟩) (ab (ak (ax _ _) (ak (fF (b:=24) (n:=2) (by exact rfl) (by exact rfl)) aa)) rfl) ?_
 (have zz:=aI @h3 (aI @az (aI @ar (aI @av @am))); repeat' (first|refine zW ?_|apply a_n|refine zO ?_|refine vZ ?_|refine cZ ?_ (hp:=by first | exact zr | exact wZ | exact w5 | exact yv) (hs:=by (first | refine ab ?_ rfl | apply ac); (repeat' (first | exact aa | apply an | apply ae | exact ax _ | exact bG _)); first | done | fail)|refine alZ ?_|refine stZ ?_|refine blZ ?_|refine gTZ ?_|(refine zGZ ?_ ?_ <;> (intro _hg; try (exfalso; omega)))|refine cFZ ?_|fail)) <;> (try clear zz)
 refine bE ev0 ev0 (nk 4 [[0,1],[0,2],[1,2,3],[3]] (by decide) (by decide)) (ab (ak ((show Dat (.agg [.int .i64 4,cC [[0,1],[0,2],[1,2,3],[3]]]) from mE 4 [[0,1],[0,2],[1,2,3],[3]]) _) (ak (mJ (ak (.int _ _) (ak (po (b:=31) (n:=4) (cs:=[.msl 27 2 1 0 2,.msl 28 2 1 0 2,.msl 29 3 1 0 3,.msl 30 1 1 0 1]) (by exact rfl) (by exact rfl) (ak (be (b:=27) (n:=2) (len:=2) (l:=[0,1]) (by exact rfl) rfl rfl) (ak (be (b:=28) (n:=2) (len:=2) (l:=[0,2]) (by exact rfl) rfl rfl) (ak (be (b:=29) (n:=3) (len:=3) (l:=[1,2,3]) (by exact rfl) rfl rfl) (ak (be (b:=30) (n:=1) (len:=1) (l:=[3]) (by exact rfl) rfl rfl) aa))))) aa))) aa)) rfl) ?_
 (have zz:=aI @h3 (aI @az (aI @ar (aI @av @am))); repeat' (first|apply a_n|refine zO ?_|refine vZ ?_|refine blZ ?_|refine gTZ ?_|fail)) <;> (try clear zz)
 refine bE ev0 ev0 (nk 1 [[0],[0],[0],[]] (by decide) (by decide)) (ab (ak ((show Dat (.agg [.int .i64 1,cC [[0],[0],[0],[]]]) from mE 1 [[0],[0],[0],[]]) _) (ak (mJ (ak (.int _ _) (ak (po (b:=35) (n:=4) (cs:=[.msl 32 1 1 0 1,.msl 33 1 1 0 1,.msl 34 1 1 0 1,.esl]) (by exact rfl) (by exact rfl) (ak (be (b:=32) (n:=1) (len:=1) (l:=[0]) (by exact rfl) rfl rfl) (ak (be (b:=33) (n:=1) (len:=1) (l:=[0]) (by exact rfl) rfl rfl) (ak (be (b:=34) (n:=1) (len:=1) (l:=[0]) (by exact rfl) rfl rfl) (ak (.eslsl 1) aa))))) aa))) aa)) rfl) ?_
 (have zz:=aI @h3 (aI @az (aI @ar (aI @av @am))); repeat' (first|apply a_n|refine zO ?_|refine vZ ?_|refine blZ ?_|refine gTZ ?_|fail)) <;> (try clear zz)
 refine bE ev0 ev0 yy (ab (ak (eE _ _) (ak (be (b:=36) (n:=2) (len:=2) (l:=[0,3]) (by exact rfl) rfl rfl) aa)) rfl) ?_
 (have zz:=aI @h3 (aI @az (aI @ar (aI @av @am))); repeat' (first|apply a_n|refine zO ?_|refine vZ ?_|refine aj rfl ?_|refine r1Z ?_|fail)) <;> (try clear zz)
 exact .bool _
end Go.Proofs.Ytfcenbapjhecfaa
namespace Go.Proofs.Ytfcenbapjhecfaa
open Go Go.Abs
theorem sx:ShC []:=⟨Nat.zero_le _,fun s h=>(by cases h)⟩
theorem sV {a:List Spx} (h:a.length ≤ 1000000) (hs:∀ s ∈ a,bc s=0):ShC a:=⟨show _ ≤ _ by omega,iH hs⟩
theorem sF {a:List Spx}:ShC (eI a).1:=by
 unfold eI
 split
 ·exact sx
 split
 ·exact sx
 ·rename_i h1 h2
  exact sV (by show (bD a).length ≤ _; omega) (ns (dD (Decidable.of_not_not h1)).2.1)
theorem AL (a:List Spx) (ha:ShC a):Pure Try.prog 10 [da [a]] (.bool (kG a)):=by
 have:=wi [a] (show _ ≤ _ by simp) (fun x hx=>by rw [List.mem_singleton.1 hx]; exact ha)
 rwa [show [a].all kG=kG a by simp] at this
theorem ur {H:Hp} {b:Nat} {x:List Spx} (h:H b=some [ap x]):aF H [.msl b 1 1 0 1] [da [x]] :=
 ak (jp (l:=[ap x]) h rfl rfl (by
  intro z hz
  rw [List.mem_singleton.1 hz]
  exact ⟨rfl,ax _⟩)) aa
attribute [local irreducible] aD ai aW aN aG aJ aA aK aP bb Go.Abs.Fn aM Go.Abs.Pure aw aF Yl
theorem re (a:List Spx) (ha:ShC a):Pure Try.prog 4 [ap a] (.bool true):=by
 refine Pure.of_c2 follows is4 (Nat.le_of_ble_eq_true rfl) ?_
 simp only [b4,cO,cG,cN,cM,cD,cF,cB,aC,aS]
 have f1:=AL a ha
 have s1:=oS a ha
 have s2:=u9 a ha
 have s3:=wX a ha
 have s4:=xO a ha
 have s5:=kQ _ (sF (a:=a))
 generalize eI a=P at *
 obtain ⟨p,e⟩:=P
 generalize qA a=Q at *
 obtain ⟨q,g⟩:=Q
 dsimp only at s1 s2 s3 s4 s5
 have z1:decide (g=g)=true:=decide_eq_true rfl
 have z2:decide (e=e)=true:=decide_eq_true rfl
 have z3:(q == q)=true:=by cases q <;> rfl
 (have zz:=aI @av @am; repeat' (first|refine zW ?_|apply a_n|refine zO ?_|refine vY ?_|refine blY ?_|fail)) <;> (try clear zz)
 refine bE ev0 ev0 f1 (ab (ur (by rw [ah])) rfl) ?_
 cases kG a
 ·(have zz:=and_self; repeat' (first|refine zW ?_|apply a_n|apply a_r|refine zO ?_|refine vY ?_|refine cY ?_ (hp:=sC) (hs:=by (first | refine ab ?_ rfl | apply ac); (repeat' (first | exact aa | apply an | apply ae | exact ax _)); first | done | fail)|refine cTY ?_|refine aj rfl ?_|refine r1Y ?_|fail)) <;> (try clear zz)
  exact .bool _
 ·(have zz:=aI @z1 (aI @z2 @z3); repeat' (first|refine zW ?_|apply a_n|refine zO ?_|refine vY ?_|refine cY ?_ (hp:=by first | exact sC | exact s1 | exact s2 | exact s3 | exact s4 | exact s5) (hs:=by (first | refine ab ?_ rfl | apply ac); (repeat' (first | exact aa | apply an | apply ae | exact ax _)); first | done | fail)|refine gTY ?_|(refine zGY ?_ ?_ <;> (intro _hg; try (exfalso; omega)))|refine cFY ?_|refine aj rfl ?_|refine r1Y ?_|fail)) <;> (try clear zz)
  exact .bool _
end Go.Proofs.Ytfcenbapjhecfaa
namespace Go.Proofs.Ytfcenbapjhecfaa
open Go Go.Abs Go.RowKit
section
variable {H:Type} {enc:TypeId × Value→H} {W:World}
theorem oi:dj enc Try.prog W 3 (AV.int .i64) (fun n=>(Lit.int .i64 n).wf=true):=tY Try.underlying3
set_option maxRecDepth 100000 in
theorem zU:dj enc Try.prog W 101 bL (fun _=>True) :=
 (n6 Try.underlying101 (by kernel_rfl) (ky (off:=0) (off':=1) rfl (by kernel_rfl) oi (ky (off:=1) (off':=2) rfl (by kernel_rfl) oi rG))).map
  (fun a=>(⟨a.1,a.2.1⟩:Vtx)) (fun _ _=>trivial) (fun _ _=>rfl)
theorem oXs:dj enc Try.prog W 52 au Shn :=
 (ki Try.underlying52 (sz:=2) (by_:=16) (by kernel_rfl) (by kernel_rfl) (by omega) (fun _=>rfl) zU).mono fun l h=>by have:=h.2.2; show _ ≤ _; omega
theorem z9:dj enc Try.prog W 22 ap (fun l=>Shn l∧∀ x ∈ l,Shn x) :=
 (ki Try.underlying22 (sz:=1) (by_:=24) (by kernel_rfl) (by kernel_rfl) Nat.one_pos (fun _=>rfl) oXs).mono fun l h=>⟨by have:=h.2.2; show _ ≤ _; omega,h.1⟩
end
theorem kW {f:FuncId} {xs:List AV} {vs:List Value} (h:Go.Abs.Pure Try.prog f xs (.bool true)) (w:World) (hv:bI (E0 (oL w)) w xs vs) :
    Calls Try.prog f vs.toArray w fun e w'=>e=.returned (.bool true)∧Below w.heap.size w w':=by
 refine (h.2 (oL w) w vs (fun _ h=>h) hv).mono ?_
 rintro e w' ⟨v,imm',rfl,hb,_,_,_,hr⟩
 cases hr
 exact ⟨rfl,hb⟩
theorem zL:laidOutB Try.prog=true:=by kernel_rfl
end Go.Proofs.Ytfcenbapjhecfaa
namespace Go.Proofs.Ytfcenbapjhecfaa
open Go Go.Abs Go.RowKit
section
variable {H:Type} {enc:TypeId × Value→H} {W:World}
end
end Go.Proofs.Ytfcenbapjhecfaa
namespace Go.Proofs.Ytfcenbapjhecfaa
open Go Go.Abs Go.RowKit Go.ChangeShapes Go.WideShapes Go.ChangeAt
theorem mP {H:Type} {enc:TypeId × Value→H} {P:Program} {f:Func} {s:ChangeSpec} {apart fresh handsOn again:Bool} {W W':World} {args:Array Value} {v:Value} {ds gs:List (DataW H)} {before pa pv:List MemPlace}
    (hW:DataW.Whole enc P f.params.toList s.vars apart W args.toList ds gs before)
    (hres:∀ (b:Nat) (sp:Nat→Bool) (hd:Bool),DataW.TrodAll enc P W' b sp hd f.resultTypes.toList (v.resultList f.resultTypes.size) (s.fn H (ds ++ gs)).results [])
    (hargs:∀ sp:Nat→Bool,(∀ p ∈ before,sp p.block=true)→DataW.TrodAll enc P W' 0 sp true f.params.toList args.toList (s.fn H (ds ++ gs)).args pa)
    (hvars:∀ sp:Nat→Bool,(∀ p ∈ before,sp p.block=true)→DataW.TrodVars enc P W' sp s.vars (s.fn H (ds ++ gs)).vars pv)
    (hps:before=pa ++ pv) (hb:Below W.heap.size W W')
    (hok:∀ (j:Nat) (t:TypeId) (r:Value),f.resultTypes[j]?=some t→(v.resultList f.resultTypes.size)[j]?=some r→Value.okWide P W' .any 0 t r) :
    s.post enc P f apart fresh handsOn again W args v W':=by
 have hold:∀ p ∈ before,(fun b=>decide (b < W.heap.size)) p.block=true:=fun p hp=>by simpa using hW.lt p hp
 have hlt:=fun p hp=>hW.lt p hp
 refine ⟨ds,gs,before,[],pa,pv,hW,hres _ _ _,hargs _ hold,hvars _ hold,World.keptBut_mono (fun p hp=>⟨hp,?_⟩) (hb.frame _),fun _=>?_⟩
 ·rw [hps,List.mem_append] at hp
  exact Or.inr hp
 ·obtain ⟨_,_,_,_,_,hz,hn⟩:=hW
  refine ⟨hok,_,_,([] ++ pa) ++ pv,⟨[] ++ pa,pv,trodAll_append (hargs _ (fun _ _=>rfl)) (hres _ _ _),hvars _ (fun _ _=>rfl),rfl,?_,?_⟩,?_⟩
  ·intro b off hp
   have hp':MemPlace.cell b off ∈ before:=by rw [hps]; simpa using hp
   rw [hb.frozen (hlt _ hp')]
   exact hz b off hp'
  ·intro ha
   have:=hn ha
   rw [hps] at this
   simpa using this
  ·intro p hp _
   rw [hps]
   simpa using hp
theorem uu {E:Env} {w:World}:bI E w [] []:=⟨rfl,fun i x y h=>(by cases h)⟩
theorem tV {E:Env} {w:World} {x:AV} {y:Value} {xs:List AV} {ys:List Value} (h:Rel E w x y) (hs:bI E w xs ys):bI E w (x :: xs) (y :: ys):=by
 refine ⟨by simp [hs.1],fun i a b ha hb=>?_⟩
 cases i with
 | zero=>simp at ha hb; subst ha hb; exact h
 | succ i=>simp at ha hb; exact hs.2 i a b ha hb
theorem own:ownKnob Try.prog.godebug=none:=by kernel_rfl
end Go.Proofs.Ytfcenbapjhecfaa