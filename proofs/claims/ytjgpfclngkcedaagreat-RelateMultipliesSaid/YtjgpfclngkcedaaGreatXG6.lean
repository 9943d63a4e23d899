/- Texts of this claim, one after the other: T59, T60, T58, T61, T62, T65, T66, A14, T46, T67, T8, T9. -/
import Derived.Test.YtjgpfclngkcedaaGreatXG5
import Derived.Test.YtjgpfclngkcedaaGreatXG4
import Derived.Test.YtjgpfclngkcedaaGreatXG3
import Derived.Test.YtjgpfclngkcedaaGreatRows
import Derived.WalkKit
import Derived.ProofKit
import Derived.OpenShut

set_option linter.unusedSimpArgs false
set_option linter.unusedVariables false
namespace Go.Proofs.YtjgpfclngkcedaaGreat
open Go Go.Abs
structure BoxesM (H:Hp) (bs:List Nat) (l:List (List Int)):Prop where
  len:bs.length=l.length
  at_:∀ i,i < l.length→H (bs.getD i 0)=some ((l.getD i default).map (AV.int .i64))
  nodup:bs.Nodup
theorem BoxesM.same {H H':Hp} {bs:List Nat} {l:List (List Int)} (h:BoxesM H bs l) (hs:∀ b ∈ bs,H' b=H b):BoxesM H' bs l :=
  ⟨h.len,fun i hi=>(hs _ (by have:=h.len; rw [List.getD_eq_getElem?_getD,List.getElem?_eq_getElem (by omega)]; exact List.getElem_mem _)).trans (h.at_ i hi),h.nodup⟩
theorem wr {bs:List Nat} (h:bs.Nodup) {i j:Nat} (hi:i < bs.length) (hj:j < bs.length) (e:bs.getD i 0=bs.getD j 0):i=j:=by
  rw [List.getD_eq_getElem?_getD,List.getD_eq_getElem?_getD,List.getElem?_eq_getElem hi,List.getElem?_eq_getElem hj] at e
  have hp:=List.pairwise_iff_getElem.1 (List.nodup_iff_pairwise_ne.1 h)
  rcases Nat.lt_trichotomy i j with c | c | c
  · exact absurd e (hp i j hi hj c)
  · exact c
  · exact absurd e.symm (hp j i hj hi c)
theorem BoxesM.snoc {H:Hp} {bs:List Nat} {l:List (List Int)} {b:Nat} {v:List Int} (h:BoxesM H bs l) (hb:H b=some (v.map (AV.int .i64))) (hn:b ∉ bs):BoxesM H (bs ++ [b]) (l ++ [v]):=by
  refine ⟨by simp [h.len],fun i hi=>?_,?_⟩
  · rw [List.length_append,List.length_singleton] at hi
    have hl:=h.len
    by_cases e:i=l.length
    · subst e
      rw [← hl]
      simp only [List.getD_eq_getElem?_getD,List.getElem?_append_right (Nat.le_refl _),Nat.sub_self]
      rw [hl,List.getElem?_append_right (Nat.le_refl _),Nat.sub_self]
      exact hb
    · have:=h.at_ i (by omega)
      simp only [List.getD_eq_getElem?_getD] at this ⊢
      rw [List.getElem?_append_left (by omega),List.getElem?_append_left (by omega)]
      exact this
  · rw [List.nodup_append]
    exact ⟨h.nodup,by simp,fun x hx y hy e=>hn (by simp at hy; subst hy; subst e; exact hx)⟩
attribute [local irreducible] ar ac aN aF av aA an az aJ aV Go.Abs.Fn aD Go.Abs.Pure ag au Yl
end Go.Proofs.YtjgpfclngkcedaaGreat
namespace Go.Proofs.YtjgpfclngkcedaaGreat
open Go Go.Abs
section
variable {α:Type} [Inhabited α] {g:α→α} {l:List α}
end
theorem BoxesM.set {H:Hp} {bs:List Nat} {l:List (List Int)} {i:Nat} {v:List Int} (h:BoxesM H bs l) (hi:i < l.length):BoxesM (al H (bs.getD i 0) (v.map (AV.int .i64))) bs (l.set i v):=by
  refine ⟨by rw [List.length_set]; exact h.len,fun j hj=>?_,h.nodup⟩
  rw [List.length_set] at hj
  by_cases e:j=i
  · subst e
    rw [aw]
    simp [List.getD,hj]
  · rw [ak (fun k=>e (wr h.nodup (by have:=h.len; omega) (by have:=h.len; omega) k)),h.at_ j hj]
    simp only [List.getD_eq_getElem?_getD]
    rw [List.getElem?_set_ne (by omega)]
attribute [local irreducible] ar ac aN aF av aA an az aJ aV Go.Abs.Fn aD Go.Abs.Pure ag au Yl
end Go.Proofs.YtjgpfclngkcedaaGreat
namespace Go.Proofs.YtjgpfclngkcedaaGreat
open Go Go.Abs
open Nat (reduceEqDiff reduceAdd reduceLeDiff)
theorem jM {m:Int} {v w v' w':List Int} (hv:v.length=v'.length) (hw:w.length=w'.length) (hvw:v.length=w.length) (b1:∀ z ∈ w,0 ≤ z∧z < m) (b2:∀ z ∈ w',0 ≤ z∧z < m) (h:aO m v w=aO m v' w'):v=v'∧w=w':=by
  have key:∀ p,p < v.length→v.getD p default=v'.getD p default∧w.getD p default=w'.getD p default:=fun p hp=>by
    have e:(aO m v w).getD p default=(aO m v' w').getD p default:=by rw [h]
    rw [fW hp,fW (by omega)] at e
    have a1:=b1 _ (ah (l:=w) (k:=p) (by omega))
    have a2:=b2 _ (ah (l:=w') (k:=p) (by omega))
    have hm:0 < m:=by omega
    have d1:(v.getD p default * m + w.getD p default) / m=v.getD p default:=by
      rw [Int.add_comm,Int.add_mul_ediv_right _ _ (by omega),Int.ediv_eq_zero_of_lt a1.1 a1.2,Int.zero_add]
    have d2:(v'.getD p default * m + w'.getD p default) / m=v'.getD p default:=by
      rw [Int.add_comm,Int.add_mul_ediv_right _ _ (by omega),Int.ediv_eq_zero_of_lt a2.1 a2.2,Int.zero_add]
    have e1:v.getD p default=v'.getD p default:=by rw [← d1,← d2,e]
    rw [e1] at e
    exact ⟨e1,by omega⟩
  exact ⟨iK hv fun i hi=>(key i hi).1,iK hw fun i hi=>(key i (by omega)).2⟩
theorem i4 {m:Int} {n:Nat} {x y:List (List Int)} (hx:x.Nodup) (hy:y.Nodup) (hxs:∀ v ∈ x,v.length=n) (hys:∀ w ∈ y,w.length=n∧∀ z ∈ w,0 ≤ z∧z < m):(bC m x y).Nodup:=by
  unfold bC
  rw [List.nodup_iff_pairwise_ne,List.pairwise_flatMap]
  constructor
  · intro v hv
    rw [List.pairwise_map]
    refine List.Pairwise.imp_of_mem (fun {a b} ha hb hab e=>hab ?_) (List.nodup_iff_pairwise_ne.1 hy)
    exact (jM rfl (by rw [(hys a ha).1,(hys b hb).1]) (by rw [hxs v hv,(hys a ha).1]) (hys a ha).2 (hys b hb).2 e).2
  · refine List.Pairwise.imp_of_mem (fun {a b} ha hb hab u hu w hw e=>hab ?_) (List.nodup_iff_pairwise_ne.1 hx)
    obtain ⟨p,hp,rfl⟩:=List.mem_map.1 hu
    obtain ⟨q,hq,rfl⟩:=List.mem_map.1 hw
    exact (jM (by rw [hxs a ha,hxs b hb]) (by rw [(hys p hp).1,(hys q hq).1]) (by rw [hxs a ha,(hys p hp).1]) (hys p hp).2 (hys q hq).2 e).1
def eU (H:Hp) (k:Nat):Hp:=fun x=>if x < k then H x else none
theorem gN {H:Hp} {k x:Nat} (h:x < k):eU H k x=H x:=if_pos h
theorem mL {H H':Hp} {k:Nat} (h:∀ x,x < k→H' x=H x):Sub (eU H k) H':=fun b c hb=>by
  unfold eU at hb
  split at hb
  · rw [h b ‹_›]; exact hb
  · cases hb
attribute [local irreducible] ar ac aN aF av aA an az aJ aV Go.Abs.Fn aD Go.Abs.Pure ag au Yl
set_option maxHeartbeats 2000000 in
theorem sf (a b:TaskV) (fa:Fit30 a) (fb:Fit30 b):Pure Tryz.prog 22 [bj a,bj b] (.tup [bj (d7 a b).1,.int .i64 (d7 a b).2]):=by
  refine Pure.of_c2 follows zE (Nat.le_of_ble_eq_true rfl) ?_
  simp only [b22,cO,cG,cN,cM,cD,cF,cB,ap,aH]
  have ha:=fa.sh
  have hb:=fb.sh
  have ha2:=fa.fit.len
  have hb2:=fb.fit.sh2
  have hp:=yq a b ha fa.fit.sh2 hb hb2
  have d1:=bD a
  have d2:=bD b
  by_cases he:eJ a b=0
  rotate_left
  · have e:d7 a b=(T00,eJ a b):=by unfold d7; rw [if_pos he]
    rw [e]
    generalize eJ a b=C at *
    unfold bj at hp d1 d2
    rw [show bj a=.agg [.int .i64 a.n,.int .i64 a.ins,.int .i64 a.outs,aP a.cases] from rfl,show bj b=.agg [.int .i64 b.n,.int .i64 b.ins,.int .i64 b.outs,aP b.cases] from rfl]
    (have zz:=aI @af @ab; repeat' (first | refine zW ?_ | apply a_n | apply a_r | refine zO ?_ | refine vZ ?_ | refine cZ ?_ (hp:=hp) | refine alZ ?_ | refine bxZ ?_ | refine stZ ?_ | (refine zGZ ?_ ?_ <;> (intro _hg; try (exfalso; omega))) | refine ae rfl ?_ | refine r2Z ?_ | fail)) <;> (try clear zz)
    exact gM _
  rw [he] at hp
  have e:d7 a b=if 8 < a.outs * b.outs then (T00,5) else if (bJ (bg b.outs) b a.cases).length=0 then (T00,16) else (⟨a.n,min a.ins b.ins,a.outs * b.outs,bJ (bg b.outs) b a.cases⟩,0):=by unfold d7; rw [if_neg (fun h=>h he)]
  rw [e]
  obtain ⟨ca,cb,hnn⟩:=nq he
  have pa:=(dQ ca).1
  have pb:=(dQ cb).1
  have nn:=lr ca
  have hab:=pk (x:=a.outs) (y:=b.outs) (by omega) (by omega)
  have hidx:=fun v hv=>wa b v hb hb2 hv
  have hb2':b.cases.length ≤ 17592186044416:=hb2
  unfold bj at hp d1 d2 hidx
  rw [show bj a=.agg [.int .i64 a.n,.int .i64 a.ins,.int .i64 a.outs,aP a.cases] from rfl,show bj b=.agg [.int .i64 b.n,.int .i64 b.ins,.int .i64 b.outs,aP b.cases] from rfl]
  refine bQ ?_
  (have zz:=aI @af @ab; repeat' (first | apply a_n | refine zO ?_ | refine vZ ?_ | refine alZ ?_ | refine bxZ ?_ | fail)) <;> (try clear zz)
  refine aX (fun T H nx=>T 2=.ptr 0 4 0∧T 3=.ptr 1 4 0∧T 4=.ptr 2 4 0∧H 0=some [.int .i64 a.n,.int .i64 a.ins,.int .i64 a.outs,aP a.cases]∧H 1=some [.int .i64 b.n,.int .i64 b.ins,.int .i64 b.outs,aP b.cases]∧H 2=some [.int .i64 0,.int .i64 0,.int .i64 0,.esl]∧nx=3) ?_ ?_
  · (have zz:=aI @af @ab; repeat' (first | refine zW ?_ | apply a_n | refine zO ?_ | refine vZ ?_ | refine cZ ?_ (hp:=hp) | (refine zGZ ?_ ?_ <;> (intro _hg; try (exfalso; omega))) | fail)) <;> (try clear zz)
    exact ⟨rfl,rfl,rfl,rfl,rfl,rfl,rfl⟩
  rintro T H _ ⟨t2,t3,t4,g0,g1,g2,rfl⟩
  by_cases h8:8 < a.outs * b.outs
  · have z:decide (8 < a.outs * b.outs)=true:=decide_eq_true h8
    rw [if_pos h8]
    (have zz:=aI @t2 (aI @t3 (aI @t4 (aI @g0 (aI @g1 (aI @g2 @z))))); repeat' (first | refine zW ?_ | apply a_n | apply a_r | refine zO ?_ | refine vY ?_ | refine stY ?_ | refine cTY ?_ | refine ae rfl ?_ | refine r2Y ?_ | fail)) <;> (try clear zz)
    exact gM _
  have z:decide (8 < a.outs * b.outs)=false:=decide_eq_false h8
  rw [if_neg h8]
  refine aX (fun T H nx=>T 2=.ptr 0 4 0∧T 3=.ptr 1 4 0∧T 4=.ptr 2 4 0∧H 0=some [.int .i64 a.n,.int .i64 a.ins,.int .i64 a.outs,aP a.cases]∧H 1=some [.int .i64 b.n,.int .i64 b.ins,.int .i64 b.outs,aP b.cases]∧H 2=some [.int .i64 0,.int .i64 0,.int .i64 0,.esl]∧nx=3) ?_ ?_
  · (have zz:=aI @t2 (aI @t3 (aI @t4 (aI @g0 (aI @g1 (aI @g2 @z))))); repeat' (first | refine zW ?_ | apply a_n | refine zO ?_ | refine vY ?_ | refine cFY ?_ | fail)) <;> (try clear zz)
    exact ⟨(have zz:=@t2; evZ),(have zz:=@t3; evZ),(have zz:=@t4; evZ),g0,g1,g2,rfl⟩
  clear t2 t3 t4 g0 g1 g2
  rintro T H _ ⟨t2,t3,t4,g0,g1,g2,rfl⟩
  refine aX (fun T H nx=>T 2=.ptr 0 4 0∧T 3=.ptr 1 4 0∧T 4=.ptr 2 4 0∧T 7=.ptr 3 4 0∧H 0=some [.int .i64 a.n,.int .i64 a.ins,.int .i64 a.outs,aP a.cases]∧H 1=some [.int .i64 b.n,.int .i64 b.ins,.int .i64 b.outs,aP b.cases]∧H 2=some [.int .i64 0,.int .i64 0,.int .i64 0,.esl]∧H 3=some [.int .i64 a.n,.int .i64 (min a.ins b.ins),.int .i64 (a.outs * b.outs),.esl]∧nx=4) ?_ ?_
  · (have zz:=aI @t2 (aI @t3 (aI @t4 (aI @g0 (aI @g1 (aI @g2 @mn2))))); repeat' (first | apply a_n | refine zO ?_ | refine vZ ?_ | refine alZ ?_ | refine stZ ?_ | fail)) <;> (try clear zz)
    exact ⟨(have zz:=@t2; evZ),(have zz:=@t3; evZ),(have zz:=@t4; evZ),ev0,(have zz:=@g0; evZ),(have zz:=@g1; evZ),(have zz:=@g2; evZ),ev0,rfl⟩
  clear t2 t3 t4 g0 g1 g2
  rintro T H _ ⟨t2,t3,t4,t7,g0,g1,g2,g3,rfl⟩
  refine aX (fun T H nx=>T 4=.ptr 2 4 0∧T 7=.ptr 3 4 0∧4 ≤ nx∧H 2=some [.int .i64 0,.int .i64 0,.int .i64 0,.esl]∧∃ sv,H 3=some [.int .i64 a.n,.int .i64 (min a.ins b.ins),.int .i64 (a.outs * b.outs),sv]∧Row H 3 sv ((bJ (bg b.outs) b a.cases).c3 cP)∧∀ y,im sv=some y→4 ≤ y) ?_ ?_
  rotate_left
  · clear t2 t3 t4 t7 g0 g1 g2 g3
    rintro T H nx ⟨t4,t7,hnx,g2,sv,g3,hrow,hbd⟩
    have hcl:(bJ (bg b.outs) b a.cases).length ≤ a.cases.length:=ff
    have hbig:tG (bJ (bg b.outs) b a.cases)=false:=by
      unfold tG
      rw [List.any_eq_false]
      intro u hu
      obtain ⟨c,hc,d,hd,rfl⟩:=ji hu
      have h1:=fa.q c hc
      have h2:=fb.q d (ey hd).1
      have h3:=ci (m:=b.outs) h1.1 h2.1
      rw [decide_eq_true_iff]
      show ¬ 1024 < (bg b.outs c.out d.out).length
      omega
    have hqq:∀ u ∈ bJ (bg b.outs) b a.cases,u.out.length ≤ 1000000:=fun u hu=>by
      obtain ⟨c,hc,d,hd,rfl⟩:=ji hu
      have h1:=fa.q c hc
      have h2:=fb.q d (ey hd).1
      have h3:=ci (m:=b.outs) h1.1 h2.1
      show (bg b.outs c.out d.out).length ≤ _
      omega
    have hal:=fa.len
    have hsz:=wP ⟨a.n,min a.ins b.ins,a.outs * b.outs,bJ (bg b.outs) b a.cases⟩ (by dsimp only; omega) hqq
    rw [if_neg (show ¬ (1024 < (bJ (bg b.outs) b a.cases).length ∨ tG (bJ (bg b.outs) b a.cases)=true) by rw [hbig]; rintro (h | h); omega; cases h)] at hsz
    have dJ:=bD ⟨a.n,min a.ins b.ins,a.outs * b.outs,bJ (bg b.outs) b a.cases⟩
    unfold bj at hsz dJ
    dsimp only at hsz dJ
    generalize bJ (bg b.outs) b a.cases=L at *
    have hlS:bT sv=some (.int .i64 L.length):=hrow.lenS (by rw [jv (fun _=>rfl)]) (by omega)
    obtain ⟨q1,q2⟩:=hrow.one
    by_cases hL:L.length=0
    · have zl:decide ((L.length:Int)=0)=true:=decide_eq_true (by omega)
      rw [if_pos hL]
      (have zz:=aI @t4 (aI @t7 (aI @g2 (aI @g3 (aI @hlS @zl)))); repeat' (first | refine zW ?_ | apply a_n | apply a_r | refine zO ?_ | refine vY ?_ | refine stY ?_ | refine cTY ?_ | refine ae rfl ?_ | refine r2Y ?_ | fail)) <;> (try clear zz)
      all_goals exact gM _
    · have zl:decide ((L.length:Int)=0)=false:=decide_eq_false (by omega)
      rw [if_neg hL]
      refine aX (fun T' H' nx'=>T' 4=.ptr 2 4 0∧T' 7=.ptr 3 4 0∧H=H'∧nx=nx') ?_ ?_
      · (have zz:=aI @t4 (aI @t7 (aI @g2 (aI @g3 (aI @hlS @zl)))); repeat' (first | refine zW ?_ | apply a_n | refine zO ?_ | refine vY ?_ | refine cFY ?_ | fail)) <;> (try clear zz)
        all_goals exact ⟨(have zz:=@t4; evZ),(have zz:=@t7; evZ),rfl,rfl⟩
      clear t4 t7
      rintro T _ _ ⟨t4,t7,rfl,rfl⟩
      obtain ⟨B,rfl,hB⟩:=uA hrow (by omega)
      have hB4:=hbd B rfl
      refine bQ ?_
      refine bQ ?_
      refine kp (only B (L.c3 cP)) (al (bB H B) 3 [.int .i64 a.n,.int .i64 (min a.ins b.ins),.int .i64 (a.outs * b.outs),aP L]) [(4,.ptr 2 4 0),(7,.ptr 3 4 0)] (wJ g3 hB (by omega) (pQ ko rfl)) ⟨.inl t4,.inl t7,trivial⟩ ?_
      have e2:al (bB H B) 3 [.int .i64 a.n,.int .i64 (min a.ins b.ins),.int .i64 (a.outs * b.outs),aP L] 2=some [.int .i64 0,.int .i64 0,.int .i64 0,.esl]:=by rw [ak (by omega),iX (by omega),g2]
      have e3:al (bB H B) 3 [.int .i64 a.n,.int .i64 (min a.ins b.ins),.int .i64 (a.outs * b.outs),aP L] 3=some [.int .i64 a.n,.int .i64 (min a.ins b.ins),.int .i64 (a.outs * b.outs),aP L]:=aw
      generalize al (bB H B) 3 [.int .i64 a.n,.int .i64 (min a.ins b.ins),.int .i64 (a.outs * b.outs),aP L]=H0 at *
      (have zz:=aI @e2 (aI @e3 (aI @af @ab)); repeat' (first | refine zW ?_ | apply a_n | refine zO ?_ | refine vY ?_ | refine cY ?_ (hp:=hsz) | refine stY ?_ | (refine zGY ?_ ?_ <;> (intro _hg; try (exfalso; omega))) | refine ae rfl ?_ | refine r2Y ?_ | fail)) <;> (try clear zz)
      exact sR (de _ _)
  (have zz:=aI @t2 (aI @t3 (aI @t4 @t7)); repeat' (first | refine zW ?_ | apply a_n | refine zO ?_ | refine vY ?_ | fail)) <;> (try clear zz)
  refine bw (X:=AV × Nat) (fun x=>[(2,.ptr 0 4 0),(3,.ptr 1 4 0),(4,.ptr 2 4 0),(7,.ptr 3 4 0),(8,.int .i64 x.2)]) (fun x H nx=>x.2 ≤ a.cases.length∧4 ≤ nx∧H 0=some [.int .i64 a.n,.int .i64 a.ins,.int .i64 a.outs,aP a.cases]∧H 1=some [.int .i64 b.n,.int .i64 b.ins,.int .i64 b.outs,aP b.cases]∧H 2=some [.int .i64 0,.int .i64 0,.int .i64 0,.esl]∧H 3=some [.int .i64 a.n,.int .i64 (min a.ins b.ins),.int .i64 (a.outs * b.outs),x.1]∧Row H 3 x.1 ((bJ (bg b.outs) b (a.cases.take x.2)).c3 cP)∧∀ y,im x.1=some y→4 ≤ y∧y < nx) (fun x=>a.cases.length - x.2) (.esl,0) ⟨Nat.zero_le _,Nat.le_refl _,g0,g1,g2,g3,Row.nil,fun b hb=>(by cases hb)⟩ (have zz:=aI @t2 (aI @t3 (aI @t4 @t7)); agZ) ?_
  clear t2 t3 t4 t7 g0 g1 g2 g3
  rintro ⟨sv,k⟩ H nx ⟨hk,hnx,g0,g1,g2,g3,hrow,hbd⟩
  dsimp only at hk g3 hrow hbd ⊢
  by_cases hk2:k < a.cases.length
  rotate_left
  · rw [List.take_of_length_le (by omega)] at hrow
    (have zz:=aI @g0 (aI @g1 (aI @g2 (aI @g3 @ai))); repeat' (first | refine zW ?_ | apply a_n | apply a_x | refine zO ?_ | refine vY ?_ | (refine zGY ?_ ?_ <;> (intro _hg; try (exfalso; omega))) | fail)) <;> (try clear zz)
    exact ⟨rfl,rfl,hnx,g2,sv,g3,hrow,fun y hy=>(hbd y hy).1⟩
  have ix:=a8 hk2
  have hm:=ah hk2
  have hcomb:=gm (F:=bg b.outs) (b:=b) hk2
  have hsc:=ha _ hm
  have hqc:=fa.q _ hm
  have hfi:=hidx _ hsc.1
  have hvc:=eZ ca hm
  have hac:=lS ca hm
  have hln:(bJ (bg b.outs) b (a.cases.take k)).length ≤ a.cases.length:=Nat.le_trans ff (by rw [List.length_take]; omega)
  have hlen3:((bJ (bg b.outs) b (a.cases.take k)).c3 cP).length=(bJ (bg b.outs) b (a.cases.take k)).length * 3:=jv (fun _=>rfl) _
  generalize a.cases.getD k default=c at *
  obtain ⟨q1,q2⟩:=hrow.one
  by_cases hmem:c.inp ∈ b.cases.map CaseV.inp
  rotate_left
  · rw [if_neg hmem] at hfi
    have hf:dS b c.inp=none:=by unfold dS; rw [if_neg hmem]
    obtain ⟨n1,n2,n3⟩:=l7 (F:=bg b.outs) hf
    rw [n1] at hcomb
    (have zz:=aI @g0 (aI @g1 (aI @g2 (aI @g3 (aI @af (aI @ab (aI @ai @ix)))))); repeat' (first | refine zW ?_ | apply a_n | apply a_x | refine zO ?_ | refine vY ?_ | refine cY ?_ (hp:=hfi) | refine alY ?_ | refine stY ?_ | (refine zGY ?_ ?_ <;> (intro _hg; try (exfalso; omega))) | fail)) <;> (try clear zz)
    refine ⟨(sv,k + 1),by dsimp only; omega,⟨by dsimp only; omega,by omega,?_,?_,?_,?_,?_,fun y hy=>?_⟩,ag0⟩
    · rw [ak (by omega),ak (by omega),g0]
    · rw [ak (by omega),ak (by omega),g1]
    · rw [ak (by omega),ak (by omega),g2]
    · rw [ak (by omega),ak (by omega),g3]
    · dsimp only
      rw [hcomb]
      simp only [Option.toList,List.append_nil]
      exact hrow.same fun y hy=>by have:=hbd y hy; rw [ak (by omega),ak (by omega)]
    · have:=hbd y hy; omega
  rw [if_pos hmem] at hfi
  have hf:dS b c.inp=some (b.cases.getD (iS b c.inp) default):=by unfold dS; rw [if_pos hmem]
  have hq:=nb hmem
  have iq:=a8 hq
  have hsd:=hb _ (ah hq)
  have hqd:=fb.q _ (ah hq)
  have hvd:=eZ cb (ah hq)
  have had:=lS cb (ah hq)
  obtain ⟨n1,n2,n3⟩:=l6 (F:=bg b.outs) hf
  generalize b.cases.getD (iS b c.inp) default=d at *
  generalize iS b c.inp=q at *
  have h4:=eO (f:=0) hqc
  have h5:=eO (f:=0) hqd
  obtain ⟨v1,v2⟩:=hvc
  obtain ⟨w1,w2⟩:=hvd
  have f1:=r9 b.outs a.n.toNat c.out d.out (by omega) (by omega) (by omega) (by omega) (by omega) (by omega) (fun v hv=>⟨by have:=(v1 v hv).1; omega,fun z hz=>by have:=(v1 v hv).2 z hz; omega⟩) (fun v hv=>⟨by have:=(w1 v hv).1; omega,fun z hz=>by have:=(w1 v hv).2 z hz; omega⟩)
  have f2:=r9 b.outs a.n.toNat (aL c 0) (aL d 0) (by omega) (by omega) (by omega) (by omega) (by omega) (by omega) (fun v hv=>⟨by have:=(v2 0 v hv).1; omega,fun z hz=>by have:=(v2 0 v hv).2 z hz; omega⟩) (fun v hv=>⟨by have:=(w2 0 v hv).1; omega,fun z hz=>by have:=(w2 0 v hv).2 z hz; omega⟩)
  rw [oJ (i4 (n:=a.n.toNat) hac.1.nodup had.1.nodup (fun v hv=>by have:=(v1 v hv).1; omega) (fun v hv=>⟨by have:=(w1 v hv).1; omega,(w1 v hv).2⟩))] at f1
  rw [oJ (i4 (n:=a.n.toNat) (hac.2.2.1 0).nodup (had.2.2.1 0).nodup (fun v hv=>by have:=(v2 0 v hv).1; omega) (fun v hv=>⟨by have:=(w2 0 v hv).1; omega,(w2 0 v hv).2⟩))] at f2
  have f1':Pure Tryz.prog 70 [aj c.out,aj d.out,.int .i64 b.outs] (aj (bg b.outs c.out d.out)):=f1
  have f2':Pure Tryz.prog 70 [aj (aL c 0),aj (aL d 0),.int .i64 b.outs] (aj (bg b.outs (aL c 0) (aL d 0))):=f2
  clear f1 f2
  have hv1:=lw c 0
  have hv2:=lw d 0
  have dc:=fm c
  have dd:=fm d
  unfold cP at dc dd
  have l1:=ci (m:=b.outs) hqc.1 hqd.1
  have l2:=ci (m:=b.outs) h4 h5
  have hmd:=uJ c.inp (bg b.outs c.out d.out) (bg b.outs (aL c 0) (aL d 0)) (show _ ≤ _ by omega) (show _ ≤ _ by omega) (fq fun v hv=>by have:=(v1 v hv).1; omega) (fq fun v hv=>by have:=(v2 0 v hv).1; omega)
  have hmi:(dZ c.inp (bg b.outs c.out d.out) (bg b.outs (aL c 0) (aL d 0))).inp=c.inp∧(dZ c.inp (bg b.outs c.out d.out) (bg b.outs (aL c 0) (aL d 0))).out=bg b.outs c.out d.out:=⟨rfl,rfl⟩
  rw [n1] at hcomb
  generalize dZ c.inp (bg b.outs c.out d.out) (bg b.outs (aL c 0) (aL d 0))=M at *
  generalize bg b.outs c.out d.out=X at *
  generalize bg b.outs (aL c 0) (aL d 0)=Y at *
  refine bQ ?_
  refine bQ ?_
  (have zz:=aI @g0 @ai; repeat' (first | apply a_n | refine zO ?_ | refine vY ?_ | (refine zGY ?_ ?_ <;> (intro _hg; try (exfalso; omega))) | fail)) <;> (try clear zz)
  refine bQ ?_
  refine dG ?_
  refine bQ ?_
  (have zz:=aI @g0 @ix; repeat' (first | apply a_n | refine zO ?_ | refine vY ?_ | refine alY ?_ | refine stY ?_ | fail)) <;> (try clear zz)
  refine bQ ?_
  (have zz:=aI @g0 (aI @g1 (aI @af (aI @ab @ix))); repeat' (first | apply a_n | refine zO ?_ | refine vY ?_ | refine cY ?_ (hp:=hfi) | fail)) <;> (try clear zz)
  refine bQ ?_
  refine bQ ?_
  (have zz:=and_self; repeat' (first | apply a_n | refine zO ?_ | refine vY ?_ | (refine zGY ?_ ?_ <;> (intro _hg; try (exfalso; omega))) | fail)) <;> (try clear zz)
  refine bQ ?_
  (have zz:=aI @g1 @iq; repeat' (first | apply a_n | refine zO ?_ | refine vY ?_ | refine alY ?_ | refine stY ?_ | fail)) <;> (try clear zz)
  generalize hH2:al (al (al (al H nx _) nx _) (nx + 1) _) (nx + 1) _=H2
  have gs:∀ x,x < nx→H2 x=H x:=fun x hx=>by rw [← hH2,ak (by omega),ak (by omega),ak (by omega),ak (by omega)]
  have gc:H2 nx=some [aK c.inp,aj c.out,aj c.calm]:=by rw [← hH2,ak (by omega),ak (by omega),aw]; rfl
  have gd:H2 (nx + 1)=some [aK d.inp,aj d.out,aj d.calm]:=by rw [← hH2,aw]; rfl
  clear hH2
  refine v7 (eU H2 (nx + 2)) rfl (mL fun _ _=>rfl) ?_
  have s0:eU H2 (nx + 2) 1=some [.int .i64 b.n,.int .i64 b.ins,.int .i64 b.outs,aP b.cases]:=by rw [gN (by omega),gs 1 (by omega),g1]
  have s3:eU H2 (nx + 2) 3=some [.int .i64 a.n,.int .i64 (min a.ins b.ins),.int .i64 (a.outs * b.outs),sv]:=by rw [gN (by omega),gs 3 (by omega),g3]
  have sc:eU H2 (nx + 2) nx=some [aK c.inp,aj c.out,aj c.calm]:=by rw [gN (by omega),gc]
  have sd:eU H2 (nx + 2) (nx + 1)=some [aK d.inp,aj d.out,aj d.calm]:=by rw [gN (by omega),gd]
  have hSub:∀ H',(∀ x,x < nx + 2→H' x=H2 x)→Sub (eU H2 (nx + 2)) H':=fun H' h=>mL h
  generalize eU H2 (nx + 2)=S at *
  (have zz:=aI @s0 (aI @s3 (aI @sc (aI @sd (aI @af @ab)))); repeat' (first | apply a_n | refine zO ?_ | refine nvY ?_ | fail)) <;> (try clear zz)
  refine jn ?_
  refine cK (have zz:=and_self; evY) (have zz:=and_self; evY) f1' (ay (by (repeat' (first | exact am | exact Dat.snap Dat.int | exact Dat.snap Dat.bool | exact Dat.snap Dat.str | exact Dat.snap Dat.esl | exact Dat.snap Dat.nilf | exact Dat.snap (bd _) | exact Dat.snap (aQ _) | apply ao | apply dB | apply dC | (apply dP; (focus ((try simp only [bl,ZA,reduceEqDiff,↓reduceIte,reduceAdd,reduceLeDiff]); with_reducible rfl)); (focus rfl)))))) ?_
  refine ms ⟨hSub _ fun _ _=>rfl,?_⟩
  refine jn ?_
  refine cK (have zz:=and_self; evY) (have zz:=and_self; evY) hv1 (ay (ao (dc _) (ao (.int _ _) am))) ?_
  refine ms ⟨hSub _ fun _ _=>rfl,?_⟩
  refine jn ?_
  refine cK (have zz:=and_self; evY) (have zz:=and_self; evY) hv2 (ay (ao (dd _) (ao (.int _ _) am))) ?_
  refine ms ⟨hSub _ fun _ _=>rfl,?_⟩
  refine jn ?_
  refine cK (have zz:=and_self; evY) (have zz:=and_self; evY) f2' (ay (by (repeat' (first | exact am | exact Dat.snap Dat.int | exact Dat.snap Dat.bool | exact Dat.snap Dat.str | exact Dat.snap Dat.esl | exact Dat.snap Dat.nilf | exact Dat.snap (bd _) | exact Dat.snap (aQ _) | apply ao | apply dB | apply dC | (apply dP; (focus ((try simp only [bl,ZA,reduceEqDiff,↓reduceIte,reduceAdd,reduceLeDiff]); with_reducible rfl)); (focus rfl)))))) ?_
  refine ms ⟨hSub _ fun _ _=>rfl,?_⟩
  refine jn ?_
  refine cK (have zz:=and_self; evY) (have zz:=and_self; evY) hmd (ay (by (repeat' (first | exact am | exact Dat.snap Dat.int | exact Dat.snap Dat.bool | exact Dat.snap Dat.str | exact Dat.snap Dat.esl | exact Dat.snap Dat.nilf | exact Dat.snap (bd _) | exact Dat.snap (aQ _) | apply ao | apply dB | apply dC | (apply dP; (focus ((try simp only [bl,ZA,reduceEqDiff,↓reduceIte,reduceAdd,reduceLeDiff]); with_reducible rfl)); (focus rfl)))))) ?_
  refine ms ⟨hSub _ fun _ _=>rfl,?_⟩
  refine jn ?_
  (have zz:=and_self; repeat' (first | apply a_n | refine zO ?_ | refine blY ?_ | fail)) <;> (try clear zz)
  refine ⟨hSub _ fun x hx=>by rw [ak (by omega)],?_⟩
  (have zz:=aI @s0 (aI @s3 (aI @sc @sd)); repeat' (first | apply a_n | refine zO ?_ | apply sM | fail)) <;> (try clear zz)
  refine l9 rfl ev0 (hrow.same fun y hy=>?_) ev0 kB rfl rfl (by omega) (by rw [hlen3]; omega) (by rw [hlen3]; omega) ?_
  · have:=hbd y hy
    rw [ak (by omega),gs y (by omega)]
  rintro s2 E e hrw hle1 hle2 hsm hb2
  have hfr:∀ x,x < 4→E x=H x:=fun x hx=>(hsm x (by omega) (fun h=>by have:=hbd _ h; omega)).trans (by rw [ak (by omega),gs x (by omega)])
  have g3'':=(hfr 3 (by omega)).trans g3
  obtain ⟨p1,p2⟩:=hrw.one
  have ub:∀ y,im s2=some y→4 ≤ y∧y < e:=fun y hy=>by
    rcases hb2 y hy with h | h
    · have:=hbd y h; omega
    · omega
  (have zz:=aI @s0 (aI @s3 (aI @sc (aI @sd (aI @g3'' (aI @p1 @p2))))); repeat' (first | apply a_n | refine zO ?_ | refine vY ?_ | refine nvY ?_ | apply sM | refine stY ?_ | fail)) <;> (try clear zz)
  refine ⟨(s2,k + 1),by dsimp only; omega,⟨by dsimp only; omega,by omega,?_,?_,?_,?_,?_,ub⟩,ag0⟩
  · rw [ak (by omega),hfr 0 (by omega),g0]
  · rw [ak (by omega),hfr 1 (by omega),g1]
  · rw [ak (by omega),hfr 2 (by omega),g2]
  · rw [aw]; rfl
  · dsimp only
    rw [hcomb,sj]
    obtain ⟨i,o,cq⟩:=M
    obtain ⟨rfl,rfl⟩:=hmi
    refine Row.same (H:=E) (by simpa [List.c3,cP,AV.cells] using hrw) fun y hy=>?_
    have:=ub y hy
    rw [ak (by omega)]
end Go.Proofs.YtjgpfclngkcedaaGreat
namespace Go.Proofs.YtjgpfclngkcedaaGreat
open Go Go.Abs
open Nat (reduceEqDiff reduceAdd reduceLeDiff)
attribute [local irreducible] ar ac aN aF av aA an az aJ aV Go.Abs.Fn aD Go.Abs.Pure ag au Yl
end Go.Proofs.YtjgpfclngkcedaaGreat
namespace Go.Proofs.YtjgpfclngkcedaaGreat
open Go Go.Abs
open Nat (reduceEqDiff reduceAdd reduceLeDiff)
attribute [local irreducible] ar ac aN aF av aA an az aJ aV Go.Abs.Fn aD Go.Abs.Pure ag au Yl
end Go.Proofs.YtjgpfclngkcedaaGreat
namespace Go.Proofs.YtjgpfclngkcedaaGreat
open Go Go.Abs
open Nat (reduceEqDiff reduceAdd reduceLeDiff)
attribute [local irreducible] ar ac aN aF av aA an az aJ aV Go.Abs.Fn aD Go.Abs.Pure ag au Yl
end Go.Proofs.YtjgpfclngkcedaaGreat
namespace Go.Proofs.YtjgpfclngkcedaaGreat
open Go Go.Abs
open Nat (reduceEqDiff reduceAdd reduceLeDiff)
attribute [local irreducible] ar ac aN aF av aA an az aJ aV Go.Abs.Fn aD Go.Abs.Pure ag au Yl
end Go.Proofs.YtjgpfclngkcedaaGreat
namespace Go.Proofs.YtjgpfclngkcedaaGreat
open Go Go.Abs
open Nat (reduceEqDiff reduceAdd reduceLeDiff)
section
attribute [local irreducible] ar ac aN aF av aA an az aJ aV Go.Abs.Fn aD Go.Abs.Pure ag au Yl
theorem qg (H:Hp) (nx:Nat):Abs.Fn Tryz.prog 42 [.esl] H nx fun r H' nx'=>(r=.esl ∨ r=.msl nx 0 1 0 0)∧(H'=H∧nx'=nx ∨ H'=al H nx []∧nx'=nx + 1):=by
  refine Abs.Fn.of_c2 follows uS (Nat.le_of_ble_eq_true rfl) ?_
  simp only [b42,cO,cG,cN,cM,cD,cF,cB,ap,aH]
  (have zz:=and_self; repeat' (first | refine zW ?_ | apply a_n | refine zO ?_ | refine vZ ?_ | fail)) <;> (try clear zz)
  refine lP (k:=0) (by ((try simp only [bl,ZA,reduceEqDiff,↓reduceIte,reduceAdd,reduceLeDiff]); (try with_reducible rfl)); rfl) (fun h=>by omega) (fun h=>?_) (fun h=>?_)
  ((all_goals (try have zz:=and_self)); (repeat' (first | refine zW ?_ | apply a_n | apply a_r | refine zO ?_ | refine vZ ?_ | refine b0Z ?_ | refine a0Z ?_ | refine cTZ ?_ | refine cFZ ?_ | refine ae rfl ?_ | refine r1Z ?_ | fail)); (all_goals (try clear zz)))
  all_goals first | exact ⟨.inl rfl,.inl ⟨rfl,rfl⟩⟩ | exact ⟨.inr rfl,.inr ⟨rfl,rfl⟩⟩
theorem pO (H:Hp) (nx:Nat):Abs.Fn Tryz.prog 106 [.esl] H nx fun r H' nx'=>(r=.esl ∨ r=.msl nx 0 1 0 0)∧(H'=H∧nx'=nx ∨ H'=al H nx []∧nx'=nx + 1):=by
  refine Abs.Fn.of_c2 follows sT (Nat.le_of_ble_eq_true rfl) ?_
  simp only [uo,cO,cG,cN,cM,cD,cF,cB,ap,aH]
  (have zz:=and_self; repeat' (first | refine zW ?_ | apply a_n | refine zO ?_ | refine vZ ?_ | fail)) <;> (try clear zz)
  refine lP (k:=0) (by ((try simp only [bl,ZA,reduceEqDiff,↓reduceIte,reduceAdd,reduceLeDiff]); (try with_reducible rfl)); rfl) (fun h=>by omega) (fun h=>?_) (fun h=>?_)
  ((all_goals (try have zz:=and_self)); (repeat' (first | refine zW ?_ | apply a_n | apply a_r | refine zO ?_ | refine vZ ?_ | refine b0Z ?_ | refine a0Z ?_ | refine cTZ ?_ | refine cFZ ?_ | refine ae rfl ?_ | refine r1Z ?_ | fail)); (all_goals (try clear zz)))
  all_goals first | exact ⟨.inl rfl,.inl ⟨rfl,rfl⟩⟩ | exact ⟨.inr rfl,.inr ⟨rfl,rfl⟩⟩
end
def ctC:FuncId→List AV→Nat→Option AV:=fun g args nx=>match Nat.beq g 42 || Nat.beq g 106,args with
  | true,[.esl]=>some (.msl nx 0 1 0 0)
  | _,_=>none
theorem vw {g:Nat} {args:List AV} {H:Hp} {nx:Nat} {R:AV→Hp→Nat→Prop} (h:Abs.Fn Tryz.prog g args H nx fun r' H' nx'=>(r'=.esl ∨ r'=.msl nx 0 1 0 0)∧(H'=H∧nx'=nx ∨ H'=al H nx []∧nx'=nx + 1)) (hR:R (.msl nx 0 1 0 0) (al H nx []) (nx + 1)):Abs.Fn Tryz.prog g args H nx R :=
  ⟨h.1,fun E w vs h1 h2 h3 h4=>(h.2 E w vs h1 h2 h3 h4).mono fun e w' ⟨v,E',r',H',nx',k1,k2,k3,k4,k5,k6,a,b⟩=>by
    have hr:Rel E' w' (.msl nx 0 1 0 0) v:=by
      rcases a with rfl | rfl
      · cases k6 with
        | eslnil=>exact .msl0 _ _ _ (.inl rfl)
        | esl a=>exact .msl0 _ _ _ (.inr ⟨a,rfl⟩)
      · exact k6
    rcases b with ⟨rfl,rfl⟩ | ⟨rfl,rfl⟩
    · exact ⟨v,E',_,_,_,k1,k2,k3,k4.virtual (k5 _ (Nat.le_refl _)),fun b hb=>k5 b (by omega),hr,hR⟩
    · exact ⟨v,E',_,_,_,k1,k2,k3,k4,k5,hr,hR⟩⟩
def ctE (q:FuncId→List AV→Option AV):CT:=⟨ctC,q⟩
theorem wF (g:FuncId) (args:List AV) (nx:Nat) (r:AV) (h:ctC g args nx=some r) (H:Hp) (R:AV→Hp→Nat→Prop) (hR:R r (al H nx []) (nx + 1)):Abs.Fn Tryz.prog g args H nx R:=by
  unfold ctC at h
  split at h
  · rename_i hg
    cases h
    rcases Bool.or_eq_true _ _ |>.mp hg with hg | hg
    · cases Nat.eq_of_beq_eq_true hg
      exact vw (qg H nx) hR
    · cases Nat.eq_of_beq_eq_true hg
      exact vw (pO H nx) hR
  · cases h
theorem gj {q:FuncId→List AV→Option AV} (hq:∀ (g:FuncId) (args:List AV) (r:AV),q g args=some r→Go.Abs.Pure Tryz.prog g args r):CTok Tryz.prog (ctE q):=⟨wF,hq⟩
def xR:List (Nat × F2):=[(12,b12),(13,b13),(15,b15),(16,b16),(18,b18),(20,b20),(21,b21),(23,b23),(25,b25),(27,b27),(33,b33),(39,b39),(40,b40),(41,b41),(42,b42),(43,b43),(44,b44),(47,b47),(48,b48),(49,b49),(50,b50),(51,b51),(56,b56),(57,b57),(58,b58),(59,b59),(60,b60),(61,b61),(62,b62),(63,b63),(64,b64),(68,b68),(69,b69),(71,b71),(72,b72),(73,b73),(74,b74),(75,b75),(77,b77),(78,b78),(79,b79),(83,b83),(86,b86),(87,b87),(88,b88),(96,b96),(100,xb),(101,w5),(102,x1),(104,yz),(106,uo),(107,uQ),(108,uM),(109,yR),(110,wZ),(111,yo),(112,ue),(113,vV),(115,wR),(116,wT),(117,vW),(118,yW),(119,xZ),(120,xp),(121,yb),(126,yF),(127,wz),(130,tW),(131,yp),(132,yn),(133,xT),(134,yu),(135,yH),(136,xi),(137,yO),(138,yD),(139,yS),(140,uL),(141,v9),(142,wU),(143,wN),(144,ws),(145,xn),(149,uy),(150,wi),(151,wH),(152,wE),(153,wC),(154,wY),(155,v8),(156,wG),(157,yP),(158,vT),(159,wj),(160,xF),(161,xG),(162,wO),(163,xf),(165,vR),(166,wd),(167,wq),(168,xy),(169,v6)]
theorem jN:gZ Tryz.prog (lookup xR) :=
  (aa zd (aa zt (aa yc (aa zi (aa zG (aa x2 (aa x6 (aa zc (aa zP (aa wL (aa zH (aa y4 (aa yT (aa xh (aa uS (aa zg (aa zw (aa yw (aa y1 (aa zI (aa zu (aa zb (aa zQ (aa xk (aa y6 (aa zk (aa yh (aa xt (aa zA (aa zn (aa ym (aa xX (aa yM (aa x9 (aa yy (aa zN (aa zo (aa xQ (aa y8 (aa y3 (aa zF (aa zy (aa zJ (aa ze (aa zx (aa xq (aa uX (aa vG (aa yg (aa yC (aa sT (aa tc (aa tK (aa xC (aa u4 (aa yI (aa sO (aa u5 (aa vI (aa uU (aa uW (aa yY (aa x5 (aa yv (aa x8 (aa xz (aa u6 (aa rZ (aa yt (aa xB (aa xg (aa yQ (aa yi (aa ye (aa yJ (aa xx (aa yK (aa sN (aa vP (aa vn (aa u3 (aa vK (aa xY (aa sq (aa vq (aa vF (aa vE (aa vN (aa u7 (aa uZ (aa uY (aa xO (aa vj (aa vJ (aa yN (aa ya (aa vv (aa xE (aa vC (aa vu (aa u2 (aa x7 (aa va ra)))))))))))))))))))))))))))))))))))))))))))))))))))))))))))))))))))))))))))))))))))))))))))))))))))))))
def eI (n:Int):AV:=.int .i64 n
def eV (a b:Int):AV:=.sl 1 [eI a,eI b]
def eC (a b:Int) (o:List AV):AV:=.agg [eV a b,.sl 1 o,.esl]
def eT (o:Int) (l:List AV):AV:=.agg [eI 2,eI 2,eI o,.sl 3 l]
def e4:List AV:=[eV 0 0,eV 0 1,eV 1 0,eV 1 1]
def e2:List AV:=[eV 0 0,eV 1 1]
def eP:List AV:=[eV 0 0,eV 1 1,eV 2 2,eV 3 3]
def tA:AV:=eT 2 [eC 0 0 [eV 0 0],eC 0 1 e2,eC 1 0 e2,eC 1 1 [eV 1 1]]
def tB:AV:=eT 2 [eC 0 0 e4,eC 0 1 e4,eC 1 0 e4,eC 1 1 e4]
def tP:AV:=eT 4 [eC 0 0 [eV 0 0],eC 0 1 eP,eC 1 0 eP,eC 1 1 [eV 3 3]]
def pfE:FuncId→Bool:=vH [39,13,16,18,21,25,23,33,87,77]
theorem isV {v:AV} (r:AV) (h:eqA 60 r v=true):r=v:=p8 _ _ _ h
set_option maxRecDepth 100000 in
theorem q1:Go.Abs.Pure Tryz.prog 39 [] (.tup [tA,tB]):=Pure.of_runC follows jN (gj eF) (pf:=pfE) (n:=2000) (by decide +kernel) isV
set_option maxRecDepth 100000 in
theorem q2:Go.Abs.Pure Tryz.prog 13 [tA,tB] (.tup [.esl,eI 0,.esl,.bool true,eI 0]):=Pure.of_runC follows jN (gj eF) (pf:=pfE) (n:=2000) (by decide +kernel) isV
set_option maxRecDepth 100000 in
theorem q3:Go.Abs.Pure Tryz.prog 13 [tB,tA] (.tup [eV 0 0,eI 0,eV 0 1,.bool false,eI 0]):=Pure.of_runC follows jN (gj eF) (pf:=pfE) (n:=2000) (by decide +kernel) isV
set_option maxRecDepth 100000 in
theorem q4:Go.Abs.Pure Tryz.prog 16 [tA,tB] (.tup [tA,eI 0]):=Pure.of_runC follows jN (gj eF) (pf:=pfE) (n:=2000) (by decide +kernel) isV
set_option maxRecDepth 100000 in
theorem q5:Go.Abs.Pure Tryz.prog 18 [tA,tB] (.tup [tB,eI 0]):=Pure.of_runC follows jN (gj eF) (pf:=pfE) (n:=2000) (by decide +kernel) isV
set_option maxRecDepth 100000 in
theorem q6:Go.Abs.Pure Tryz.prog 21 [tA,tA] (.tup [tP,eI 0]):=Pure.of_runC follows jN (gj eF) (pf:=pfE) (n:=2000) (by decide +kernel) isV
set_option maxRecDepth 100000 in
theorem q7:Go.Abs.Pure Tryz.prog 25 [tA] (.tup [.sl 1 [eV 0 1,eV 1 0],eI 0]):=Pure.of_runC follows jN (gj eF) (pf:=pfE) (n:=2000) (by decide +kernel) isV
set_option maxRecDepth 100000 in
theorem uh:Go.Abs.Pure Tryz.prog 12 [] (.bool true):=Pure.of_runC follows jN (gj (eh q1 (eh q2 (eh q3 (eh q4 (eh q5 (eh q6 (eh q7 eF)))))))) (pf:=pfE) (n:=2000) (good:=isTrue) (by decide +kernel) rj
end Go.Proofs.YtjgpfclngkcedaaGreat
namespace Go.Proofs.YtjgpfclngkcedaaGreat
open Go Go.Abs
open Nat (reduceEqDiff reduceAdd reduceLeDiff)
attribute [local irreducible] ar ac aN aF av aA an az aJ aV Go.Abs.Fn aD Go.Abs.Pure ag au Yl
end Go.Proofs.YtjgpfclngkcedaaGreat
namespace Go.Proofs.YtjgpfclngkcedaaGreat
open Go Go.Abs
def iV (l:List TaskV):AV:=.sl 4 (l.map bj)
theorem ol {l:List TaskV}:bT (iV l)=some (.int .i64 l.length):=by simp [bT,iV]
theorem qh {l:List TaskV} {k:Nat} (h:k < l.length):fU 4 (iV l) (.int .i64 k)=some (.iptr [.int .i64 (l.getD k default).n,.int .i64 (l.getD k default).ins,.int .i64 (l.getD k default).outs,aP (l.getD k default).cases] 0):=by
  simp [fU,iV,h,List.getD,bj,AV.cells]
theorem qp {H:Hp} {b:Nat} {a c:TaskV} (hb:H b=some [.int .i64 a.n,.int .i64 a.ins,.int .i64 a.outs,aP a.cases,.int .i64 c.n,.int .i64 c.ins,.int .i64 c.outs,aP c.cases]):Snap H (.msl b 8 4 0 2) (iV [a,c]):=by
  have hr:Row H 4 (.msl b (2 * 4) 4 0 2) ([bj a,bj c].flatMap AV.cells):=Row.box b 2 _ (by simpa [bj,AV.cells] using hb) rfl
  refine Row.snap (elems:=[bj a,bj c]) hr (fun y hy=>?_) (by omega) (fun y hy d hd=>?_)
  · simp at hy; rcases hy with rfl | rfl <;> rfl
  · simp only [List.mem_cons,List.not_mem_nil,or_false] at hy
    rcases hy with rfl | rfl <;>
    · simp only [bj,AV.cells,List.mem_cons,List.not_mem_nil,or_false] at hd
      rcases hd with rfl | rfl | rfl | rfl
      · exact .int
      · exact .int
      · exact .int
      · exact de _
def Ok (t:TaskV):Prop:=Sh t.cases∧∀ c ∈ t.cases,ShC c
attribute [local irreducible] ar ac aN aF av aA an az aJ aV Go.Abs.Fn aD Go.Abs.Pure ag au Yl
theorem uE (l:List TaskV) (hl:l.length ≤ 100) (hs:∀ t ∈ l,Ok t):Pure Tryz.prog 11 [iV l] (.bool (l.all gS)):=by
  refine Pure.of_c2 follows zL (Nat.le_of_ble_eq_true rfl) ?_
  simp only [b11,cO,cG,cN,cM,cD,cF,cB,ap,aH]
  have one:(iV l).one=true:=rfl
  (have zz:=@ol; repeat' (first | refine zW ?_ | apply a_n | refine zO ?_ | refine vY ?_ | fail)) <;> (try clear zz)
  refine bw (X:=Nat) (fun k=>[(0,iV l),(5,iV l),(6,.int .i64 l.length),(7,.int .i64 k)]) (fun k H nx=>k ≤ l.length∧∀ i,i < k→gS (l.getD i default)=true) (fun k=>l.length - k) 0 ⟨Nat.zero_le _,fun i h=>absurd h (by omega)⟩ ag0 ?_
  rintro k H nx ⟨hk,hz⟩
  by_cases hk2:k < l.length
  rotate_left
  · (have zz:=and_self; repeat' (first | refine zW ?_ | apply a_n | apply a_x | refine zO ?_ | refine vY ?_ | (refine zGY ?_ ?_ <;> (intro _hg; try (exfalso; omega))) | refine ae rfl ?_ | refine r1Y ?_ | fail)) <;> (try clear zz)
    rw [kG fun i hi=>hz i (by omega)]
    exact .bool _
  have ix:=qh hk2
  obtain ⟨s1,s2⟩:=hs _ (ah hk2)
  have hf:=zr (l.getD k default) s2 s1
  have hbad:gS (l.getD k default)=false→l.all gS=false:=fun h=>gG hk2 h
  have hnext:gS (l.getD k default)=true→∀ i,i < k + 1→gS (l.getD i default)=true:=fun h i hi=>by
    rcases Nat.lt_succ_iff_lt_or_eq.1 hi with h' | rfl
    · exact hz i h'
    · exact h
  have d1:=bD (l.getD k default)
  generalize l.getD k default=t at *
  unfold bj at hf d1
  cases hb:gS t
  · rw [hb] at hf
    rw [hbad hb]
    (have zz:=aI @ix (aI @af @ab); repeat' (first | refine zW ?_ | apply a_n | apply a_r | refine zO ?_ | refine vY ?_ | refine cY ?_ (hp:=hf) | refine alY ?_ | refine stY ?_ | refine cTY ?_ | (refine zGY ?_ ?_ <;> (intro _hg; try (exfalso; omega))) | refine ae rfl ?_ | refine r1Y ?_ | fail)) <;> (try clear zz)
    exact .bool _
  · rw [hb] at hf
    (have zz:=aI @ix (aI @af @ab); repeat' (first | refine zW ?_ | apply a_n | refine zO ?_ | refine vY ?_ | refine cY ?_ (hp:=hf) | refine alY ?_ | refine stY ?_ | refine cFY ?_ | (refine zGY ?_ ?_ <;> (intro _hg; try (exfalso; omega))) | fail)) <;> (try clear zz)
    exact ⟨k + 1,by omega,⟨by omega,hnext hb⟩,ag0⟩
theorem lg (a b:TaskV) (ha:Ok a) (hb:Ok b):Pure Tryz.prog 5 [bj a,bj b] (.bool true):=by
  refine Pure.of_c2 follows is5 (Nat.le_of_ble_eq_true rfl) ?_
  simp only [b5,cO,cG,cN,cM,cD,cF,cB,ap,aH]
  have haw:=uh
  have hfw:=uE [a,b] (by simp) (by simp; exact ⟨ha,hb⟩)
  have d1:=bD a
  have d2:=bD b
  cases hF:[a,b].all gS
  · rw [hF] at hfw
    unfold bj at d1 d2
    rw [show bj a=.agg [.int .i64 a.n,.int .i64 a.ins,.int .i64 a.outs,aP a.cases] from rfl,show bj b=.agg [.int .i64 b.n,.int .i64 b.ins,.int .i64 b.outs,aP b.cases] from rfl]
    (have zz:=aI @af @ab; repeat' (first | refine zW ?_ | apply a_n | refine zO ?_ | refine vZ ?_ | refine bxZ ?_ | refine blZ ?_ | fail)) <;> (try clear zz)
    refine cK ev0 ev0 hfw (aq (ao (qp aw) am) rfl) ?_
    (have zz:=aI @af @ab; repeat' (first | refine zW ?_ | apply a_n | apply a_r | refine zO ?_ | refine vZ ?_ | refine cZ ?_ (hp:=haw) | refine cTZ ?_ | refine ae rfl ?_ | refine r1Z ?_ | fail)) <;> (try clear zz)
    exact .bool _
  rw [hF] at hfw
  have hfa:gS a=true∧gS b=true:=by simpa using hF
  have fa:=Fit30.of hfa.1
  have fb:=Fit30.of hfa.2
  have c1:=rH a b fa fb
  have c2:=sf a b fa fb
  have hm:Ok (d7 a b).1:=by
    unfold d7
    split
    · exact qj
    rename_i hE
    split
    · exact qj
    split
    · exact qj
    obtain ⟨ca,cb,hn⟩:=nq (Decidable.of_not_not hE)
    have nn:=lr ca
    refine ⟨show (bJ (bg b.outs) b a.cases).length ≤ _ from Nat.le_trans ff (by have:=fa.len; omega),fun x hx=>?_⟩
    obtain ⟨c,hc,d,hd,rfl⟩:=ji hx
    have h1:=fa.sh c hc
    have h2:=fa.q c hc
    have h3:=fb.q d (ey hd).1
    obtain ⟨v1,v2⟩:=eZ ca hc
    have l1:=ci (m:=b.outs) h2.1 h3.1
    have l2:=ci (m:=b.outs) (eO (f:=0) h2) (eO (f:=0) h3)
    exact sJ h1.1 (by omega) (fq fun v hv=>by have:=(v1 v hv).1; omega) (by omega) (fq fun v hv=>by have:=(v2 0 v hv).1; omega)
  have e1:=vU (d7 a b).1 hm.1 hm.2
  generalize d7 a b=X at *
  have dX:=bD X.1
  have z1:decide (X.2=X.2)=true:=decide_eq_true rfl
  unfold bj at d1 d2 c1 c2 dX e1
  rw [show bj a=.agg [.int .i64 a.n,.int .i64 a.ins,.int .i64 a.outs,aP a.cases] from rfl,show bj b=.agg [.int .i64 b.n,.int .i64 b.ins,.int .i64 b.outs,aP b.cases] from rfl]
  (have zz:=aI @af @ab; repeat' (first | refine zW ?_ | apply a_n | refine zO ?_ | refine vZ ?_ | refine bxZ ?_ | refine blZ ?_ | fail)) <;> (try clear zz)
  refine cK ev0 ev0 hfw (aq (ao (qp aw) am) rfl) ?_
  (have zz:=aI @af (aI @ab @z1); repeat' (first | refine zW ?_ | apply a_n | refine zO ?_ | refine vZ ?_ | refine cZ ?_ (hp:=by first | exact haw | exact c1 | exact c2 | exact e1) | refine alZ ?_ | refine stZ ?_ | refine gTZ ?_ | refine cFZ ?_ | refine ae rfl ?_ | refine r1Z ?_ | fail)) <;> (try clear zz)
  all_goals exact .bool _
end Go.Proofs.YtjgpfclngkcedaaGreat
namespace Go.Proofs.YtjgpfclngkcedaaGreat
open Go Go.Abs Go.RowKit
section
variable {H:Type} {enc:TypeId × Value→H} {W:World}
theorem oi:cS enc Tryz.prog W 3 (AV.int .i64) (fun n=>(Lit.int .i64 n).wf=true):=rI Tryz.underlying3
theorem oL1:cS enc Tryz.prog W 27 aK Sh :=
  (f0 Tryz.underlying27 (sz:=1) (by_:=8) (by kernel_rfl) (by kernel_rfl) Nat.one_pos (fun _=>rfl) oi).mono fun l h=>by have:=h.2.2; show _ ≤ _; omega
theorem oL2:cS enc Tryz.prog W 41 aj (fun l=>Sh l∧∀ x ∈ l,Sh x) :=
  (f0 Tryz.underlying41 (sz:=1) (by_:=24) (by kernel_rfl) (by kernel_rfl) Nat.one_pos (fun _=>rfl) oL1).mono fun l h=>⟨by have:=h.2.2; show _ ≤ _; omega,h.1⟩
set_option maxRecDepth 100000 in
theorem xL:cS enc Tryz.prog W 57 cP ShC :=
  (jb Tryz.underlying57 (by kernel_rfl) (cH (off:=0) (off':=1) rfl (by kernel_rfl) oL1 (cH (off:=1) (off':=2) rfl (by kernel_rfl) oL2 (cH (off:=2) (off':=3) rfl (by kernel_rfl) oL2 lJ)))).map
    (fun a=>(⟨a.1,a.2.1,a.2.2.1⟩:CaseV)) (by
      rintro ⟨i,o,c,u⟩ ⟨h1,h2,h3,_⟩
      exact ⟨h1,h2.1,h2.2,h3.1,h3.2⟩) (fun _ _=>rfl)
theorem xd:cS enc Tryz.prog W 22 aP (fun l=>Sh l∧∀ c ∈ l,ShC c) :=
  (f0 Tryz.underlying22 (sz:=3) (by_:=72) (by kernel_rfl) (by kernel_rfl) (by omega) (fun _=>rfl) xL).mono fun l h=>⟨by have:=h.2.2; show _ ≤ _; omega,h.1⟩
set_option maxRecDepth 100000 in
theorem vA:cS enc Tryz.prog W 24 bj (fun t=>Sh t.cases∧∀ c ∈ t.cases,ShC c) :=
  (jb Tryz.underlying24 (by kernel_rfl) (cH (off:=0) (off':=1) rfl (by kernel_rfl) oi (cH (off:=1) (off':=2) rfl (by kernel_rfl) oi (cH (off:=2) (off':=3) rfl (by kernel_rfl) oi (cH (off:=3) (off':=4) rfl (by kernel_rfl) xd lJ))))).map
    (fun a=>(⟨a.1,a.2.1,a.2.2.1,a.2.2.2.1⟩:TaskV)) (by
      rintro ⟨n,i,o,c,u⟩ ⟨_,_,_,h,_⟩
      exact h) (fun _ _=>rfl)
end
theorem kA {f:FuncId} {xs:List AV} {vs:List Value} (h:Go.Abs.Pure Tryz.prog f xs (.bool true)) (w:World) (hv:bE (E0 (nT w)) w xs vs) :
    Calls Tryz.prog f vs.toArray w fun e w'=>e=.returned (.bool true)∧Below w.heap.size w w':=by
  refine (h.2 (nT w) w vs (fun _ h=>h) hv).mono ?_
  rintro e w' ⟨v,imm',rfl,hb,_,_,_,hr⟩
  cases hr
  exact ⟨rfl,hb⟩
theorem zf:laidOutB Tryz.prog=true:=by kernel_rfl
end Go.Proofs.YtjgpfclngkcedaaGreat
namespace Go.Proofs.YtjgpfclngkcedaaGreat
open Go Go.Abs Go.RowKit Go.ChangeShapes Go.WideShapes Go.ChangeAt
theorem mg {H:Type} {enc:TypeId × Value→H} {P:Program} {f:Func} {s:ChangeSpec} {apart fresh handsOn again:Bool} {W W':World} {args:Array Value} {v:Value} {ds gs:List (DataW H)} {before pa pv:List MemPlace}
    (hW:DataW.Whole enc P f.params.toList s.vars apart W args.toList ds gs before)
    (hres:∀ (b:Nat) (sp:Nat→Bool) (hd:Bool),DataW.TrodAll enc P W' b sp hd f.resultTypes.toList (v.resultList f.resultTypes.size) (s.fn H (ds ++ gs)).results [])
    (hargs:∀ sp:Nat→Bool,(∀ p ∈ before,sp p.block=true)→DataW.TrodAll enc P W' 0 sp true f.params.toList args.toList (s.fn H (ds ++ gs)).args pa)
    (hvars:∀ sp:Nat→Bool,(∀ p ∈ before,sp p.block=true)→DataW.TrodVars enc P W' sp s.vars (s.fn H (ds ++ gs)).vars pv)
    (hps:before=pa ++ pv) (hb:Below W.heap.size W W')
    (hok:∀ (j:Nat) (t:TypeId) (r:Value),f.resultTypes[j]?=some t→(v.resultList f.resultTypes.size)[j]?=some r→Value.okWide P W' .any 0 t r) :
    s.post enc P f apart fresh handsOn again W args v W':=by
  have hold:∀ p ∈ before,(fun b=>decide (b < W.heap.size)) p.block=true:=fun p hp=>by simpa using hW.lt p hp
  have hlt:=fun p hp=>hW.lt p hp
  refine ⟨ds,gs,before,[],pa,pv,hW,hres _ _ _,hargs _ hold,hvars _ hold,World.keptBut_mono (fun p hp=>⟨hp,?_⟩) (hb.frame _),fun _=>?_⟩
  · rw [hps,List.mem_append] at hp
    exact Or.inr hp
  · obtain ⟨_,_,_,_,_,hz,hn⟩:=hW
    refine ⟨hok,_,_,([] ++ pa) ++ pv,⟨[] ++ pa,pv,trodAll_append (hargs _ (fun _ _=>rfl)) (hres _ _ _),hvars _ (fun _ _=>rfl),rfl,?_,?_⟩,?_⟩
    · intro b off hp
      have hp':MemPlace.cell b off ∈ before:=by rw [hps]; simpa using hp
      rw [hb.frozen (hlt _ hp')]
      exact hz b off hp'
    · intro ha
      have:=hn ha
      rw [hps] at this
      simpa using this
    · intro p hp _
      rw [hps]
      simpa using hp
theorem tN {E:Env} {w:World}:bE E w [] []:=⟨rfl,fun i x y h=>(by cases h)⟩
theorem mN {E:Env} {w:World} {x:AV} {y:Value} {xs:List AV} {ys:List Value} (h:Rel E w x y) (hs:bE E w xs ys):bE E w (x :: xs) (y :: ys):=by
  refine ⟨by simp [hs.1],fun i a b ha hb=>?_⟩
  cases i with
  | zero=>simp at ha hb; subst ha hb; exact h
  | succ i=>simp at ha hb; exact hs.2 i a b ha hb
theorem own:ownKnob Tryz.prog.godebug=none:=by kernel_rfl
end Go.Proofs.YtjgpfclngkcedaaGreat
