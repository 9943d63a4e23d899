/- Texts of this claim, one after the other: T33, T34, T35, T36. -/
import Derived.Test.YtbiikomnhkbblaaGreatXG7

set_option linter.unusedSimpArgs false
set_option linter.unusedVariables false
namespace Go.Proofs.YtbiikomnhkbblaaGreat
open Go Go.Abs
open Nat (reduceEqDiff reduceAdd reduceLeDiff)
def KC (c d:CaseV):Int:=order c.inp d.inp
def renC (p:List Int) (c:CaseV):CaseV:=⟨moveV c.inp p,movedV c.out p,movedV c.calm p⟩
def renT (t:TaskV) (p:List Int):TaskV:=⟨t.n,t.ins,t.outs,sortG KC (t.cases.map (renC p))⟩
def permuteT (t:TaskV) (p:List Int):TaskV × Int:=if checkE t ≠ 0 then (T00,checkE t) else if permE p ≠ 0 then (T00,permE p) else if (p.length:Int) ≠ t.n then (T00,22) else (renT t p,0)
theorem ordC:Ord KC where
  irr x:=ordV.irr x.inp
  asym x y:=ordV.asym x.inp y.inp
  negtr x y z:=ordV.negtr x.inp y.inp z.inp
theorem moved_one (v p:List Int):movedV [v] p=[moveV v p]:=rfl
theorem inp_len {t:TaskV} {k:Nat} (h:checkE t=0) (hk:k < t.cases.length):((t.cases.getD k default).inp.length:Int)=t.n:=by
  have:=(vectorE_0 ((check_parts h).2.2 k hk).1).1
  exact this
def only2 (b1:Nat) (c1:List AV) (b2:Nat) (c2:List AV):Hp:=fun b=>if b=b1 then some c1 else if b=b2 then some c2 else none
theorem sub_only2 {H:Hp} {b1 b2:Nat} {c1 c2:List AV} (h1:H b1=some c1) (h2:H b2=some c2):Sub (only2 b1 c1 b2 c2) H:=fun x c hx=>by
  unfold only2 at hx
  split at hx
  · cases hx; subst_vars; exact h1
  · split at hx <;> cases hx
    subst_vars; exact h2
attribute [local irreducible] awp2 aops2 ains aloop athen bbind obind gbind acond res1 Go.Abs.Fn PCall Go.Abs.Pure SnapArgs SnapL Yl
theorem permute1_c (x y:CaseV) (hx:ShC x) (hy:ShC y):Pure Tryz.prog 68 [encC x,encC y] (.int .i64 (KC x y)):=by
  refine Pure.of_c2 follows is68 (Nat.le_of_ble_eq_true rfl) ?_
  simp only [b68,cO,cG,cN,cM,cD,cF,cB,cFal,cTru]
  have hc:=compare_c x.inp y.inp hx.1 hy.1
  unfold encC KC
  (have zz:=and_self; repeat' (first | apply w_seq | apply w_ops0 | apply w_ret | apply a_n | apply o_nil | refine vZ ?_ | refine cZ ?_ (hp:=hc) | refine bxZ ?_ | refine e_ends rfl ?_ | refine r1Z ?_ | fail)) <;> (try clear zz)
  exact snap_int rfl
theorem cmpC:Cmp3 Tryz.prog encC KC ShC 68 [] where
  len _:=rfl
  agg _:=rfl
  ones _:=rfl
  dat v:=encC_dat v
  dcaps:=by simp
  run x y hx hy:=permute1_c x y hx hy
  ord:=ordC
theorem snap_cases {H:Hp} {B n:Nat} {M:List CaseV} (hB:H B=some (M.c3 encC)) (hM:M.length=n):Snap H (.msl B (n * 3) 3 0 n) (encCs M):=by
  subst hM
  refine Row.snap (elems:=M.map encC) ?_ (fun y hy=>?_) (by omega) (fun y hy c hc=>?_)
  · rw [List.flatMap_map]
    exact .box B M.length _ hB (c3_len (fun _=>rfl) M)
  · obtain ⟨x,_,rfl⟩:=List.mem_map.1 hy; rfl
  · obtain ⟨x,_,rfl⟩:=List.mem_map.1 hy
    simp only [encC,AV.cells,List.mem_cons,List.not_mem_nil,or_false] at hc
    rcases hc with rfl | rfl | rfl
    · exact encV_dat _
    · exact encVV_dat _
    · exact encVV_dat _
set_option maxHeartbeats 1000000 in
theorem permute_c (t:TaskV) (p:List Int) (hs:∀ c ∈ t.cases,ShC c) (hsc:Sh t.cases) (hq:∀ c ∈ t.cases,c.out.length ≤ 100000∧c.calm.length ≤ 100000) (hl:Sh p):Pure Tryz.prog 26 [encT t,encV p] (.tup [encT (permuteT t p).1,.int .i64 (permuteT t p).2]):=by
  refine Pure.of_c2 follows is26 (Nat.le_of_ble_eq_true rfl) ?_
  simp only [b26,cO,cG,cN,cM,cD,cF,cB,cFal,cTru]
  have hl':p.length ≤ 17592186044416:=hl
  have hsc':t.cases.length ≤ 17592186044416:=hsc
  have hc:=check_c t hs hsc
  have hpc:=permCheck_c p hl
  have d2:=encT_dat t
  by_cases he:checkE t=0
  rotate_left
  · have e:permuteT t p=(T00,checkE t):=by unfold permuteT; rw [if_pos he]
    rw [e]
    generalize checkE t=C at *
    unfold encT at hc d2
    rw [show encT t=.agg [.int .i64 t.n,.int .i64 t.ins,.int .i64 t.outs,encCs t.cases] from rfl]
    (have zz:=aI @encCs_one (aI @encCs_cells @alenS_encCs); repeat' (first | apply w_seq | apply w_ops0 | apply w_ret | apply a_n | apply a_r | apply o_nil | refine vZ ?_ | refine cZ ?_ (hp:=hc) | refine alZ ?_ | refine bxZ ?_ | refine stZ ?_ | (refine cdZ ?_ ?_ <;> (intro _hg; (try simp only [ZB] at _hg); try first | exact absurd trivial _hg | (exfalso; omega))) | refine e_ends rfl ?_ | refine r2Z ?_ | fail)) <;> (try clear zz)
    exact snapErr _
  rw [he] at hc
  by_cases hp:permE p=0
  rotate_left
  · have e:permuteT t p=(T00,permE p):=by unfold permuteT; rw [if_neg (fun h=>h he),if_pos hp]
    rw [e]
    generalize permE p=C at *
    unfold encT at hc d2
    rw [show encT t=.agg [.int .i64 t.n,.int .i64 t.ins,.int .i64 t.outs,encCs t.cases] from rfl]
    (have zz:=aI @encCs_one (aI @encCs_cells @alenS_encCs); repeat' (first | apply w_seq | apply w_ops0 | apply w_skip | apply w_ret | apply a_n | apply a_r | apply o_nil | refine vZ ?_ | refine cZ ?_ (hp:=by first | exact hc | exact hpc) | refine alZ ?_ | refine bxZ ?_ | refine stZ ?_ | (refine cdZ ?_ ?_ <;> (intro _hg; (try simp only [ZB] at _hg); try first | exact absurd trivial _hg | (exfalso; omega))) | refine e_ends rfl ?_ | refine r2Z ?_ | fail)) <;> (try clear zz)
    exact snapErr _
  rw [hp] at hpc
  by_cases hn:(p.length:Int) ≠ t.n
  · have e:permuteT t p=(T00,22):=by unfold permuteT; rw [if_neg (fun h=>h he),if_neg (fun h=>h hp),if_pos hn]
    rw [e]
    have z:decide ((p.length:Int)=t.n)=false:=decide_eq_false hn
    unfold encT at hc d2
    rw [show encT t=.agg [.int .i64 t.n,.int .i64 t.ins,.int .i64 t.outs,encCs t.cases] from rfl]
    (have zz:=aI @encCs_one (aI @encCs_cells (aI @alenS_encCs @z)); repeat' (first | apply w_seq | apply w_ops0 | apply w_skip | apply w_ret | apply a_n | apply a_r | apply o_nil | refine vZ ?_ | refine cZ ?_ (hp:=by first | exact hc | exact hpc) | refine alZ ?_ | refine bxZ ?_ | refine stZ ?_ | (refine cdZ ?_ ?_ <;> (intro _hg; (try simp only [ZB] at _hg); try first | exact absurd trivial _hg | (exfalso; omega))) | refine e_ends rfl ?_ | refine r2Z ?_ | fail)) <;> (try clear zz)
    exact snapErr _
  have e:permuteT t p=(renT t p,0):=by unfold permuteT; rw [if_neg (fun h=>h he),if_neg (fun h=>h hp),if_neg hn]
  rw [e]
  have hn:(p.length:Int)=t.n:=Decidable.of_not_not hn
  obtain ⟨p1,p5,-,-⟩:=permE_0 hp
  have z:decide ((p.length:Int)=t.n)=true:=decide_eq_true hn
  have hcl:=(check_parts he).2.1
  have hren:∀ k,k < t.cases.length→(t.cases.getD k default).inp.length=p.length∧(∀ v ∈ (t.cases.getD k default).out,v.length=p.length)∧(∀ v ∈ (t.cases.getD k default).calm,v.length=p.length):=fun k hk=>by
    have h1:=inp_len he hk
    obtain ⟨_,h2,h3⟩:=case_vecs he hk
    exact ⟨by omega,fun v hv=>by have:=(h2 v hv).1; omega,fun v hv=>by have:=(h2 v (h3 v hv)).1; omega⟩
  generalize hA:[.int .i64 t.n,.int .i64 t.ins,.int .i64 t.outs,encCs t.cases]=A
  have hTA:encT t=.agg A:=by rw [← hA]; rfl
  rw [hTA] at hc d2 ⊢
  refine w_seqC (fun T H nx=>T 1=encV p∧T 2=.ptr 0 4 0∧T 4=.ptr 1 4 0∧T 5=.int .i64 0∧H=hupd (hupd noBoxes 0 A) 1 [.int .i64 0,.int .i64 0,.int .i64 0,.esl]∧nx=2) ?_ ?_
  · subst hA
    (have zz:=aI @encCs_one @encCs_cells; repeat' (first | apply w_ops0 | apply a_n | apply o_nil | refine vZ ?_ | refine alZ ?_ | refine bxZ ?_ | fail)) <;> (try clear zz)
    exact ⟨rfl,rfl,rfl,rfl,rfl,rfl⟩
  rintro T H nx ⟨t1,t2,t4,t5,rfl,rfl⟩
  refine w_seqC (fun T H nx=>T 1=encV p∧T 2=.ptr 0 4 0∧T 4=.ptr 1 4 0∧T 5=.int .i64 0∧H=hupd (hupd noBoxes 0 A) 1 [.int .i64 0,.int .i64 0,.int .i64 0,.esl]∧nx=2) ?_ ?_
  · subst hA
    (have zz:=aI @t1 (aI @t2 (aI @t4 @t5)); repeat' (first | apply w_seq | apply w_ops0 | apply w_skip | apply a_n | apply o_nil | refine vZ ?_ | refine cZ ?_ (hp:=hc) | (refine cdZ ?_ ?_ <;> (intro _hg; (try simp only [ZB] at _hg); try first | exact absurd trivial _hg | (exfalso; omega))) | fail)) <;> (try clear zz)
    exact ⟨(have zz:=aI @t1 (aI @t2 (aI @t4 @t5)); evZ),(have zz:=aI @t1 (aI @t2 (aI @t4 @t5)); evZ),(have zz:=aI @t1 (aI @t2 (aI @t4 @t5)); evZ),(have zz:=aI @t1 (aI @t2 (aI @t4 @t5)); evZ),rfl,rfl⟩
  clear t1 t2 t4 t5
  rintro T H nx ⟨t1,t2,t4,t5,rfl,rfl⟩
  refine w_seqC (fun T H nx=>T 1=encV p∧T 2=.ptr 0 4 0∧T 4=.ptr 1 4 0∧T 5=.int .i64 0∧H=hupd (hupd noBoxes 0 A) 1 [.int .i64 0,.int .i64 0,.int .i64 0,.esl]∧nx=2) ?_ ?_
  · (have zz:=aI @t1 (aI @t2 (aI @t4 @t5)); repeat' (first | apply w_seq | apply w_ops0 | apply w_skip | apply a_n | apply o_nil | refine vZ ?_ | refine cZ ?_ (hp:=hpc) | (refine cdZ ?_ ?_ <;> (intro _hg; (try simp only [ZB] at _hg); try first | exact absurd trivial _hg | (exfalso; omega))) | fail)) <;> (try clear zz)
    exact ⟨(have zz:=aI @t1 (aI @t2 (aI @t4 @t5)); evZ),(have zz:=aI @t1 (aI @t2 (aI @t4 @t5)); evZ),(have zz:=aI @t1 (aI @t2 (aI @t4 @t5)); evZ),(have zz:=aI @t1 (aI @t2 (aI @t4 @t5)); evZ),rfl,rfl⟩
  clear t1 t2 t4 t5
  rintro T H nx ⟨t1,t2,t4,t5,rfl,rfl⟩
  refine w_seqC (fun T H nx=>T 1=encV p∧T 2=.ptr 0 4 0∧T 4=.ptr 1 4 0∧T 5=.int .i64 0∧H=hupd (hupd noBoxes 0 A) 1 [.int .i64 0,.int .i64 0,.int .i64 0,.esl]∧nx=2) ?_ ?_
  · subst hA
    (have zz:=aI @t1 (aI @t2 (aI @t4 (aI @t5 @z))); repeat' (first | apply w_seq | apply w_ops0 | apply w_skip | apply a_n | apply o_nil | refine vZ ?_ | (refine cdZ ?_ ?_ <;> (intro _hg; (try simp only [ZB] at _hg); try first | exact absurd trivial _hg | (exfalso; omega))) | fail)) <;> (try clear zz)
    exact ⟨(have zz:=aI @t1 (aI @t2 (aI @t4 @t5)); evZ),(have zz:=aI @t1 (aI @t2 (aI @t4 @t5)); evZ),(have zz:=aI @t1 (aI @t2 (aI @t4 @t5)); evZ),(have zz:=aI @t1 (aI @t2 (aI @t4 @t5)); evZ),rfl,rfl⟩
  clear t1 t2 t4 t5
  rintro T H nx ⟨t1,t2,t4,t5,rfl,rfl⟩
  refine w_seqC (fun T H nx=>T 1=encV p∧T 2=.ptr 0 4 0∧T 4=.ptr 1 4 0∧T 8=.ptr 2 4 0∧H 0=some A∧H 1=some [.int .i64 0,.int .i64 0,.int .i64 0,.esl]∧H 2=some [.int .i64 t.n,.int .i64 t.ins,.int .i64 t.outs,.esl]∧nx=3) ?_ ?_
  · subst hA
    (have zz:=aI @t1 (aI @t2 (aI @t4 @t5)); repeat' (first | apply w_ops0 | apply a_n | apply o_nil | refine vZ ?_ | refine alZ ?_ | refine stZ ?_ | fail)) <;> (try clear zz)
    exact ⟨(have zz:=aI @t1 (aI @t2 (aI @t4 @t5)); evZ),(have zz:=aI @t1 (aI @t2 (aI @t4 @t5)); evZ),(have zz:=aI @t1 (aI @t2 (aI @t4 @t5)); evZ),(have zz:=aI @t1 (aI @t2 (aI @t4 @t5)); evZ),rfl,rfl,rfl,rfl⟩
  clear t1 t2 t4 t5
  rintro T H nx ⟨t1,t2,t4,t8,g0,g1,g2,rfl⟩
  generalize hL:t.cases.map (renC p)=L
  have hLl:L.length=t.cases.length:=by rw [← hL,List.length_map]
  refine w_seqC (fun T H nx=>T 4=.ptr 1 4 0∧T 8=.ptr 2 4 0∧3 ≤ nx∧H 1=some [.int .i64 0,.int .i64 0,.int .i64 0,.esl]∧∃ sv,H 2=some [.int .i64 t.n,.int .i64 t.ins,.int .i64 t.outs,sv]∧Row H 3 sv (L.c3 encC)∧∀ b,rowB sv=some b→3 ≤ b∧b < nx) ?_ ?_
  · subst hA
    (have zz:=aI @t2 (aI @g0 @alenS_encCs); repeat' (first | apply w_seq | apply w_ops0 | apply w_block | apply a_n | apply o_nil | refine vY ?_ | apply w_loop | fail)) <;> (try clear zz)
    refine loopI (X:=AV × Nat) (fun x=>[(1,encV p),(2,.ptr 0 4 0),(4,.ptr 1 4 0),(8,.ptr 2 4 0),(37,encCs t.cases),(38,.int .i64 t.cases.length),(39,.int .i64 x.2)]) (fun x H nx=>x.2 ≤ t.cases.length∧3 ≤ nx∧H 1=some [.int .i64 0,.int .i64 0,.int .i64 0,.esl]∧H 2=some [.int .i64 t.n,.int .i64 t.ins,.int .i64 t.outs,x.1]∧Row H 3 x.1 (((t.cases.take x.2).map (renC p)).c3 encC)∧∀ b,rowB x.1=some b→3 ≤ b∧b < nx) (fun x=>t.cases.length - x.2) (.esl,0) ⟨Nat.zero_le _,Nat.le_refl _,g1,g2,Row.nil,fun b hb=>(by cases hb)⟩ (have zz:=aI @t1 (aI @t2 (aI @t4 @t8)); agZ) ?_
    rintro ⟨sv,k⟩ H nx ⟨hk,hnx,k1,k2,hrow,hb⟩
    dsimp only at hk k2 hrow hb ⊢
    by_cases hk2:k < t.cases.length
    rotate_left
    · rw [List.take_of_length_le (by omega),hL] at hrow
      (have zz:=and_self; repeat' (first | apply w_seq | apply w_ops0 | apply w_exit | apply a_n | apply a_x | apply o_nil | refine vZ ?_ | (refine cdZ ?_ ?_ <;> (intro _hg; (try simp only [ZB] at _hg); try first | exact absurd trivial _hg | (exfalso; omega))) | fail)) <;> (try clear zz)
      exact ⟨rfl,rfl,hnx,k1,sv,k2,hrow,hb⟩
    have ix:=aixS_encCs hk2
    obtain ⟨r1,r2,r3⟩:=hren k hk2
    obtain ⟨q1,q2⟩:=hq _ (mem_getD hk2)
    have hst:((t.cases.take (k + 1)).map (renC p)).c3 encC=((t.cases.take k).map (renC p)).c3 encC ++ (encC (renC p (t.cases.getD k default))).cells:=by
      rw [take_succ' hk2,List.map_append]
      simp [List.c3]
    have hlen:(((t.cases.take k).map (renC p)).c3 encC).length=k * 3:=by
      rw [c3_len (fun _=>rfl),List.length_map,List.length_take]; omega
    generalize t.cases.getD k default=c at *
    obtain ⟨inp,out,calm⟩:=c
    dsimp only at *
    have m1:=moved_c [inp] p hp (by simp) (fun v hv=>by simp at hv; subst hv; exact r1)
    rw [moved_one] at m1
    have m2:=moved_c out p hp q1 r2
    have m3:=moved_c calm p hp q2 r3
    (have zz:=@ix; repeat' (first | apply w_seq | apply w_ops0 | apply w_block | apply w_skip | apply a_n | apply o_nil | refine vY ?_ | refine alY ?_ | refine stY ?_ | (refine cdY ?_ ?_ <;> (intro _hg; (try simp only [ZB] at _hg); try first | exact absurd trivial _hg | (exfalso; omega))) | fail)) <;> (try clear zz)
    refine w_mixS (only2 2 [.int .i64 t.n,.int .i64 t.ins,.int .i64 t.outs,sv] nx [encV inp,encVV out,encVV calm]) rfl (sub_only2 (by rw [hupd_ne (by omega),hupd_ne (by omega)]; exact k2) (by rw [hupd_self']; rfl)) ?_
    have hS2:only2 2 [.int .i64 t.n,.int .i64 t.ins,.int .i64 t.outs,sv] nx [encV inp,encVV out,encVV calm] 2=some [.int .i64 t.n,.int .i64 t.ins,.int .i64 t.outs,sv]:=if_pos rfl
    have hSn:only2 2 [.int .i64 t.n,.int .i64 t.ins,.int .i64 t.outs,sv] nx [encV inp,encVV out,encVV calm] nx=some [encV inp,encVV out,encVV calm]:=by unfold only2; rw [if_neg (by omega),if_pos rfl]
    generalize hSS:only2 2 [.int .i64 t.n,.int .i64 t.ins,.int .i64 t.outs,sv] nx [encV inp,encVV out,encVV calm]=S at hS2 hSn ⊢
    have hSub:∀ H',H' 2=some [.int .i64 t.n,.int .i64 t.ins,.int .i64 t.outs,sv]→H' nx=some [encV inp,encVV out,encVV calm]→Sub S H':=fun H' a1 a2=>by rw [← hSS]; exact sub_only2 a1 a2
    have hB2:hupd (hupd H nx [.esl,.esl,.esl]) nx (lput [.esl,.esl,.esl] 0 [encV inp,encVV out,encVV calm]) 2=some [.int .i64 t.n,.int .i64 t.ins,.int .i64 t.outs,sv]:=by rw [hupd_ne (by omega),hupd_ne (by omega)]; exact k2
    have hBn:hupd (hupd H nx [.esl,.esl,.esl]) nx (lput [.esl,.esl,.esl] 0 [encV inp,encVV out,encVV calm]) nx=some [encV inp,encVV out,encVV calm]:=by rw [hupd_self']; rfl
    (have zz:=aI @hS2 @hSn; repeat' (first | refine nvY ?_ | fail)) <;> (try clear zz)
    refine n_bld (pv:=[(0,1,encV inp)]) (cs:=[encV inp]) ev0 rfl (by decide) rfl rfl ?_
    (have zz:=aI @hS2 @hSn; repeat' (first | refine nvY ?_ | fail)) <;> (try clear zz)
    refine n_keep ?_
    refine o_callP ev0 (by ((try simp only [simB0,ZA,reduceEqDiff,↓reduceIte,reduceAdd,reduceLeDiff]); (try with_reducible rfl)); rfl) m1 (snap_data (snapL_cons (encVV_dat [inp] _) (snapL_cons (encV_dat _ _) snapL_nil))) ?_
    refine o_nil ⟨hSub _ hB2 hBn,?_⟩
    have ix1:aixS 1 (encVV [moveV inp p]) (.int .i64 0)=some (.iptr [encV (moveV inp p)] 0):=rfl
    (have zz:=aI @hS2 (aI @hSn @ix1); repeat' (first | refine nvY ?_ | fail)) <;> (try clear zz)
    refine n_keep ?_
    refine o_callP ev0 ev0 m2 (snap_data (snapL_cons (encVV_dat _ _) (snapL_cons (encV_dat _ _) snapL_nil))) ?_
    refine o_nil ⟨hSub _ hB2 hBn,?_⟩
    refine n_keep ?_
    refine o_callP ev0 ev0 m3 (snap_data (snapL_cons (encVV_dat _ _) (snapL_cons (encV_dat _ _) snapL_nil))) ?_
    refine o_nil ⟨hSub _ hB2 hBn,?_⟩
    (have zz:=aI @hS2 @hSn; repeat' (first | refine nvY ?_ | fail)) <;> (try clear zz)
    refine n_keep ?_
    (have zz:=and_self; repeat' (first | apply o_nil | refine blY ?_ | fail)) <;> (try clear zz)
    refine ⟨hSub _ (by rw [hupd_ne (by omega)]; exact hB2) (by rw [hupd_ne (by omega)]; exact hBn),?_⟩
    (have zz:=aI @hS2 @hSn; repeat' (first | apply n_any | fail)) <;> (try clear zz)
    refine e_row rfl ev0 (hrow.same fun b' hb'=>?_) ev0 asrc_three rfl rfl (by omega) (by rw [hlen]; omega) (by rw [hlen]; omega) ?_
    · have:=hb b' hb'
      rw [hupd_ne (by omega),hupd_ne (by omega),hupd_ne (by omega)]
    rintro sv' H2 nx2 u1 u2 u3 u4 u5
    have v1:∀ x,x < nx→rowB sv ≠ some x→H2 x=H x:=fun x a1 a2=>(u4 x (by omega) a2).trans (by rw [hupd_ne (by omega),hupd_ne (by omega),hupd_ne (by omega)])
    have g2':H2 2=some [.int .i64 t.n,.int .i64 t.ins,.int .i64 t.outs,sv]:=(v1 2 (by omega) (fun h=>by have:=hb 2 h; omega)).trans k2
    obtain ⟨q1',q2'⟩:=u1.one
    have ub:∀ b',rowB sv'=some b'→3 ≤ b'∧b' < nx2:=fun b' hb'=>by
      rcases u5 b' hb' with e | ⟨e1,e2⟩
      · have:=hb b' e; omega
      · omega
    (have zz:=aI @hS2 (aI @hSn (aI @g2' (aI @q1' @q2'))); repeat' (first | apply w_ops0 | apply a_n | apply o_nil | refine vY ?_ | refine nvY ?_ | apply n_any | refine stY ?_ | fail)) <;> (try clear zz)
    refine ⟨(sv',k + 1),by dsimp only; omega,⟨by dsimp only; omega,by omega,?_,?_,?_,fun b' hb'=>ub b' hb'⟩,ag0⟩
    · rw [hupd_ne (by omega)]
      exact (v1 1 (by omega) (fun h=>by have:=hb 1 h; omega)).trans k1
    · rw [hupd_self']; rfl
    · dsimp only
      rw [hst]
      exact u1.same fun b' hb'=>hupd_ne (by have:=ub b' hb'; omega)
  clear t1 t2 t4 t8 g0 g1 g2
  rintro T H nx ⟨t4,t8,hnx,g1,sv,g2,hrow,hb⟩
  have hLs:∀ x ∈ L,ShC x:=fun x hx=>by
    rw [← hL] at hx
    obtain ⟨c,hc2,rfl⟩:=List.mem_map.1 hx
    obtain ⟨i,hi,rfl⟩:=List.getElem_of_mem hc2
    have hr:=hren i hi
    have hqq:=hq _ hc2
    rw [show t.cases.getD i default=t.cases[i] by simp [List.getD,hi]] at hr
    generalize t.cases[i]=c at *
    refine ⟨?_,?_,fun v hv=>?_,?_,fun v hv=>?_⟩
    · show (moveV c.inp p).length ≤ _; rw [moveV_len,hr.1]; omega
    · show (movedV c.out p).length ≤ _; unfold movedV; rw [sortG_len,List.length_map]; omega
    · obtain ⟨w,hw,rfl⟩:=List.mem_map.1 ((sortG_perm _).mem_iff.1 hv)
      show (moveV w p).length ≤ _; rw [moveV_len,hr.2.1 w hw]; omega
    · show (movedV c.calm p).length ≤ _; unfold movedV; rw [sortG_len,List.length_map]; omega
    · obtain ⟨w,hw,rfl⟩:=List.mem_map.1 ((sortG_perm _).mem_iff.1 hv)
      show (moveV w p).length ≤ _; rw [moveV_len,hr.2.2 w hw]; omega
  have hrow':∃ B,sv=.msl B (L.length * 3) 3 0 L.length∧H B=some (L.c3 encC)∧3 ≤ B∧B < nx:=by
    generalize hcs:L.c3 encC=cs at hrow
    have hcl3:(L.c3 encC).length=L.length * 3:=c3_len (fun _=>rfl) L
    cases hrow with
    | nil=>rw [hcs] at hcl3; simp at hcl3; omega
    | box B len cs h1 h2 =>
      have e:len=L.length:=by rw [← hcs,hcl3] at h2; omega
      subst e
      have:=hb B rfl
      exact ⟨B,rfl,h1,this⟩
  obtain ⟨B,rfl,hB,hB3,hBn⟩:=hrow'
  (have zz:=aI @t8 @g2; repeat' (first | apply w_seq | apply w_ops0 | refine vY ?_ | fail)) <;> (try clear zz)
  refine o_callE ev0 (have zz:=aI @t8 @g2; evY) (sortF_k cmpC hB hBn rfl (by omega) hLs (by omega)) ?_
  rintro _ H1 n1 ⟨M,hps,hpM,hsM⟩
  have hMl:M.length=L.length:=hpM.length_eq
  have hM:M=sortG KC L:=sortG_unique ordC (fun x hx y hy h1 h2=>by
    rw [← hL] at hx hy
    obtain ⟨c,hc2,rfl⟩:=List.mem_map.1 hx
    obtain ⟨d,hd2,rfl⟩:=List.mem_map.1 hy
    obtain ⟨i,hi,rfl⟩:=List.getElem_of_mem hc2
    obtain ⟨j,hj,rfl⟩:=List.getElem_of_mem hd2
    have e:=alikeV h1 h2
    have ei:t.cases.getD i default=t.cases[i]:=by simp [List.getD,hi]
    have ej:t.cases.getD j default=t.cases[j]:=by simp [List.getD,hj]
    have e2:=moveV_inj hp (by rw [← ei]; exact (hren i hi).1) (by rw [← ej]; exact (hren j hj).1) e
    have:=inp_inj he hi hj (by rw [ei,ej]; exact e2)
    subst this; rfl) (SortedP.of (by rw [hMl]; exact hsM)) hpM
  have j2:H1 2=some [.int .i64 t.n,.int .i64 t.ins,.int .i64 t.outs,.msl B (L.length * 3) 3 0 L.length]:=(hps.fr 2 (by omega) (by omega)).trans g2
  have j1:H1 1=some [.int .i64 0,.int .i64 0,.int .i64 0,.esl]:=(hps.fr 1 (by omega) (by omega)).trans g1
  (have zz:=aI @t4 (aI @t8 (aI @j1 @j2)); repeat' (first | apply w_seq | apply w_ops0 | apply w_ret | apply a_n | apply o_nil | refine vY ?_ | refine stY ?_ | refine e_ends rfl ?_ | refine r2Y ?_ | fail)) <;> (try clear zz)
  have hren2:renT t p=⟨t.n,t.ins,t.outs,M⟩:=by unfold renT; rw [hL,hM]
  rw [hren2]
  refine snap_tup (snapL_cons (snap_agg (snapL_cons (.int _ _) (snapL_cons (.int _ _) (snapL_cons (.int _ _) (snapL_cons ?_ snapL_nil))))) (snapL_cons (.int _ _) snapL_nil))
  exact snap_cases (by rw [hupd_ne (by omega)]; exact hps.at_) hMl
end Go.Proofs.YtbiikomnhkbblaaGreat
namespace Go.Proofs.YtbiikomnhkbblaaGreat
open Go Go.Abs
open Nat (reduceEqDiff reduceAdd reduceLeDiff)
section
variable {P:Program} {T:Tm} {H:Hp} {nx:Nat}
theorem e_appG {dm:DM} {K:SP} {l:List Op2} {d:Option Nat} {sz bytes n:Nat} {s x:Opd} {v:AV} {new cs:List AV} {b m len:Nat} (hd:dm2 dm T (.app sz bytes s x)=true) (hs:ov T s=.msl b m sz 0 len) (hb:H b=some cs) (hx:ov T x=v) (hsrc:asrc sz H v=some (n,new)) (ho:AV.ones new=true) (hm:cs.length=m) (hl:len * sz ≤ m) (hg:m=len * sz ∨ m < (len + n) * sz)
    (h1:(len + n) * bytes ≤ 140737488355328) (h2:len + n ≤ 9223372036854775807)
    (k:aops2 P dm l (updo T d (.msl b ((len + n) * sz) sz 0 (len + n))) (hupd H b (cs.take (len * sz) ++ new)) nx K):aops2 P dm (⟨d,none,.app sz bytes s x⟩ :: l) T H nx K:=by
  by_cases e:m=len * sz
  · refine e_app hd hs hb hx hsrc ho hm e h1 h2 ?_
    rwa [List.take_of_length_le (by omega)] at k
  · exact e_appP hd hs hb hx hsrc ho hm (by omega) (by omega) h1 h2 k
end
theorem sls3_lo {b j k:Nat} (h:k < j):asls 3 (.msl b (j * 3) 3 0 j) (some (.int .i64 k)) none none=some (.msl b (j * 3) 3 (k * 3) (j - k)):=by
  simp only [asls,abound,Int.natCast_nonneg,if_true,Int.toNat_natCast]
  rw [if_pos ⟨trivial,by omega,Nat.le_refl _,by omega⟩,if_pos (.inr h),Nat.zero_add]
theorem sls3_end {b j:Nat} (h:0 < j):asls 3 (.msl b (j * 3) 3 0 j) (some (.int .i64 j)) none none=some (.sl 3 []):=by
  simp only [asls,abound,Int.natCast_nonneg,if_true,Int.toNat_natCast]
  rw [if_pos ⟨trivial,by omega,Nat.le_refl _,by omega⟩,if_neg (by omega)]
theorem sls3_hi {b j k:Nat} (h:k ≤ j) (h0:0 < j):asls 3 (.msl b (j * 3) 3 0 j) none (some (.int .i64 k)) none=some (.msl b (j * 3) 3 0 k):=by
  simp only [asls,abound,Int.natCast_nonneg,if_true,Int.toNat_natCast]
  rw [if_pos ⟨trivial,by omega,h,by omega⟩,if_pos (.inl trivial),Nat.zero_mul,Nat.sub_zero]
theorem c3_inp {C:List CaseV} {q:Nat} (hq:q < C.length):(C.c3 encC)[q * 3]?=some (encV (C.getD q default).inp):=by
  have h:=rdC (f:=encC) (fun _=>rfl) C q hq
  have e:((C.c3 encC).drop (q * 3))[0]?=some (encV (C.getD q default).inp):=by
    have:(((C.c3 encC).drop (q * 3)).take 3)[0]?=some (encV (C.getD q default).inp):=by rw [h]; rfl
    rw [List.getElem?_take,if_pos (by omega)] at this
    exact this
  rw [List.getElem?_drop,Nat.add_zero] at e
  exact e
theorem snap_rowC {H:Hp} {sv:AV} {M:List CaseV} (h:Row H 3 sv (M.c3 encC)):Snap H sv (encCs M):=by
  refine Row.snap (elems:=M.map encC) (by rw [List.flatMap_map]; exact h) (fun y hy=>?_) (by omega) (fun y hy c hc=>?_)
  · obtain ⟨x,_,rfl⟩:=List.mem_map.1 hy; rfl
  · obtain ⟨x,_,rfl⟩:=List.mem_map.1 hy
    simp only [encC,AV.cells,List.mem_cons,List.not_mem_nil,or_false] at hc
    rcases hc with rfl | rfl | rfl
    · exact encV_dat _
    · exact encVV_dat _
    · exact encVV_dat _
theorem c3_ones (M:List CaseV):AV.ones (M.c3 encC)=true:=by
  unfold AV.ones
  rw [List.all_eq_true]
  intro y hy
  obtain ⟨x,_,hx⟩:=List.mem_flatMap.1 hy
  simp only [encC,AV.cells,List.mem_cons,List.not_mem_nil,or_false] at hx
  rcases hx with rfl | rfl | rfl <;> rfl
theorem lput_part {cs xs:List AV} {a:Nat} (ha:a ≤ cs.length) (hx:xs.length=3):(lput cs a xs).take (a + 3)=cs.take a ++ xs:=by
  have e:a + 3=(cs.take a ++ xs).length:=by rw [List.length_append,List.length_take,hx]; omega
  simp only [lput]
  rw [e,List.take_append_of_le_length (Nat.le_refl _),List.take_of_length_le (Nat.le_refl _)]
theorem c3_app (A B:List CaseV):(A ++ B).c3 encC=A.c3 encC ++ B.c3 encC:=List.flatMap_append
attribute [local irreducible] awp2 aops2 ains aloop athen bbind obind gbind acond res1 Go.Abs.Fn PCall Go.Abs.Pure SnapArgs SnapL Yl
set_option maxHeartbeats 1000000 in
theorem renamedR (t:TaskV) (p:List Int) (hp:permE p=0) (hren:∀ k,k < t.cases.length→(t.cases.getD k default).inp.length=p.length∧(∀ v ∈ (t.cases.getD k default).out,v.length=p.length)∧(∀ v ∈ (t.cases.getD k default).calm,v.length=p.length)) (hcl:t.cases.length ≤ 100000) (hq:∀ c ∈ t.cases,c.out.length ≤ 100000∧c.calm.length ≤ 100000):Pure Tryz.prog 69 [encT t,encV p] (encT (renT t p)):=by
  refine Pure.of_c2 follows is69 (Nat.le_of_ble_eq_true rfl) ?_
  simp only [b69,cO,cG,cN,cM,cD,cF,cB,cFal,cTru]
  have d2:=encT_dat t
  obtain ⟨p1,p5,-,-⟩:=permE_0 hp
  generalize hA:[.int .i64 t.n,.int .i64 t.ins,.int .i64 t.outs,encCs t.cases]=A
  have hTA:encT t=.agg A:=by rw [← hA]; rfl
  rw [hTA]
  refine w_seqC (fun T H nx=>T 1=encV p∧T 2=.ptr 0 4 0∧T 4=.ptr 1 4 0∧H=hupd (hupd noBoxes 0 A) 1 [.int .i64 0,.int .i64 0,.int .i64 0,.esl]∧nx=2) ?_ ?_
  · subst hA
    (have zz:=aI @encCs_one @encCs_cells; repeat' (first | apply w_ops0 | apply a_n | apply o_nil | refine alZ ?_ | refine bxZ ?_ | fail)) <;> (try clear zz)
    exact ⟨rfl,rfl,rfl,rfl,rfl⟩
  rintro T H nx ⟨t1,t2,t4,rfl,rfl⟩
  refine w_seqC (fun T H nx=>T 1=encV p∧T 2=.ptr 0 4 0∧T 4=.ptr 1 4 0∧T 5=.ptr 2 4 0∧H 0=some A∧H 1=some [.int .i64 0,.int .i64 0,.int .i64 0,.esl]∧H 2=some [.int .i64 t.n,.int .i64 t.ins,.int .i64 t.outs,.esl]∧nx=3) ?_ ?_
  · subst hA
    (have zz:=aI @t1 (aI @t2 @t4); repeat' (first | apply w_ops0 | apply a_n | apply o_nil | refine vZ ?_ | refine alZ ?_ | refine stZ ?_ | fail)) <;> (try clear zz)
    exact ⟨(have zz:=aI @t1 (aI @t2 @t4); evZ),(have zz:=aI @t1 (aI @t2 @t4); evZ),(have zz:=aI @t1 (aI @t2 @t4); evZ),(have zz:=aI @t1 (aI @t2 @t4); evZ),rfl,rfl,rfl,rfl⟩
  clear t1 t2 t4
  rintro T H nx ⟨t1,t2,t4,t5,g0,g1,g2,rfl⟩
  refine w_seqC (fun T H nx=>T 4=.ptr 1 4 0∧T 5=.ptr 2 4 0∧3 ≤ nx∧H 1=some [.int .i64 0,.int .i64 0,.int .i64 0,.esl]∧∃ sv,H 2=some [.int .i64 t.n,.int .i64 t.ins,.int .i64 t.outs,sv]∧Row H 3 sv ((renT t p).cases.c3 encC)∧∀ b,rowB sv=some b→3 ≤ b) ?_ ?_
  rotate_left
  · clear t1 t2 t4 t5 g0 g1 g2
    rintro T H nx ⟨t4,t5,hnx,g1,sv,g2,hrow,hb⟩
    obtain ⟨q1,q2⟩:=hrow.one
    (have zz:=aI @t4 (aI @t5 (aI @g1 (aI @g2 (aI @q1 @q2)))); repeat' (first | apply w_seq | apply w_ops0 | apply w_ret | apply a_n | apply o_nil | refine vY ?_ | refine stY ?_ | refine e_ends rfl ?_ | refine r1Y ?_ | fail)) <;> (try clear zz)
    refine snap_agg (snapL_cons (.int _ _) (snapL_cons (.int _ _) (snapL_cons (.int _ _) (snapL_cons ?_ snapL_nil))))
    exact snap_rowC (hrow.same fun b hb'=>hupd_ne (by have:=hb b hb'; omega))
  (have zz:=aI @t1 (aI @t2 (aI @t4 @t5)); repeat' (first | apply w_seq | apply w_ops0 | apply w_block | apply a_n | apply o_nil | refine vY ?_ | apply w_loop | fail)) <;> (try clear zz)
  refine loopI (X:=AV × Nat) (fun x=>[(1,encV p),(2,.ptr 0 4 0),(4,.ptr 1 4 0),(5,.ptr 2 4 0),(6,.int .i64 x.2)]) (fun x H nx=>x.2 ≤ t.cases.length∧3 ≤ nx∧H 0=some A∧H 1=some [.int .i64 0,.int .i64 0,.int .i64 0,.esl]∧H 2=some [.int .i64 t.n,.int .i64 t.ins,.int .i64 t.outs,x.1]∧Row H 3 x.1 ((sortG KC ((t.cases.take x.2).map (renC p))).c3 encC)∧(∀ b,rowB x.1=some b→3 ≤ b∧b < nx)∧(x.2=0→x.1=.esl)) (fun x=>t.cases.length - x.2) (.esl,0) ⟨Nat.zero_le _,Nat.le_refl _,g0,g1,g2,Row.nil,fun b hb=>(by cases hb),fun _=>rfl⟩ (have zz:=aI @t1 (aI @t2 (aI @t4 @t5)); agZ) ?_
  clear t1 t2 t4 t5 g0 g1 g2
  rintro ⟨sv,i⟩ H nx ⟨hi,hnx,g0,g1,g2,hrow,hb,hz⟩
  dsimp only at hi g2 hrow hb hz ⊢
  have hA3:A[3]?=some (encCs t.cases):=by subst hA; rfl
  have hAl:A.length=4:=by subst hA; rfl
  by_cases hi2:i < t.cases.length
  rotate_left
  · rw [List.take_of_length_le (by omega)] at hrow
    (have zz:=aI @g0 (aI @hA3 (aI @hAl @alenS_encCs)); repeat' (first | apply w_seq | apply w_ops0 | apply w_exit | apply a_n | apply a_x | apply o_nil | refine vY ?_ | (refine cdY ?_ ?_ <;> (intro _hg; (try simp only [ZB] at _hg); try first | exact absurd trivial _hg | (exfalso; omega))) | fail)) <;> (try clear zz)
    exact ⟨rfl,rfl,hnx,g1,sv,g2,hrow,fun b hb'=>(hb b hb').1⟩
  refine w_seqC (fun T' H' nx'=>T' 1=encV p∧T' 2=.ptr 0 4 0∧T' 4=.ptr 1 4 0∧T' 5=.ptr 2 4 0∧T' 6=.int .i64 i∧H=H'∧nx=nx') ?_ ?_
  · (have zz:=aI @g0 (aI @hA3 (aI @hAl @alenS_encCs)); repeat' (first | apply w_seq | apply w_ops0 | apply w_skip | apply a_n | apply o_nil | refine vY ?_ | (refine cdY ?_ ?_ <;> (intro _hg; (try simp only [ZB] at _hg); try first | exact absurd trivial _hg | (exfalso; omega))) | fail)) <;> (try clear zz)
    exact ⟨rfl,rfl,rfl,rfl,rfl,rfl,rfl⟩
  rintro T _ _ ⟨t1,t2,t4,t5,t6,rfl,rfl⟩
  refine w_seq ?_
  refine w_block ?_
  have ix:=aixS_encCs hi2
  obtain ⟨r1,r2,r3⟩:=hren i hi2
  obtain ⟨q1,q2⟩:=hq _ (mem_getD hi2)
  have hst:sortG KC ((t.cases.take (i + 1)).map (renC p))=insG KC (sortG KC ((t.cases.take i).map (renC p))) (renC p (t.cases.getD i default)):=by
    rw [take_succ' hi2,List.map_append]
    exact sortG_snoc _ _
  generalize t.cases.getD i default=c at *
  obtain ⟨inp,out,calm⟩:=c
  dsimp only at *
  have m1:=movedR_c inp p hp r1
  have m2:=movedAllR out p hp q1 r2
  have m3:=movedAllR calm p hp q2 r3
  have hml:(moveV inp p).length ≤ 17592186044416:=by rw [moveV_len]; omega
  have hx:(encC (renC p ⟨inp,out,calm⟩)).cells=[encV (moveV inp p),encVV (movedV out p),encVV (movedV calm p)]:=rfl
  have hxi:(renC p ⟨inp,out,calm⟩).inp=moveV inp p:=rfl
  have hClen:(sortG KC ((t.cases.take i).map (renC p))).length=i:=by rw [sortG_len,List.length_map,List.length_take]; omega
  have hCs:∀ c ∈ sortG KC ((t.cases.take i).map (renC p)),c.inp.length=p.length:=fun c hc=>by
    obtain ⟨c0,hc0,rfl⟩:=List.mem_map.1 ((sortG_perm _).mem_iff.1 hc)
    obtain ⟨j,hj,rfl⟩:=List.getElem_of_mem (List.mem_of_mem_take hc0)
    have:=(hren j hj).1
    rw [show t.cases.getD j default=t.cases[j] by simp [List.getD,hj]] at this
    show (moveV _ p).length=_
    rw [moveV_len,this]
  generalize renC p ⟨inp,out,calm⟩=x at *
  generalize sortG KC ((t.cases.take i).map (renC p))=C at *
  have hlS:alenS sv=some (.int .i64 i):=hrow.lenS (by rw [c3_len (fun _=>rfl),hClen]) (by omega)
  refine w_seqC (fun T' H' nx'=>T' 1=encV p∧T' 2=.ptr 0 4 0∧T' 4=.ptr 1 4 0∧T' 5=.ptr 2 4 0∧T' 6=.int .i64 i∧T' 7=.ptr nx 3 0∧H'=hupd H nx [encV inp,encVV out,encVV calm]∧nx'=nx + 1) ?_ ?_
  · (have zz:=aI @t1 (aI @t2 (aI @t4 (aI @t5 (aI @t6 (aI @g0 (aI @hA3 (aI @hAl @ix))))))); repeat' (first | apply w_ops0 | apply a_n | apply o_nil | refine vY ?_ | refine alY ?_ | refine stY ?_ | fail)) <;> (try clear zz)
    exact ⟨(have zz:=@t1; evY),(have zz:=@t2; evY),(have zz:=@t4; evY),(have zz:=@t5; evY),(have zz:=@t6; evY),ev0,by rw [hupd_two]; rfl,rfl⟩
  clear t1 t2 t4 t5 t6
  rintro T _ _ ⟨t1,t2,t4,t5,t6,t7,rfl,rfl⟩
  refine w_seqC (fun T' H' nx'=>T' 1=encV p∧T' 2=.ptr 0 4 0∧T' 4=.ptr 1 4 0∧T' 5=.ptr 2 4 0∧T' 6=.int .i64 i∧T' 8=.ptr (nx + 1) 3 0∧H'=hupd (hupd H nx [encV inp,encVV out,encVV calm]) (nx + 1) [encV (moveV inp p),encVV (movedV out p),encVV (movedV calm p)]∧nx'=nx + 2) ?_ ?_
  · (have zz:=aI @t1 (aI @t2 (aI @t4 (aI @t5 (aI @t6 @t7)))); repeat' (first | apply w_ops1 | apply a_n | apply o_nil | refine vY ?_ | refine cY ?_ (hp:=by first | exact m1 | exact m2 | exact m3) | refine alY ?_ | refine stY ?_ | fail)) <;> (try clear zz)
    exact ⟨(have zz:=@t1; evY),(have zz:=@t2; evY),(have zz:=@t4; evY),(have zz:=@t5; evY),(have zz:=@t6; evY),ev0,by rw [hupd_two]; rfl,rfl⟩
  clear t1 t2 t4 t5 t6 t7
  rintro T H' _ ⟨t1,t2,t4,t5,t6,t8,hH',rfl⟩
  have e0:∀ b,b < nx→H' b=H b:=fun b hb=>by rw [hH',hupd_ne (by omega),hupd_ne (by omega)]
  have g0':H' 0=some A:=(e0 0 (by omega)).trans g0
  have g1':=(e0 1 (by omega)).trans g1
  have g2':=(e0 2 (by omega)).trans g2
  have g8:H' (nx + 1)=some [encV (moveV inp p),encVV (movedV out p),encVV (movedV calm p)]:=by rw [hH',hupd_self']
  have hrow':Row H' 3 sv (C.c3 encC):=hrow.same fun b hb'=>e0 b (hb b hb').2
  clear hH' g0 g1 g2 hrow e0
  refine w_seqC (fun T' H'' nx'=>T' 1=encV p∧T' 2=.ptr 0 4 0∧T' 4=.ptr 1 4 0∧T' 5=.ptr 2 4 0∧T' 6=.int .i64 i∧T' 8=.ptr (nx + 1) 3 0∧T' 9=.int .i64 i∧H'=H''∧nx'=nx + 2) ?_ ?_
  · (have zz:=aI @t5 (aI @g2' @hlS); repeat' (first | apply w_ops0 | apply a_n | apply o_nil | refine vY ?_ | fail)) <;> (try clear zz)
    exact ⟨(have zz:=@t1; evY),(have zz:=@t2; evY),(have zz:=@t4; evY),(have zz:=@t5; evY),(have zz:=@t6; evY),(have zz:=@t8; evY),ev0,rfl,rfl⟩
  clear t1 t2 t4 t5 t6 t8
  rintro T _ _ ⟨t1,t2,t4,t5,t6,t8,t9,rfl,rfl⟩
  refine w_seqC (fun T' H'' nx'=>T' 1=encV p∧T' 2=.ptr 0 4 0∧T' 4=.ptr 1 4 0∧T' 5=.ptr 2 4 0∧T' 6=.int .i64 i∧T' 8=.ptr (nx + 1) 3 0∧T' 9=.int .i64 (insK KC C x C.length:Nat)∧H'=H''∧nx'=nx + 2) ?_ ?_
  · (have zz:=and_self; repeat' (first | apply w_block | apply w_loop | fail)) <;> (try clear zz)
    refine loop0 (X:=Nat) (fun k=>[(1,encV p),(2,.ptr 0 4 0),(4,.ptr 1 4 0),(5,.ptr 2 4 0),(6,.int .i64 i),(8,.ptr (nx + 1) 3 0),(9,.int .i64 (k:Nat))]) (fun k=>k ≤ i∧insK KC C x C.length=insK KC C x k) (fun k=>k) i ⟨Nat.le_refl _,by rw [hClen]⟩ (have zz:=aI @t1 (aI @t2 (aI @t4 (aI @t5 (aI @t6 (aI @t8 @t9))))); agZ) ?_
    rintro k ⟨hk,hek⟩
    rcases Nat.eq_zero_or_pos k with h0 | h0
    · subst h0
      (have zz:=(show ((0:Nat):Int)=0 from rfl); repeat' (first | apply w_seq | apply w_mixS1 | apply w_exit | apply a_n | apply a_x | apply o_nil | refine vY ?_ | refine gFY ?_ | (refine gBY ?_ ?_ <;> (intro _hg; (try simp only [ZB] at _hg); try first | exact absurd trivial _hg | (exfalso; omega))) | refine cFY ?_ | fail)) <;> (try clear zz)
      exact ⟨rfl,rfl,rfl,rfl,rfl,rfl,by rw [hek]; rfl,rfl,rfl⟩
    · obtain ⟨q,rfl⟩:∃ q,k=q + 1:=⟨k - 1,by omega⟩
      have hi0:0 < i:=by omega
      obtain ⟨B,rfl,hB,hB3,hBn⟩:∃ B,sv=.msl B (i * 3) 3 0 i∧H' B=some (C.c3 encC)∧3 ≤ B∧B < nx:=by
        generalize hcs:C.c3 encC=cs at hrow'
        have hcl3:(C.c3 encC).length=C.length * 3:=c3_len (fun _=>rfl) C
        cases hrow' with
        | nil=>rw [hcs] at hcl3; simp at hcl3; omega
        | box B len cs h1 h2 =>
          have e:len=i:=by rw [← hcs,hcl3] at h2; omega
          subst e
          exact ⟨B,rfl,h1,hb B rfl⟩
      have tq:((q + 1:Nat):Int) - 1=(q:Int):=by omega
      have hcl3:(C.c3 encC).length=i * 3:=by rw [c3_len (fun _=>rfl),hClen]
      have hld:=c3_inp (C:=C) (q:=q) (by omega)
      have hCq:(C.getD q default).inp.length ≤ 17592186044416:=by rw [hCs _ (mem_getD (by omega))]; omega
      have hO:=orderR (moveV inp p) (C.getD q default).inp hml hCq
      have hst2:insK KC C x (q + 1)=if KC x (C.getD q default) < 0 then insK KC C x q else q + 1:=rfl
      have hKC:KC x (C.getD q default)=order (moveV inp p) (C.getD q default).inp:=by unfold KC; rw [hxi]
      rw [hKC] at hst2
      have zp:decide ((0:Int) < ((q + 1:Nat):Int))=true:=decide_eq_true (by omega)
      by_cases ho:order (moveV inp p) (C.getD q default).inp < 0
      · rw [if_pos ho] at hst2
        have z:decide (order (moveV inp p) (C.getD q default).inp < 0)=true:=decide_eq_true ho
        (have zz:=aI @tq (aI @Int.toNat_natCast (aI @z (aI @zp (aI @g8 (aI @g2' (aI @hB (aI @hcl3 @hld))))))); repeat' (first | apply w_seq | apply w_ops0 | apply w_mixS1 | apply w_block | apply w_skip | apply a_n | apply o_nil | refine vY ?_ | refine cY ?_ (hp:=hO) | refine gTY ?_ | refine cTY ?_ | fail)) <;> (try clear zz)
        exact ⟨q,⟨by omega,hek.trans hst2⟩,by omega,(have zz:=@tq; agZ),rfl,rfl⟩
      · rw [if_neg ho] at hst2
        have z:decide (order (moveV inp p) (C.getD q default).inp < 0)=false:=decide_eq_false ho
        (have zz:=aI @tq (aI @Int.toNat_natCast (aI @z (aI @zp (aI @g8 (aI @g2' (aI @hB (aI @hcl3 @hld))))))); repeat' (first | apply w_seq | apply w_mixS1 | apply w_exit | apply a_n | apply a_x | apply o_nil | refine vY ?_ | refine cY ?_ (hp:=hO) | refine gTY ?_ | refine cFY ?_ | fail)) <;> (try clear zz)
        exact ⟨rfl,rfl,rfl,rfl,rfl,rfl,by rw [hek,hst2]; ((try simp only [simB0,ZA,reduceEqDiff,↓reduceIte,reduceAdd,reduceLeDiff]); (try with_reducible rfl)),rfl,rfl⟩
  clear t1 t2 t4 t5 t6 t8 t9
  rintro T _ _ ⟨t1,t2,t4,t5,t6,t8,t9,rfl,rfl⟩
  have hkC:insK KC C x C.length ≤ i:=hClen ▸ insK_le C x C.length
  have hins:(insG KC C x).c3 encC=(C.take (insK KC C x C.length)).c3 encC ++ [encV (moveV inp p),encVV (movedV out p),encVV (movedV calm p)] ++ (C.drop (insK KC C x C.length)).c3 encC:=by
    unfold insG
    rw [c3_app,List.append_assoc]
    congr 1
    show (encC x).cells ++ (C.drop _).c3 encC=_
    rw [hx]
  have hinsl:(insG KC C x).length=i + 1:=by rw [insG_len,hClen]
  generalize insK KC C x C.length=k at *
  rcases Nat.eq_zero_or_pos i with h0 | h0
  · obtain rfl:sv=.esl:=hz h0
    subst h0
    obtain rfl:k=0:=by omega
    obtain rfl:C=[]:=List.length_eq_zero_iff.1 hClen
    have s1:asls 3 .esl (some (.int .i64 0)) none none=some .esl:=rfl
    have s2:asls 3 .esl none (some (.int .i64 0)) none=some .esl:=rfl
    rw [show ((0:Nat):Int)=0 from rfl] at t9
    (have zz:=aI @t5 (aI @t9 (aI @t8 (aI @g2' (aI @g8 (aI @s1 @s2))))); repeat' (first | apply w_seq | apply w_ops0 | apply w_ops1 | apply a_n | apply o_nil | refine vY ?_ | refine b0Y ?_ | refine blY ?_ | refine a0Y ?_ | fail)) <;> (try clear zz)
    have hnil:hupd (hupd H' (nx + 2) []) (nx + 2 + 1) [encV (moveV inp p),encVV (movedV out p),encVV (movedV calm p)] (nx + 2)=some []:=by rw [hupd_ne (by omega),hupd_self']
    refine e_app0 rfl ev0 ev0 asrc_three rfl (by omega) (by omega) ?_
    (have zz:=aI @t5 (aI @t9 (aI @t8 (aI @g2' @g8))); repeat' (first | refine vY ?_ | fail)) <;> (try clear zz)
    refine e_appG (b:=nx + 2 + 1 + 1) (m:=1 * 3) (len:=1) (n:=0) (new:=[]) rfl ev0 (by rw [hupd_self']) ev0 (asrc_msl (cs:=[]) (by rw [hupd_ne (by omega)]; exact hnil) rfl (by omega)) rfl rfl (by omega) (.inl (by omega)) (by omega) (by omega) ?_
    (have zz:=aI @t5 (aI @t6 @g2'); repeat' (first | apply w_ops0 | apply a_n | apply o_nil | refine vY ?_ | refine stY ?_ | fail)) <;> (try clear zz)
    refine ⟨(.msl (nx + 2 + 1 + 1) ((1 + 0) * 3) 3 0 (1 + 0),1),by dsimp only; omega,⟨by dsimp only; omega,by omega,?_,?_,?_,?_,fun b hb'=>?_,fun h=>absurd h (by dsimp only; omega)⟩,by simp (disch:=omega) only [agr,ZG,reduceEqDiff,↓reduceIte,t1,t2,t4,t5,t6,Int.zero_add]⟩
    · rw [hupd_ne (by omega),hupd_ne (by omega),hupd_ne (by omega),hupd_ne (by omega),hupd_ne (by omega),g0']
    · rw [hupd_ne (by omega),hupd_ne (by omega),hupd_ne (by omega),hupd_ne (by omega),hupd_ne (by omega),g1']
    · rw [hupd_self']; rfl
    · dsimp only
      rw [hst,hins]
      refine .box _ 1 _ ?_ rfl
      rw [hupd_ne (by omega),hupd_self']; rfl
    · dsimp only [rowB] at hb'
      cases hb'
      omega
  · have hi0:0 < i:=h0
    obtain ⟨B,rfl,hB,hB3,hBn⟩:∃ B,sv=.msl B (i * 3) 3 0 i∧H' B=some (C.c3 encC)∧3 ≤ B∧B < nx:=by
      generalize hcs:C.c3 encC=cs at hrow'
      have hcl3:(C.c3 encC).length=C.length * 3:=c3_len (fun _=>rfl) C
      cases hrow' with
      | nil=>rw [hcs] at hcl3; simp at hcl3; omega
      | box B len cs h1 h2 =>
        have e:len=i:=by rw [← hcs,hcl3] at h2; omega
        subst e
        exact ⟨B,rfl,h1,hb B rfl⟩
    have s2:=sls3_hi (b:=B) hkC hi0
    have hcl3:(C.c3 encC).length=i * 3:=by rw [c3_len (fun _=>rfl),hClen]
    by_cases hki:k=i
    · subst hki
      have s1:=sls3_end (b:=B) hi0
      (have zz:=aI @t5 (aI @t9 (aI @t8 (aI @g2' (aI @g8 (aI @s1 @s2))))); repeat' (first | apply w_seq | apply w_ops0 | refine vY ?_ | refine b0Y ?_ | fail)) <;> (try clear zz)
      refine e_app0 (n:=0) (new:=[]) rfl ev0 ev0 rfl rfl (by omega) (by omega) ?_
      (have zz:=aI @t5 (aI @t9 (aI @t8 (aI @g2' (aI @g8 (aI @s1 @s2))))); repeat' (first | apply w_ops1 | apply a_n | apply o_nil | refine vY ?_ | refine blY ?_ | fail)) <;> (try clear zz)
      refine e_appG (b:=B) (m:=k * 3) (len:=k) (n:=1) (cs:=C.c3 encC) rfl ev0 (by rw [hupd_ne (by omega),hupd_ne (by omega)]; exact hB) ev0 asrc_three rfl hcl3 (Nat.le_refl _) (.inl rfl) (by omega) (by omega) ?_
      (have zz:=aI @t5 (aI @t9 (aI @t8 (aI @g2' @g8))); repeat' (first | refine vY ?_ | fail)) <;> (try clear zz)
      refine e_appG (b:=B) (m:=(k + 1) * 3) (len:=k + 1) (n:=0) (new:=[]) rfl ev0 (by rw [hupd_self']) ev0 (asrc_msl (cs:=[]) (by rw [hupd_ne (by omega),hupd_ne (by omega),hupd_self']) rfl (by omega)) rfl (by simp [hcl3]; omega) (Nat.le_refl _) (.inl rfl) (by omega) (by omega) ?_
      (have zz:=aI @t5 (aI @t6 @g2'); repeat' (first | apply w_ops0 | apply a_n | apply o_nil | refine vY ?_ | refine stY ?_ | fail)) <;> (try clear zz)
      refine ⟨(.msl B ((k + 1 + 0) * 3) 3 0 (k + 1 + 0),k + 1),by dsimp only; omega,⟨by dsimp only; omega,by omega,?_,?_,?_,?_,fun b hb'=>?_,fun h=>absurd h (by dsimp only; omega)⟩,(have zz:=aI @t1 (aI @t2 (aI @t4 (aI @t5 @t6))); agZ)⟩
      · rw [hupd_ne (by omega),hupd_ne (by omega),hupd_ne (by omega),hupd_ne (by omega),hupd_ne (by omega),g0']
      · rw [hupd_ne (by omega),hupd_ne (by omega),hupd_ne (by omega),hupd_ne (by omega),hupd_ne (by omega),g1']
      · rw [hupd_self']; rfl
      · dsimp only
        rw [hst]
        refine .box _ _ _ ?_ (by rw [c3_len (fun _=>rfl),hinsl])
        rw [hupd_ne (by omega),hupd_self',hins]
        rw [c3_take (fun _=>rfl),List.take_of_length_le (show C.length ≤ k by omega),List.drop_eq_nil_of_le (show C.length ≤ k by omega),List.append_nil,List.take_of_length_le (by rw [List.length_append,hcl3]; simp; omega)]
        simp [List.c3]
      · dsimp only [rowB] at hb'
        cases hb'
        omega
    · have s1:=sls3_lo (b:=B) (j:=i) (k:=k) (by omega)
      have hrest:(((C.c3 encC).drop (k * 3)).take ((i - k) * 3))=(C.drop k).c3 encC:=by
        rw [c3_drop (fun _=>rfl),List.take_of_length_le (by rw [c3_len (fun _=>rfl),List.length_drop]; omega)]
      have hrl:((C.drop k).c3 encC).length=(i - k) * 3:=by rw [c3_len (fun _=>rfl),List.length_drop]; omega
      (have zz:=aI @t5 (aI @t9 (aI @t8 (aI @g2' (aI @g8 (aI @s1 @s2))))); repeat' (first | apply w_seq | apply w_ops0 | refine vY ?_ | refine b0Y ?_ | fail)) <;> (try clear zz)
      refine e_app0 (n:=i - k) (new:=(C.drop k).c3 encC) rfl ev0 ev0 (by rw [asrc_msl hB hcl3 (by omega),hrest]) (c3_ones _) (by omega) (by omega) ?_
      (have zz:=aI @t5 (aI @t9 (aI @t8 (aI @g2' (aI @g8 (aI @s1 @s2))))); repeat' (first | apply w_ops1 | apply a_n | apply o_nil | refine vY ?_ | refine blY ?_ | fail)) <;> (try clear zz)
      refine e_appI (b:=B) (m:=i * 3) (off:=0) (len:=k) (n:=1) (cs:=C.c3 encC) rfl ev0 (by rw [hupd_ne (by omega),hupd_ne (by omega)]; exact hB) ev0 asrc_three rfl hcl3 (fun _=>by omega) (by omega) (by omega) ?_
      (have zz:=aI @t5 (aI @t9 (aI @t8 (aI @g2' @g8))); repeat' (first | refine vY ?_ | fail)) <;> (try clear zz)
      refine e_appG (b:=B) (m:=i * 3) (len:=k + 1) (n:=i - k) (new:=(C.drop k).c3 encC) rfl ev0 (by rw [hupd_self']) ev0 (by rw [asrc_msl (cs:=(C.drop k).c3 encC) (by rw [hupd_ne (by omega),hupd_ne (by omega),hupd_self']) hrl (by omega),List.drop_zero,List.take_of_length_le (by omega)]) (c3_ones _) (by rw [lput_length (by rw [hcl3]; simp; omega),hcl3]) (by omega) (.inr (by omega)) (by omega) (by omega) ?_
      (have zz:=aI @t5 (aI @t6 @g2'); repeat' (first | apply w_ops0 | apply a_n | apply o_nil | refine vY ?_ | refine stY ?_ | fail)) <;> (try clear zz)
      refine ⟨(.msl B ((k + (1 + (i - k))) * 3) 3 0 (k + (1 + (i - k))),i + 1),by dsimp only; omega,⟨by dsimp only; omega,by omega,?_,?_,?_,?_,fun b hb'=>?_,fun h=>absurd h (by dsimp only; omega)⟩,(have zz:=aI @t1 (aI @t2 (aI @t4 (aI @t5 @t6))); agZ)⟩
      · rw [hupd_ne (by omega),hupd_ne (by omega),hupd_ne (by omega),hupd_ne (by omega),hupd_ne (by omega),g0']
      · rw [hupd_ne (by omega),hupd_ne (by omega),hupd_ne (by omega),hupd_ne (by omega),hupd_ne (by omega),g1']
      · rw [hupd_self']; rfl
      · dsimp only
        rw [hst]
        refine .box _ _ _ ?_ (by rw [c3_len (fun _=>rfl),hinsl]; omega)
        rw [hupd_ne (by omega),hupd_self',hins]
        rw [Nat.zero_add,show (k + 1) * 3=k * 3 + 3 by omega,lput_part (by omega) rfl,c3_take (fun _=>rfl)]
      · dsimp only [rowB] at hb'
        cases hb'
        omega
end Go.Proofs.YtbiikomnhkbblaaGreat
namespace Go.Proofs.YtbiikomnhkbblaaGreat
open Go Go.Abs
open Nat (reduceEqDiff reduceAdd reduceLeDiff)
attribute [local irreducible] awp2 aops2 ains aloop athen bbind obind gbind acond res1 Go.Abs.Fn PCall Go.Abs.Pure SnapArgs SnapL Yl
theorem lens_ok {t:TaskV} {p:List Int} (he:checkE t=0) (hn:(p.length:Int)=t.n):∀ k,k < t.cases.length→(t.cases.getD k default).inp.length=p.length∧(∀ v ∈ (t.cases.getD k default).out,v.length=p.length)∧(∀ v ∈ (t.cases.getD k default).calm,v.length=p.length):=fun k hk=>by
  have h1:=inp_len he hk
  obtain ⟨_,h2,h3⟩:=case_vecs he hk
  exact ⟨by omega,fun v hv=>by have:=(h2 v hv).1; omega,fun v hv=>by have:=(h2 v (h3 v hv)).1; omega⟩
theorem permuteR (t:TaskV) (p:List Int) (hs:∀ c ∈ t.cases,ShC c) (hsc:Sh t.cases) (hq:∀ c ∈ t.cases,c.out.length ≤ 100000∧c.calm.length ≤ 100000) (hl:Sh p):Pure Tryz.prog 27 [encT t,encV p] (.tup [encT (permuteT t p).1,.int .i64 (permuteT t p).2]):=by
  refine Pure.of_c2 follows is27 (Nat.le_of_ble_eq_true rfl) ?_
  simp only [b27,cO,cG,cN,cM,cD,cF,cB,cFal,cTru]
  have hl':p.length ≤ 17592186044416:=hl
  have hsc':t.cases.length ≤ 17592186044416:=hsc
  have hc:=checkR t hs hsc
  have hpc:=permCheckR p hl
  have d2:=encT_dat t
  by_cases he:checkE t=0
  rotate_left
  · have e:permuteT t p=(T00,checkE t):=by unfold permuteT; rw [if_pos he]
    rw [e]
    generalize checkE t=C at *
    unfold encT at hc d2
    rw [show encT t=.agg [.int .i64 t.n,.int .i64 t.ins,.int .i64 t.outs,encCs t.cases] from rfl]
    (have zz:=aI @encCs_one (aI @encCs_cells @alenS_encCs); repeat' (first | apply w_seq | apply w_ops0 | apply w_ret | apply a_n | apply a_r | apply o_nil | refine vZ ?_ | refine cZ ?_ (hp:=hc) | refine alZ ?_ | refine bxZ ?_ | refine stZ ?_ | (refine cdZ ?_ ?_ <;> (intro _hg; (try simp only [ZB] at _hg); try first | exact absurd trivial _hg | (exfalso; omega))) | refine e_ends rfl ?_ | refine r2Z ?_ | fail)) <;> (try clear zz)
    exact snapErr _
  rw [he] at hc
  by_cases hp:permE p=0
  rotate_left
  · have e:permuteT t p=(T00,permE p):=by unfold permuteT; rw [if_neg (fun h=>h he),if_pos hp]
    rw [e]
    generalize permE p=C at *
    unfold encT at hc d2
    rw [show encT t=.agg [.int .i64 t.n,.int .i64 t.ins,.int .i64 t.outs,encCs t.cases] from rfl]
    (have zz:=aI @encCs_one (aI @encCs_cells @alenS_encCs); repeat' (first | apply w_seq | apply w_ops0 | apply w_skip | apply w_ret | apply a_n | apply a_r | apply o_nil | refine vZ ?_ | refine cZ ?_ (hp:=by first | exact hc | exact hpc) | refine alZ ?_ | refine bxZ ?_ | refine stZ ?_ | (refine cdZ ?_ ?_ <;> (intro _hg; (try simp only [ZB] at _hg); try first | exact absurd trivial _hg | (exfalso; omega))) | refine e_ends rfl ?_ | refine r2Z ?_ | fail)) <;> (try clear zz)
    exact snapErr _
  rw [hp] at hpc
  by_cases hn:(p.length:Int) ≠ t.n
  · have e:permuteT t p=(T00,22):=by unfold permuteT; rw [if_neg (fun h=>h he),if_neg (fun h=>h hp),if_pos hn]
    rw [e]
    have z:decide ((p.length:Int)=t.n)=false:=decide_eq_false hn
    unfold encT at hc d2
    rw [show encT t=.agg [.int .i64 t.n,.int .i64 t.ins,.int .i64 t.outs,encCs t.cases] from rfl]
    (have zz:=aI @encCs_one (aI @encCs_cells (aI @alenS_encCs @z)); repeat' (first | apply w_seq | apply w_ops0 | apply w_skip | apply w_ret | apply a_n | apply a_r | apply o_nil | refine vZ ?_ | refine cZ ?_ (hp:=by first | exact hc | exact hpc) | refine alZ ?_ | refine bxZ ?_ | refine stZ ?_ | (refine cdZ ?_ ?_ <;> (intro _hg; (try simp only [ZB] at _hg); try first | exact absurd trivial _hg | (exfalso; omega))) | refine e_ends rfl ?_ | refine r2Z ?_ | fail)) <;> (try clear zz)
    exact snapErr _
  have e:permuteT t p=(renT t p,0):=by unfold permuteT; rw [if_neg (fun h=>h he),if_neg (fun h=>h hp),if_neg hn]
  rw [e]
  have hn:(p.length:Int)=t.n:=Decidable.of_not_not hn
  have z:decide ((p.length:Int)=t.n)=true:=decide_eq_true hn
  have hcl:=(check_parts he).2.1
  have hr:=renamedR t p hp (lens_ok he hn) (by omega) hq
  have hro:∀ l,(encT (renT t p)).cells=l→l=[.int .i64 (renT t p).n,.int .i64 (renT t p).ins,.int .i64 (renT t p).outs,encCs (renT t p).cases]:=fun l h=>by rw [← h]; rfl
  generalize renT t p=R at *
  unfold encT at hc d2 hr
  rw [show encT t=.agg [.int .i64 t.n,.int .i64 t.ins,.int .i64 t.outs,encCs t.cases] from rfl]
  (have zz:=aI @encCs_one (aI @encCs_cells (aI @alenS_encCs (aI @z @encT_cells))); repeat' (first | apply w_seq | apply w_ops0 | apply w_skip | apply w_ret | apply a_n | apply o_nil | refine vZ ?_ | refine cZ ?_ (hp:=by first | exact hc | exact hpc | exact hr) | refine alZ ?_ | refine bxZ ?_ | refine stZ ?_ | (refine cdZ ?_ ?_ <;> (intro _hg; (try simp only [ZB] at _hg); try first | exact absurd trivial _hg | (exfalso; omega))) | refine e_ends rfl ?_ | refine r2Z ?_ | fail)) <;> (try clear zz)
  exact encTE_dat R 0 _
def constB (v:List Int):Bool:=v.all fun x=>decide (x=v.getD 0 default)
theorem constB_iff {v:List Int}:constB v=true ↔ ∀ i,i < v.length→v.getD i default=v.getD 0 default:=by
  unfold constB
  rw [List.all_eq_true]
  constructor
  · intro h i hi
    exact of_decide_eq_true (h _ (mem_getD hi))
  · intro h x hx
    obtain ⟨i,hi,rfl⟩:=List.getElem_of_mem hx
    have:=h i hi
    rw [show v.getD i default=v[i] by simp [List.getD,hi]] at this
    exact decide_eq_true this
def agreeB (t:TaskV):Bool:=t.cases.all fun c=>c.out.all constB
def agreementT (t:TaskV):Bool × Int:=if checkE t ≠ 0 then (false,checkE t) else (agreeB t,0)
theorem constant1_c (x:Int) (v:List Int) (h0:0 < v.length):Pure Tryz.prog 94 [.int .i64 x,.iptr [encV v] 0] (.bool (!decide (x=v.getD 0 default))):=by
  refine Pure.of_c2 follows is94 (Nat.le_of_ble_eq_true rfl) ?_
  simp only [b94,cO,cG,cN,cM,cD,cF,cB,cFal,cTru]
  (have zz:=@Int.toNat_zero; repeat' (first | apply w_seq | apply w_ops0 | apply w_ret | apply a_n | apply o_nil | refine vZ ?_ | refine e_ends rfl ?_ | refine r1Z ?_ | fail)) <;> (try clear zz)
  refine snap_bool ?_
  by_cases h:x=v.getD 0 default
  · rw [decide_eq_false (fun k=>k h),decide_eq_true h]; rfl
  · rw [decide_eq_true h,decide_eq_false h]; rfl
theorem any_not {v:List Int} {p:Int→Bool}:(v.any fun x=>!p x)=!(v.all p):=by
  induction v with
  | nil=>rfl
  | cons a l ih=>rw [List.any_cons,List.all_cons,ih,Bool.not_and]
theorem constant_c (v:List Int) (hv:Sh v):Pure Tryz.prog 70 [encV v] (.bool (constB v)):=by
  refine Pure.of_c2 follows is70 (Nat.le_of_ble_eq_true rfl) ?_
  simp only [b70,cO,cG,cN,cM,cD,cF,cB,cFal,cTru]
  have hA:=containsF_c v (fun x=>!decide (x=v.getD 0 default)) 94 [.iptr [encV v] 0] (fun x hx=>by
    simp only [List.mem_singleton] at hx; subst hx
    exact .iptr (DatL.cons (encV_dat _) DatL.nil)) (fun x hx=>constant1_c x v (List.length_pos_iff.2 (List.ne_nil_of_mem hx))) hv
  rw [any_not] at hA
  (have zz:=and_self; repeat' (first | apply w_seq | apply w_ops0 | apply a_n | apply o_nil | refine vZ ?_ | refine bxZ ?_ | fail)) <;> (try clear zz)
  refine o_callP ev0 ev0 hA (snap_plain (by (repeat' (first | exact snapL_nil | exact Dat.snap Dat.int | exact Dat.snap Dat.bool | exact Dat.snap Dat.str | exact Dat.snap Dat.esl | exact Dat.snap Dat.nilf | exact Dat.snap (encV_dat _) | exact Dat.snap (encVV_dat _) | apply snapL_cons | apply snap_func | apply snap_iptr | (apply snap_ptr; (focus ((try simp only [simB0,ZA,reduceEqDiff,↓reduceIte,reduceAdd,reduceLeDiff]); with_reducible rfl)); (focus rfl))))) rfl) ?_
  (have zz:=and_self; repeat' (first | apply w_ret | apply a_n | apply o_nil | refine vZ ?_ | refine e_ends rfl ?_ | refine r1Z ?_ | fail)) <;> (try clear zz)
  refine snap_bool ?_
  rw [Bool.not_not]; rfl
theorem constantR (v:List Int) (hv:Sh v):Pure Tryz.prog 95 [encV v] (.bool (constB v)):=by
  have hv':v.length ≤ 17592186044416:=hv
  refine Pure.of_c2 follows is95 (Nat.le_of_ble_eq_true rfl) ?_
  simp only [b95,cO,cG,cN,cM,cD,cF,cB,cFal,cTru]
  (have zz:=and_self; repeat' (first | apply w_seq | apply w_ops0 | apply w_block | apply a_n | apply o_nil | refine vZ ?_ | apply w_loop | fail)) <;> (try clear zz)
  refine loopA (fun k=>[(0,encV v),(3,.int .i64 k)]) v.length (fun k=>v.getD k default=v.getD 0 default) ag0 ?_
  intro k hk hz
  by_cases hk2:k < v.length
  rotate_left
  · (have zz:=and_self; repeat' (first | apply w_seq | apply w_ops0 | apply w_exit | apply w_ret | apply a_n | apply a_x | apply o_nil | refine vZ ?_ | (refine cdZ ?_ ?_ <;> (intro _hg; (try simp only [ZB] at _hg); try first | exact absurd trivial _hg | (exfalso; omega))) | refine e_ends rfl ?_ | refine r1Z ?_ | fail)) <;> (try clear zz)
    refine snap_bool ?_
    symm; rw [constB_iff]
    exact fun i hi=>hz i (by omega)
  by_cases hx:v.getD k default=v.getD 0 default
  · (have zz:=aI @Int.toNat_zero @hx; repeat' (first | apply w_seq | apply w_ops0 | apply w_ops1 | apply w_block | apply w_skip | apply a_n | apply o_nil | refine vZ ?_ | (refine cdZ ?_ ?_ <;> (intro _hg; (try simp only [ZB] at _hg); try first | exact absurd trivial _hg | (exfalso; omega))) | fail)) <;> (try clear zz)
    all_goals exact ⟨hk2,hx,ag0,rfl,rfl⟩
  · have z:decide (v.getD k default ≠ v.getD 0 default)=true:=decide_eq_true hx
    (have zz:=aI @Int.toNat_zero @z; repeat' (first | apply w_seq | apply w_ops0 | apply w_ops1 | apply w_block | apply w_skip | apply w_ret | apply a_n | apply a_r | apply o_nil | refine vZ ?_ | refine cTZ ?_ | (refine cdZ ?_ ?_ <;> (intro _hg; (try simp only [ZB] at _hg); try first | exact absurd trivial _hg | (exfalso; omega))) | refine e_ends rfl ?_ | refine r1Z ?_ | fail)) <;> (try clear zz)
    refine snap_bool ?_
    symm; rw [Bool.eq_false_iff]
    exact fun h=>hx (constB_iff.1 h k hk2)
theorem agree_all {t:TaskV}:agreeB t=true ↔ ∀ i,i < t.cases.length→∀ j,j < (t.cases.getD i default).out.length→constB ((t.cases.getD i default).out.getD j default)=true:=by
  unfold agreeB
  rw [List.all_eq_true]
  constructor
  · intro h i hi j hj
    exact List.all_eq_true.1 (h _ (mem_getD hi)) _ (mem_getD hj)
  · intro h c hc
    obtain ⟨i,hi,rfl⟩:=List.getElem_of_mem hc
    rw [List.all_eq_true]
    intro v hv
    obtain ⟨j,hj,rfl⟩:=List.getElem_of_mem hv
    have e:t.cases.getD i default=t.cases[i]:=by simp [List.getD,hi]
    have:=h i hi j (by rw [e]; exact hj)
    rw [e] at this
    simpa [List.getD,hj] using this
theorem agreement_c (t:TaskV) (hs:∀ c ∈ t.cases,ShC c) (hsc:Sh t.cases):Pure Tryz.prog 29 [encT t] (.tup [.bool (agreementT t).1,.int .i64 (agreementT t).2]):=by
  refine Pure.of_c2 follows is29 (Nat.le_of_ble_eq_true rfl) ?_
  simp only [b29,cO,cG,cN,cM,cD,cF,cB,cFal,cTru]
  have hsc':t.cases.length ≤ 17592186044416:=hsc
  have hc:=check_c t hs hsc
  have d2:=encT_dat t
  have fin:∀ {H:Hp} (b:Bool) (e:Int),Snap H (.tup [.bool b,.int .i64 e]) (.tup [.bool b,.int .i64 e]):=fun b e=>snap_tup (snapL_cons (.bool _) (snapL_cons (.int _ _) snapL_nil))
  by_cases he:checkE t=0
  rotate_left
  · have e:agreementT t=(false,checkE t):=by unfold agreementT; rw [if_pos he]
    rw [e]
    generalize checkE t=C at *
    unfold encT at *
    (have zz:=aI @encCs_one (aI @encCs_cells @alenS_encCs); repeat' (first | apply w_seq | apply w_ops0 | apply w_ret | apply a_n | apply a_r | apply o_nil | refine vZ ?_ | refine cZ ?_ (hp:=hc) | refine bxZ ?_ | (refine cdZ ?_ ?_ <;> (intro _hg; (try simp only [ZB] at _hg); try first | exact absurd trivial _hg | (exfalso; omega))) | refine e_ends rfl ?_ | refine r2Z ?_ | fail)) <;> (try clear zz)
    exact fin _ _
  have e:agreementT t=(agreeB t,0):=by unfold agreementT; rw [if_neg (fun h=>h he)]
  rw [e]
  rw [he] at hc
  unfold encT at *
  (have zz:=aI @encCs_one (aI @encCs_cells @alenS_encCs); repeat' (first | apply w_seq | apply w_ops0 | apply w_block | apply w_skip | apply a_n | apply o_nil | refine vZ ?_ | refine cZ ?_ (hp:=hc) | refine bxZ ?_ | (refine cdZ ?_ ?_ <;> (intro _hg; (try simp only [ZB] at _hg); try first | exact absurd trivial _hg | (exfalso; omega))) | apply w_loop | fail)) <;> (try clear zz)
  refine loopI (X:=Nat) (fun k=>[(1,.ptr 0 4 0),(15,encCs t.cases),(16,.int .i64 t.cases.length),(17,.int .i64 k)]) (fun k H nx=>k ≤ t.cases.length∧∀ i,i < k→∀ j,j < (t.cases.getD i default).out.length→constB ((t.cases.getD i default).out.getD j default)=true) (fun k=>t.cases.length - k) 0 ⟨Nat.zero_le _,fun i hi=>absurd hi (by omega)⟩ (by simp (disch:=omega) only [agr,ZG,reduceEqDiff,↓reduceIte,List.length_cons,List.length_nil,Nat.zero_add,reduceAdd]) ?_
  rintro k H nx ⟨hk,hz⟩
  by_cases hk2:k < t.cases.length
  rotate_left
  · have:agreeB t=true:=agree_all.2 fun i hi=>hz i (by omega)
    rw [this]
    (have zz:=and_self; repeat' (first | apply w_seq | apply w_ops0 | apply w_exit | apply w_ret | apply a_n | apply a_x | apply o_nil | refine vZ ?_ | (refine cdZ ?_ ?_ <;> (intro _hg; (try simp only [ZB] at _hg); try first | exact absurd trivial _hg | (exfalso; omega))) | refine e_ends rfl ?_ | refine r2Z ?_ | fail)) <;> (try clear zz)
    exact fin _ _
  have ix:=aixS_encCs hk2
  obtain ⟨s1,s2,s3,s4,s5⟩:=hs _ (mem_getD hk2)
  have s2':(t.cases.getD k default).out.length ≤ 17592186044416:=s2
  have hall:=fun (h:agreeB t=true)=>agree_all.1 h k hk2
  have hsucc:(∀ j,j < (t.cases.getD k default).out.length→constB ((t.cases.getD k default).out.getD j default)=true)→∀ i,i < k + 1→∀ j,j < (t.cases.getD i default).out.length→constB ((t.cases.getD i default).out.getD j default)=true:=fun h i hi=>by
    rcases Nat.lt_succ_iff_lt_or_eq.1 hi with h1 | rfl
    · exact hz i h1
    · exact h
  generalize t.cases.getD k default=c at *
  (have zz:=@ix; repeat' (first | apply w_seq | apply w_ops0 | apply w_block | apply w_skip | apply a_n | apply o_nil | refine vY ?_ | refine alY ?_ | refine stY ?_ | (refine cdY ?_ ?_ <;> (intro _hg; (try simp only [ZB] at _hg); try first | exact absurd trivial _hg | (exfalso; omega))) | apply w_loop | fail)) <;> (try clear zz)
  refine loopI (X:=Nat) (fun j=>[(1,.ptr 0 4 0),(15,encCs t.cases),(16,.int .i64 t.cases.length),(17,.int .i64 k),(22,encVV c.out),(23,.int .i64 c.out.length),(24,.int .i64 j)]) (fun j H' nx'=>j ≤ c.out.length∧∀ i,i < j→constB (c.out.getD i default)=true) (fun j=>c.out.length - j) 0 ⟨Nat.zero_le _,fun i hi=>absurd hi (by omega)⟩ ag0 ?_
  rintro j H' nx' ⟨hj,hzj⟩
  by_cases hj2:j < c.out.length
  rotate_left
  · (have zz:=and_self; repeat' (first | apply w_seq | apply w_ops0 | apply w_exit | apply a_n | apply a_x | apply o_nil | refine vZ ?_ | (refine cdZ ?_ ?_ <;> (intro _hg; (try simp only [ZB] at _hg); try first | exact absurd trivial _hg | (exfalso; omega))) | fail)) <;> (try clear zz)
    exact ⟨k + 1,by omega,⟨by omega,hsucc fun j hj=>hzj j (by omega)⟩,ag0⟩
  have hcv:=constant_c (c.out.getD j default) (s3 _ (mem_getD hj2))
  cases hb:constB (c.out.getD j default)
  · rw [hb] at hcv
    have:agreeB t=false:=by
      rw [Bool.eq_false_iff]
      intro h
      have:=hall h j hj2
      rw [hb] at this; exact absurd this (by decide)
    rw [this]
    (have zz:=and_self; repeat' (first | apply w_seq | apply w_ops0 | apply w_block | apply w_skip | apply w_ret | apply a_n | apply a_r | apply o_nil | refine vZ ?_ | refine cZ ?_ (hp:=hcv) | refine cTZ ?_ | (refine cdZ ?_ ?_ <;> (intro _hg; (try simp only [ZB] at _hg); try first | exact absurd trivial _hg | (exfalso; omega))) | refine e_ends rfl ?_ | refine r2Z ?_ | fail)) <;> (try clear zz)
    exact fin _ _
  · rw [hb] at hcv
    (have zz:=and_self; repeat' (first | apply w_seq | apply w_ops0 | apply w_block | apply w_skip | apply a_n | apply o_nil | refine vZ ?_ | refine cZ ?_ (hp:=hcv) | refine cFZ ?_ | (refine cdZ ?_ ?_ <;> (intro _hg; (try simp only [ZB] at _hg); try first | exact absurd trivial _hg | (exfalso; omega))) | fail)) <;> (try clear zz)
    exact ⟨j + 1,by omega,⟨by omega,fun i hi=>by
      rcases Nat.lt_succ_iff_lt_or_eq.1 hi with h1 | rfl
      · exact hzj i h1
      · exact hb⟩,ag0⟩
theorem agreeR (t:TaskV) (hs:∀ c ∈ t.cases,ShC c) (hsc:Sh t.cases):Pure Tryz.prog 71 [encT t] (.bool (agreeB t)):=by
  refine Pure.of_c2 follows is71 (Nat.le_of_ble_eq_true rfl) ?_
  simp only [b71,cO,cG,cN,cM,cD,cF,cB,cFal,cTru]
  have hsc':t.cases.length ≤ 17592186044416:=hsc
  unfold encT
  (have zz:=aI @encCs_one (aI @encCs_cells @alenS_encCs); repeat' (first | apply w_seq | apply w_ops0 | apply w_block | apply a_n | apply o_nil | refine vZ ?_ | refine bxZ ?_ | apply w_loop | fail)) <;> (try clear zz)
  refine loopA (fun k=>[(1,.ptr 0 4 0),(3,.int .i64 k)]) t.cases.length (fun k=>∀ j,j < (t.cases.getD k default).out.length→constB ((t.cases.getD k default).out.getD j default)=true) (by simp (disch:=omega) only [agr,ZG,reduceEqDiff,↓reduceIte,List.length_cons,List.length_nil,Nat.zero_add,reduceAdd]) ?_
  intro k hk hz
  by_cases hk2:k < t.cases.length
  rotate_left
  · have:agreeB t=true:=agree_all.2 fun i hi=>hz i (by omega)
    rw [this]
    (have zz:=aI @encCs_one (aI @encCs_cells @alenS_encCs); repeat' (first | apply w_seq | apply w_ops0 | apply w_exit | apply w_ret | apply a_n | apply a_x | apply o_nil | refine vZ ?_ | (refine cdZ ?_ ?_ <;> (intro _hg; (try simp only [ZB] at _hg); try first | exact absurd trivial _hg | (exfalso; omega))) | refine e_ends rfl ?_ | refine r1Z ?_ | fail)) <;> (try clear zz)
    exact snap_bool rfl
  have ix:=aixS_encCs hk2
  obtain ⟨s1,s2,s3,s4,s5⟩:=hs _ (mem_getD hk2)
  have s2':(t.cases.getD k default).out.length ≤ 17592186044416:=s2
  have hall:=fun (h:agreeB t=true)=>agree_all.1 h k hk2
  generalize t.cases.getD k default=c at *
  (have zz:=aI @encCs_one (aI @encCs_cells (aI @alenS_encCs @ix)); repeat' (first | apply w_seq | apply w_ops0 | apply w_block | apply w_skip | apply a_n | apply o_nil | refine vZ ?_ | (refine cdZ ?_ ?_ <;> (intro _hg; (try simp only [ZB] at _hg); try first | exact absurd trivial _hg | (exfalso; omega))) | apply w_loop | fail)) <;> (try clear zz)
  refine loopA (fun j=>[(1,.ptr 0 4 0),(3,.int .i64 k),(4,.int .i64 j)]) c.out.length (fun j=>constB (c.out.getD j default)=true) ag0 ?_
  intro j hj hzj
  by_cases hj2:j < c.out.length
  rotate_left
  · (have zz:=aI @encCs_one (aI @encCs_cells (aI @alenS_encCs @ix)); repeat' (first | apply w_seq | apply w_ops0 | apply w_exit | apply a_n | apply a_x | apply o_nil | refine vZ ?_ | (refine cdZ ?_ ?_ <;> (intro _hg; (try simp only [ZB] at _hg); try first | exact absurd trivial _hg | (exfalso; omega))) | fail)) <;> (try clear zz)
    exact ⟨hk2,fun j hj=>hzj j (by omega),ag0,rfl,rfl⟩
  have hcv:=constantR (c.out.getD j default) (s3 _ (mem_getD hj2))
  cases hb:constB (c.out.getD j default)
  · rw [hb] at hcv
    have:agreeB t=false:=by
      rw [Bool.eq_false_iff]
      intro h
      have:=hall h j hj2
      rw [hb] at this; exact absurd this (by decide)
    rw [this]
    (have zz:=aI @encCs_one (aI @encCs_cells (aI @alenS_encCs @ix)); repeat' (first | apply w_seq | apply w_ops0 | apply w_block | apply w_skip | apply w_ret | apply a_n | apply a_r | apply o_nil | refine vZ ?_ | refine cZ ?_ (hp:=hcv) | refine cTZ ?_ | (refine cdZ ?_ ?_ <;> (intro _hg; (try simp only [ZB] at _hg); try first | exact absurd trivial _hg | (exfalso; omega))) | refine e_ends rfl ?_ | refine r1Z ?_ | fail)) <;> (try clear zz)
    exact snap_bool rfl
  · rw [hb] at hcv
    (have zz:=aI @encCs_one (aI @encCs_cells (aI @alenS_encCs @ix)); repeat' (first | apply w_seq | apply w_ops0 | apply w_block | apply w_skip | apply a_n | apply o_nil | refine vZ ?_ | refine cZ ?_ (hp:=hcv) | refine cFZ ?_ | (refine cdZ ?_ ?_ <;> (intro _hg; (try simp only [ZB] at _hg); try first | exact absurd trivial _hg | (exfalso; omega))) | fail)) <;> (try clear zz)
    exact ⟨hj2,rfl,ag0,rfl,rfl⟩
theorem agreementR (t:TaskV) (hs:∀ c ∈ t.cases,ShC c) (hsc:Sh t.cases):Pure Tryz.prog 30 [encT t] (.tup [.bool (agreementT t).1,.int .i64 (agreementT t).2]):=by
  refine Pure.of_c2 follows is30 (Nat.le_of_ble_eq_true rfl) ?_
  simp only [b30,cO,cG,cN,cM,cD,cF,cB,cFal,cTru]
  have hc:=checkR t hs hsc
  have ha:=agreeR t hs hsc
  have d2:=encT_dat t
  have fin:∀ {H:Hp} (b:Bool) (e:Int),Snap H (.tup [.bool b,.int .i64 e]) (.tup [.bool b,.int .i64 e]):=fun b e=>snap_tup (snapL_cons (.bool _) (snapL_cons (.int _ _) snapL_nil))
  by_cases he:checkE t=0
  rotate_left
  · have e:agreementT t=(false,checkE t):=by unfold agreementT; rw [if_pos he]
    rw [e]
    generalize checkE t=C at *
    unfold encT at *
    (have zz:=aI @encCs_one (aI @encCs_cells @alenS_encCs); repeat' (first | apply w_seq | apply w_ops0 | apply w_ret | apply a_n | apply a_r | apply o_nil | refine vZ ?_ | refine cZ ?_ (hp:=hc) | refine bxZ ?_ | (refine cdZ ?_ ?_ <;> (intro _hg; (try simp only [ZB] at _hg); try first | exact absurd trivial _hg | (exfalso; omega))) | refine e_ends rfl ?_ | refine r2Z ?_ | fail)) <;> (try clear zz)
    exact fin _ _
  have e:agreementT t=(agreeB t,0):=by unfold agreementT; rw [if_neg (fun h=>h he)]
  rw [e]
  rw [he] at hc
  unfold encT at *
  (have zz:=aI @encCs_one (aI @encCs_cells @alenS_encCs); repeat' (first | apply w_seq | apply w_ops0 | apply w_skip | apply w_ret | apply a_n | apply o_nil | refine vZ ?_ | refine cZ ?_ (hp:=by first | exact hc | exact ha) | refine bxZ ?_ | (refine cdZ ?_ ?_ <;> (intro _hg; (try simp only [ZB] at _hg); try first | exact absurd trivial _hg | (exfalso; omega))) | refine e_ends rfl ?_ | refine r2Z ?_ | fail)) <;> (try clear zz)
  exact fin _ _
def sizeN (t:TaskV) (k:Nat):Nat:=((t.cases.take k).map fun c=>c.out.length).sum
theorem sizeN_succ {t:TaskV} {k:Nat} (h:k < t.cases.length):sizeN t (k + 1)=sizeN t k + (t.cases.getD k default).out.length:=by
  unfold sizeN
  rw [take_succ' h,List.map_append,List.sum_append]
  simp
theorem sizeN_le {t:TaskV} (hq:∀ c ∈ t.cases,c.out.length ≤ 100000):∀ k,k ≤ t.cases.length→sizeN t k ≤ k * 100000
  | 0,_=>by simp [sizeN]
  | k + 1,h=>by
    rw [sizeN_succ (by omega)]
    have:=sizeN_le hq k (by omega)
    have:=hq _ (mem_getD (l:=t.cases) (k:=k) (by omega))
    omega
def sizeT (t:TaskV):Int × Int × Int:=if checkE t ≠ 0 then (0,0,checkE t) else (t.cases.length,sizeN t t.cases.length,0)
theorem size_c (t:TaskV) (hs:∀ c ∈ t.cases,ShC c) (hsc:Sh t.cases) (hq:∀ c ∈ t.cases,c.out.length ≤ 100000):Pure Tryz.prog 31 [encT t] (.tup [.int .i64 (sizeT t).1,.int .i64 (sizeT t).2.1,.int .i64 (sizeT t).2.2]):=by
  refine Pure.of_c2 follows is31 (Nat.le_of_ble_eq_true rfl) ?_
  simp only [b31,cO,cG,cN,cM,cD,cF,cB,cFal,cTru]
  have hsc':t.cases.length ≤ 17592186044416:=hsc
  have hc:=check_c t hs hsc
  have d2:=encT_dat t
  have fin:∀ {H:Hp} (a b e:Int),Snap H (.tup [.int .i64 a,.int .i64 b,.int .i64 e]) (.tup [.int .i64 a,.int .i64 b,.int .i64 e]):=fun a b e=>snap_tup (snapL_cons (.int _ _) (snapL_cons (.int _ _) (snapL_cons (.int _ _) snapL_nil)))
  by_cases he:checkE t=0
  rotate_left
  · have e:sizeT t=(0,0,checkE t):=by unfold sizeT; rw [if_pos he]
    rw [e]
    generalize checkE t=C at *
    unfold encT at *
    (have zz:=aI @encCs_one (aI @encCs_cells @alenS_encCs); repeat' (first | apply w_seq | apply w_ops0 | apply w_ret | apply a_n | apply a_r | apply o_nil | refine vZ ?_ | refine cZ ?_ (hp:=hc) | refine bxZ ?_ | (refine cdZ ?_ ?_ <;> (intro _hg; (try simp only [ZB] at _hg); try first | exact absurd trivial _hg | (exfalso; omega))) | refine e_ends rfl ?_ | refine r3Z ?_ | fail)) <;> (try clear zz)
    exact fin _ _ _
  have e:sizeT t=((t.cases.length:Int),((sizeN t t.cases.length:Nat):Int),0):=by unfold sizeT; rw [if_neg (fun h=>h he)]
  rw [e]
  rw [he] at hc
  have hcl:=(check_parts he).2.1
  unfold encT at *
  (have zz:=aI @encCs_one (aI @encCs_cells @alenS_encCs); repeat' (first | apply w_seq | apply w_ops0 | apply w_block | apply w_skip | apply a_n | apply o_nil | refine vZ ?_ | refine cZ ?_ (hp:=hc) | refine bxZ ?_ | (refine cdZ ?_ ?_ <;> (intro _hg; (try simp only [ZB] at _hg); try first | exact absurd trivial _hg | (exfalso; omega))) | apply w_loop | fail)) <;> (try clear zz)
  refine loopI (X:=Nat) (fun k=>[(1,.ptr 0 4 0),(6,.int .i64 (sizeN t k)),(15,encCs t.cases),(16,.int .i64 t.cases.length),(17,.int .i64 k)]) (fun k H nx=>k ≤ t.cases.length∧1 ≤ nx∧H 0=some [.int .i64 t.n,.int .i64 t.ins,.int .i64 t.outs,encCs t.cases]) (fun k=>t.cases.length - k) 0 ⟨Nat.zero_le _,Nat.le_refl _,rfl⟩ (by simp (disch:=omega) only [agr,ZG,reduceEqDiff,↓reduceIte,List.length_cons,List.length_nil,Nat.zero_add,reduceAdd,sizeN,List.take_zero,List.map_nil,List.sum_nil]) ?_
  rintro k H nx ⟨hk,hnx,g0⟩
  by_cases hk2:k < t.cases.length
  rotate_left
  · obtain rfl:k=t.cases.length:=by omega
    (have zz:=aI @g0 (aI @encCs_one (aI @encCs_cells @alenS_encCs)); repeat' (first | apply w_seq | apply w_ops0 | apply w_exit | apply w_ret | apply a_n | apply a_x | apply o_nil | refine vY ?_ | (refine cdY ?_ ?_ <;> (intro _hg; (try simp only [ZB] at _hg); try first | exact absurd trivial _hg | (exfalso; omega))) | refine e_ends rfl ?_ | refine r3Y ?_ | fail)) <;> (try clear zz)
    exact fin _ _ _
  have ix:=aixS_encCs hk2
  have hsu:=sizeN_succ hk2
  have hq1:=hq _ (mem_getD hk2)
  have hle:=sizeN_le hq k hk
  generalize t.cases.getD k default=c at *
  generalize sizeN t k=S at *
  generalize hS2:sizeN t (k + 1)=S2 at *
  have hsi:((S:Nat):Int) + (c.out.length:Int)=((S2:Nat):Int):=by omega
  have hw:IntKind.wrap .i64 ((S2:Nat):Int)=((S2:Nat):Int):=wrap64 (by omega) (by omega)
  (have zz:=aI @ix (aI @hsi @hw); repeat' (first | apply w_seq | apply w_ops0 | apply w_block | apply w_skip | apply a_n | apply o_nil | refine vY ?_ | refine alY ?_ | refine stY ?_ | (refine cdY ?_ ?_ <;> (intro _hg; (try simp only [ZB] at _hg); try first | exact absurd trivial _hg | (exfalso; omega))) | fail)) <;> (try clear zz)
  refine ⟨k + 1,by omega,⟨by omega,by omega,?_⟩,?_⟩
  · rw [hupd_ne (by omega),hupd_ne (by omega)]; exact g0
  · rw [hS2]
    simp (disch:=omega) only [agr,ZG,reduceEqDiff,↓reduceIte,hsi]
theorem sizeR (t:TaskV) (hs:∀ c ∈ t.cases,ShC c) (hsc:Sh t.cases) (hq:∀ c ∈ t.cases,c.out.length ≤ 100000):Pure Tryz.prog 32 [encT t] (.tup [.int .i64 (sizeT t).1,.int .i64 (sizeT t).2.1,.int .i64 (sizeT t).2.2]):=by
  refine Pure.of_c2 follows is32 (Nat.le_of_ble_eq_true rfl) ?_
  simp only [b32,cO,cG,cN,cM,cD,cF,cB,cFal,cTru]
  have hsc':t.cases.length ≤ 17592186044416:=hsc
  have hc:=checkR t hs hsc
  have d2:=encT_dat t
  have fin:∀ {H:Hp} (a b e:Int),Snap H (.tup [.int .i64 a,.int .i64 b,.int .i64 e]) (.tup [.int .i64 a,.int .i64 b,.int .i64 e]):=fun a b e=>snap_tup (snapL_cons (.int _ _) (snapL_cons (.int _ _) (snapL_cons (.int _ _) snapL_nil)))
  by_cases he:checkE t=0
  rotate_left
  · have e:sizeT t=(0,0,checkE t):=by unfold sizeT; rw [if_pos he]
    rw [e]
    generalize checkE t=C at *
    unfold encT at *
    (have zz:=aI @encCs_one (aI @encCs_cells @alenS_encCs); repeat' (first | apply w_seq | apply w_ops0 | apply w_ret | apply a_n | apply a_r | apply o_nil | refine vZ ?_ | refine cZ ?_ (hp:=hc) | refine bxZ ?_ | (refine cdZ ?_ ?_ <;> (intro _hg; (try simp only [ZB] at _hg); try first | exact absurd trivial _hg | (exfalso; omega))) | refine e_ends rfl ?_ | refine r3Z ?_ | fail)) <;> (try clear zz)
    exact fin _ _ _
  have e:sizeT t=((t.cases.length:Int),((sizeN t t.cases.length:Nat):Int),0):=by unfold sizeT; rw [if_neg (fun h=>h he)]
  rw [e]
  rw [he] at hc
  have hcl:=(check_parts he).2.1
  unfold encT at *
  (have zz:=aI @encCs_one (aI @encCs_cells @alenS_encCs); repeat' (first | apply w_seq | apply w_ops0 | apply w_block | apply w_skip | apply a_n | apply o_nil | refine vZ ?_ | refine cZ ?_ (hp:=hc) | refine bxZ ?_ | (refine cdZ ?_ ?_ <;> (intro _hg; (try simp only [ZB] at _hg); try first | exact absurd trivial _hg | (exfalso; omega))) | apply w_loop | fail)) <;> (try clear zz)
  refine loopI (X:=Nat) (fun k=>[(1,.ptr 0 4 0),(6,.int .i64 (sizeN t k)),(7,.int .i64 k)]) (fun k H nx=>k ≤ t.cases.length∧1 ≤ nx∧H 0=some [.int .i64 t.n,.int .i64 t.ins,.int .i64 t.outs,encCs t.cases]) (fun k=>t.cases.length - k) 0 ⟨Nat.zero_le _,Nat.le_refl _,rfl⟩ (by simp (disch:=omega) only [agr,ZG,reduceEqDiff,↓reduceIte,List.length_cons,List.length_nil,Nat.zero_add,reduceAdd,sizeN,List.take_zero,List.map_nil,List.sum_nil]) ?_
  rintro k H nx ⟨hk,hnx,g0⟩
  by_cases hk2:k < t.cases.length
  rotate_left
  · obtain rfl:k=t.cases.length:=by omega
    (have zz:=aI @g0 (aI @encCs_one (aI @encCs_cells @alenS_encCs)); repeat' (first | apply w_seq | apply w_ops0 | apply w_exit | apply w_ret | apply a_n | apply a_x | apply o_nil | refine vY ?_ | (refine cdY ?_ ?_ <;> (intro _hg; (try simp only [ZB] at _hg); try first | exact absurd trivial _hg | (exfalso; omega))) | refine e_ends rfl ?_ | refine r3Y ?_ | fail)) <;> (try clear zz)
    exact fin _ _ _
  have ix:=aixS_encCs hk2
  have hsu:=sizeN_succ hk2
  have hq1:=hq _ (mem_getD hk2)
  have hle:=sizeN_le hq k hk
  generalize t.cases.getD k default=c at *
  generalize sizeN t k=S at *
  generalize hS2:sizeN t (k + 1)=S2 at *
  have hsi:((S:Nat):Int) + (c.out.length:Int)=((S2:Nat):Int):=by omega
  have hw:IntKind.wrap .i64 ((S2:Nat):Int)=((S2:Nat):Int):=wrap64 (by omega) (by omega)
  (have zz:=aI @g0 (aI @ix (aI @hsi (aI @hw @alenS_encCs))); repeat' (first | apply w_seq | apply w_ops0 | apply w_block | apply w_skip | apply a_n | apply o_nil | refine vY ?_ | (refine cdY ?_ ?_ <;> (intro _hg; (try simp only [ZB] at _hg); try first | exact absurd trivial _hg | (exfalso; omega))) | fail)) <;> (try clear zz)
  refine ⟨k + 1,by omega,⟨by omega,by omega,g0⟩,?_⟩
  rw [hS2]
  simp (disch:=omega) only [agr,ZG,reduceEqDiff,↓reduceIte,hsi]
end Go.Proofs.YtbiikomnhkbblaaGreat
namespace Go.Proofs.YtbiikomnhkbblaaGreat
open Go Go.Abs
attribute [local irreducible] awp2 aops2 ains aloop athen bbind obind gbind acond res1 Go.Abs.Fn PCall Go.Abs.Pure SnapArgs SnapL Yl
theorem restrictR (t:TaskV) (l:List Int) (hs:∀ c ∈ t.cases,ShC c) (hsc:Sh t.cases) (hl:Sh l):Pure Tryz.prog 25 [encT t,encV l] (.tup [encT (restrictT t l).1,.int .i64 (restrictT t l).2]):=by
  refine Pure.of_c2 follows is25 (Nat.le_of_ble_eq_true rfl) ?_
  simp only [b25,cO,cG,cN,cM,cD,cF,cB,cFal,cTru]
  have hl':l.length ≤ 17592186044416:=hl
  have hsc':t.cases.length ≤ 17592186044416:=hsc
  have hc:=checkR t hs hsc
  have d2:=encT_dat t
  by_cases he:checkE t=0
  rotate_left
  · have e:restrictT t l=(T00,checkE t):=by unfold restrictT; rw [if_pos he]
    rw [e]
    generalize checkE t=C at *
    unfold encT at hc d2
    rw [show encT t=.agg [.int .i64 t.n,.int .i64 t.ins,.int .i64 t.outs,encCs t.cases] from rfl]
    (have zz:=aI @encCs_one (aI @encCs_cells @alenS_encCs); repeat' (first | apply w_seq | apply w_ops0 | apply w_ret | apply a_n | apply a_r | apply o_nil | refine vZ ?_ | refine cZ ?_ (hp:=hc) | refine alZ ?_ | refine bxZ ?_ | refine stZ ?_ | (refine cdZ ?_ ?_ <;> (intro _hg; (try simp only [ZB] at _hg); try first | exact absurd trivial _hg | (exfalso; omega))) | refine e_ends rfl ?_ | refine r2Z ?_ | fail)) <;> (try clear zz)
    exact snapErr _
  rw [he] at hc
  by_cases h1:l.length < 1 ∨ 1024 < l.length
  · have e:restrictT t l=(T00,5):=by unfold restrictT; rw [if_neg (fun h=>h he),if_pos h1]
    rw [e]
    unfold encT at hc d2
    rw [show encT t=.agg [.int .i64 t.n,.int .i64 t.ins,.int .i64 t.outs,encCs t.cases] from rfl]
    (have zz:=aI @encCs_one (aI @encCs_cells @alenS_encCs); repeat' (first | apply w_seq | apply w_ops0 | apply w_skip | apply w_ret | apply a_n | apply a_r | apply o_nil | refine vZ ?_ | refine cZ ?_ (hp:=hc) | refine alZ ?_ | refine bxZ ?_ | refine stZ ?_ | refine gTZ ?_ | refine gFZ ?_ | refine cTZ ?_ | ((first | refine gBZ ?_ ?_ | refine cdZ ?_ ?_) <;> (intro _hg; (try simp only [ZB] at _hg); try first | exact absurd trivial _hg | (exfalso; omega))) | refine e_ends rfl ?_ | refine r2Z ?_ | fail)) <;> (try clear zz)
    all_goals exact snapErr _
  have hR:restrictT t l=if firstI (idxE t l) l.length ≠ 0 then (T00,firstI (idxE t l) l.length) else (pickT t l,0):=by unfold restrictT; rw [if_neg (fun h=>h he),if_neg h1]
  rw [hR]
  generalize hA:[.int .i64 t.n,.int .i64 t.ins,.int .i64 t.outs,encCs t.cases]=A
  have hTA:encT t=.agg A:=by rw [← hA]; rfl
  rw [hTA] at hc d2 ⊢
  have hA3:A[3]?=some (encCs t.cases):=by subst hA; rfl
  have hAl:A.length=4:=by subst hA; rfl
  refine w_seqC (fun T H nx=>T 1=encV l∧T 2=.ptr 0 4 0∧T 4=.ptr 1 4 0∧T 5=.int .i64 0∧H=hupd (hupd noBoxes 0 A) 1 [.int .i64 0,.int .i64 0,.int .i64 0,.esl]∧nx=2) ?_ ?_
  · subst hA
    (have zz:=aI @encCs_one @encCs_cells; repeat' (first | apply w_ops0 | apply a_n | apply o_nil | refine vZ ?_ | refine alZ ?_ | refine bxZ ?_ | fail)) <;> (try clear zz)
    exact ⟨rfl,rfl,rfl,rfl,rfl,rfl⟩
  rintro T H nx ⟨t1,t2,t4,t5,rfl,rfl⟩
  refine w_seqC (fun T H nx=>T 1=encV l∧T 2=.ptr 0 4 0∧T 4=.ptr 1 4 0∧T 5=.int .i64 0∧H=hupd (hupd noBoxes 0 A) 1 [.int .i64 0,.int .i64 0,.int .i64 0,.esl]∧nx=2) ?_ ?_
  · subst hA
    (have zz:=aI @t1 (aI @t2 (aI @t4 @t5)); repeat' (first | apply w_seq | apply w_ops0 | apply w_skip | apply a_n | apply o_nil | refine vZ ?_ | refine cZ ?_ (hp:=hc) | (refine cdZ ?_ ?_ <;> (intro _hg; (try simp only [ZB] at _hg); try first | exact absurd trivial _hg | (exfalso; omega))) | fail)) <;> (try clear zz)
    exact ⟨(have zz:=aI @t1 (aI @t2 (aI @t4 @t5)); evZ),(have zz:=aI @t1 (aI @t2 (aI @t4 @t5)); evZ),(have zz:=aI @t1 (aI @t2 (aI @t4 @t5)); evZ),(have zz:=aI @t1 (aI @t2 (aI @t4 @t5)); evZ),rfl,rfl⟩
  clear t1 t2 t4 t5
  rintro T H nx ⟨t1,t2,t4,t5,rfl,rfl⟩
  refine w_seqC (fun T H nx=>T 1=encV l∧T 2=.ptr 0 4 0∧T 4=.ptr 1 4 0∧T 5=.int .i64 0∧H=hupd (hupd noBoxes 0 A) 1 [.int .i64 0,.int .i64 0,.int .i64 0,.esl]∧nx=2) ?_ ?_
  · (have zz:=aI @t1 (aI @t2 (aI @t4 @t5)); repeat' (first | apply w_seq | apply w_ops0 | apply w_skip | apply a_n | apply o_nil | refine vZ ?_ | refine gTZ ?_ | ((first | refine gBZ ?_ ?_ | refine cdZ ?_ ?_) <;> (intro _hg; (try simp only [ZB] at _hg); try first | exact absurd trivial _hg | (exfalso; omega))) | fail)) <;> (try clear zz)
    all_goals exact ⟨(have zz:=aI @t1 (aI @t2 (aI @t4 @t5)); evZ),(have zz:=aI @t1 (aI @t2 (aI @t4 @t5)); evZ),(have zz:=aI @t1 (aI @t2 (aI @t4 @t5)); evZ),(have zz:=aI @t1 (aI @t2 (aI @t4 @t5)); evZ),rfl,rfl⟩
  clear t1 t2 t4 t5
  rintro T H nx ⟨t1,t2,t4,t5,rfl,rfl⟩
  refine w_seqC (fun T H nx=>T 1=encV l∧T 2=.ptr 0 4 0∧T 4=.ptr 1 4 0∧T 5=.int .i64 0∧T 7=.ptr 2 4 0∧H 0=some A∧H 1=some [.int .i64 0,.int .i64 0,.int .i64 0,.esl]∧H 2=some [.int .i64 t.n,.int .i64 t.ins,.int .i64 t.outs,.esl]∧nx=3) ?_ ?_
  · subst hA
    (have zz:=aI @t1 (aI @t2 (aI @t4 @t5)); repeat' (first | apply w_ops0 | apply a_n | apply o_nil | refine vZ ?_ | refine alZ ?_ | refine stZ ?_ | fail)) <;> (try clear zz)
    exact ⟨(have zz:=aI @t1 (aI @t2 (aI @t4 @t5)); evZ),(have zz:=aI @t1 (aI @t2 (aI @t4 @t5)); evZ),(have zz:=aI @t1 (aI @t2 (aI @t4 @t5)); evZ),(have zz:=aI @t1 (aI @t2 (aI @t4 @t5)); evZ),(have zz:=aI @t1 (aI @t2 (aI @t4 @t5)); evZ),rfl,rfl,rfl,rfl⟩
  clear t1 t2 t4 t5
  rintro T H nx ⟨t1,t2,t4,t5,t7,g0,g1,g2,rfl⟩
  refine w_seqC (fun T H nx=>T 4=.ptr 1 4 0∧T 7=.ptr 2 4 0∧3 ≤ nx∧firstI (idxE t l) l.length=0∧H 1=some [.int .i64 0,.int .i64 0,.int .i64 0,.esl]∧∃ sv,H 2=some [.int .i64 t.n,.int .i64 t.ins,.int .i64 t.outs,sv]∧Row H 3 sv ((l.map (pickC t)).c3 encC)∧∀ b,rowB sv=some b→3 ≤ b) ?_ ?_
  rotate_left
  · clear t1 t2 t4 t5 t7 g0 g1 g2
    rintro T H nx ⟨t4,t7,hnx,hz,g1,sv,g2,hrow,hb⟩
    rw [hz,if_neg (fun h=>h rfl)]
    obtain ⟨q1,q2⟩:=hrow.one
    (have zz:=aI @t4 (aI @t7 (aI @g1 (aI @g2 (aI @q1 @q2)))); repeat' (first | apply w_seq | apply w_ops0 | apply w_ret | apply a_n | apply o_nil | refine vY ?_ | refine stY ?_ | refine e_ends rfl ?_ | refine r2Y ?_ | fail)) <;> (try clear zz)
    refine snap_tup (snapL_cons (snap_agg (snapL_cons (.int _ _) (snapL_cons (.int _ _) (snapL_cons (.int _ _) (snapL_cons ?_ snapL_nil))))) (snapL_cons (.int _ _) snapL_nil))
    exact snap_rowC (hrow.same fun b hb'=>hupd_ne (by have:=hb b hb'; omega))
  (have zz:=aI @t1 (aI @t2 (aI @t4 (aI @t5 @t7))); repeat' (first | apply w_seq | apply w_ops0 | apply w_block | apply a_n | apply o_nil | refine vY ?_ | apply w_loop | fail)) <;> (try clear zz)
  refine loopI (X:=AV × Nat) (fun x=>[(1,encV l),(2,.ptr 0 4 0),(4,.ptr 1 4 0),(5,.int .i64 0),(7,.ptr 2 4 0),(8,.int .i64 x.2)]) (fun x H nx=>x.2 ≤ l.length∧3 ≤ nx∧(∀ i,i < x.2→idxE t l i=0)∧H 0=some A∧H 1=some [.int .i64 0,.int .i64 0,.int .i64 0,.esl]∧H 2=some [.int .i64 t.n,.int .i64 t.ins,.int .i64 t.outs,x.1]∧Row H 3 x.1 (((l.take x.2).map (pickC t)).c3 encC)∧(∀ b,rowB x.1=some b→3 ≤ b∧b < nx)) (fun x=>l.length - x.2) (.esl,0) ⟨Nat.zero_le _,Nat.le_refl _,fun i hi=>absurd hi (by dsimp only; omega),g0,g1,g2,Row.nil,fun b hb=>(by cases hb)⟩ (have zz:=aI @t1 (aI @t2 (aI @t4 (aI @t5 @t7))); agZ) ?_
  clear t1 t2 t4 t5 t7 g0 g1 g2
  rintro ⟨sv,k⟩ H nx ⟨hk,hnx,hz,g0,g1,g2,hrow,hb⟩
  dsimp only at hk hz g2 hrow hb ⊢
  by_cases hk2:k < l.length
  rotate_left
  · have hkl:k=l.length:=by omega
    rw [List.take_of_length_le (by omega)] at hrow
    (have zz:=and_self; repeat' (first | apply w_seq | apply w_ops0 | apply w_exit | apply a_n | apply a_x | apply o_nil | refine vZ ?_ | (refine cdZ ?_ ?_ <;> (intro _hg; (try simp only [ZB] at _hg); try first | exact absurd trivial _hg | (exfalso; omega))) | fail)) <;> (try clear zz)
    exact ⟨rfl,rfl,hnx,firstI_zero fun i hi=>hz i (by omega),g1,sv,g2,hrow,fun b hb'=>(hb b hb').1⟩
  have fin:∀ {H},∀ r,idxE t l k=r→r ≠ 0→Snap H (.tup [.agg [.int .i64 0,.int .i64 0,.int .i64 0,.esl],.int .i64 r]) (.tup [encT (if firstI (idxE t l) l.length ≠ 0 then (T00,firstI (idxE t l) l.length) else (pickT t l,0)).1,.int .i64 (if firstI (idxE t l) l.length ≠ 0 then (T00,firstI (idxE t l) l.length) else (pickT t l,0)).2]):=fun r hr h0=>by
    rw [firstI_hit hk2 hz (by rw [hr]; exact h0),if_pos (by rw [hr]; exact h0),hr]
    exact snapErr _
  have ho:idxE t l k=if l.getD k default < 0 ∨ (t.cases.length:Int) ≤ l.getD k default then 6 else if 0 < k∧l.getD k default ≤ l.getD (k - 1) default then 14 else 0:=rfl
  by_cases hr:l.getD k default < 0 ∨ (t.cases.length:Int) ≤ l.getD k default
  · rw [if_pos hr] at ho
    (have zz:=aI @g0 (aI @g1 (aI @hA3 (aI @hAl @alenS_encCs))); repeat' (first | apply w_seq | apply w_ops0 | apply w_ops1 | apply w_block | apply w_skip | apply w_ret | apply a_n | apply a_r | apply o_nil | refine vY ?_ | refine stY ?_ | refine gTY ?_ | refine gFY ?_ | refine cTY ?_ | ((first | refine gBY ?_ ?_ | refine cdY ?_ ?_) <;> (intro _hg; (try simp only [ZB] at _hg); try first | exact absurd trivial _hg | (exfalso; omega))) | refine e_ends rfl ?_ | refine r2Y ?_ | fail)) <;> (try clear zz)
    all_goals exact fin 6 ho (by decide)
  rw [if_neg hr] at ho
  obtain ⟨q,hq⟩:∃ q:Nat,l.getD k default=q:=⟨(l.getD k default).toNat,by omega⟩
  have hqc:q < t.cases.length:=by omega
  have ix:=aixS_encCs hqc
  have hpk:pickC t (l.getD k default)=t.cases.getD q default:=by unfold pickC; rw [hq]; rfl
  have hst:((l.take (k + 1)).map (pickC t)).c3 encC=((l.take k).map (pickC t)).c3 encC ++ (encC (t.cases.getD q default)).cells:=by
    rw [take_succ' hk2,List.map_append,List.map_cons,hpk]
    simp [List.c3]
  have hlen:(((l.take k).map (pickC t)).c3 encC).length=k * 3:=by
    rw [c3_len (fun _=>rfl),List.length_map,List.length_take]; omega
  have e2:((k:Int) - 1).toNat=k - 1:=by omega
  by_cases hO:0 < k∧l.getD k default ≤ l.getD (k - 1) default
  · rw [if_pos hO] at ho
    have hj1:decide ((0:Int) < (k:Int))=true:=decide_eq_true (by omega)
    have hj2:decide (l.getD k default ≤ l.getD (k - 1) default)=true:=decide_eq_true hO.2
    rw [hq] at hr hj2
    (have zz:=aI @g0 (aI @g1 (aI @hA3 (aI @hAl (aI @alenS_encCs (aI @e2 (aI @hj1 (aI @hj2 @hq))))))); repeat' (first | apply w_seq | apply w_ops0 | apply w_ops1 | apply w_block | apply w_skip | apply w_ret | apply a_n | apply a_r | apply o_nil | refine vY ?_ | refine stY ?_ | refine gTY ?_ | refine cTY ?_ | ((first | refine gBY ?_ ?_ | refine cdY ?_ ?_) <;> (intro _hg; (try simp only [ZB] at _hg); try first | exact absurd trivial _hg | (exfalso; omega))) | refine e_ends rfl ?_ | refine r2Y ?_ | fail)) <;> (try clear zz)
    all_goals exact fin 14 ho (by decide)
  rw [if_neg hO] at ho
  obtain ⟨q1,q2⟩:=hrow.one
  have hstep:∀ {T':Tm} {H':Hp} {K:SP} {rest:List Op2},True:=trivial
  generalize t.cases.getD q default=c at *
  obtain ⟨inp,out,calm⟩:=c
  have hj1:decide ((0:Int) < (k:Int))=decide (0 < k):=decide_eq_decide.2 (by omega)
  by_cases hk0:k=0
  · have hj1:decide ((0:Int) < (k:Int))=false:=decide_eq_false (by omega)
    (have zz:=aI @g0 (aI @g1 (aI @g2 (aI @hA3 (aI @hAl (aI @alenS_encCs (aI @e2 (aI @hj1 (aI @hq (aI @ix (aI @q1 (aI @q2 @Bool.false_eq_true))))))))))); repeat' (first | apply w_seq | apply w_ops0 | apply w_ops1 | apply w_block | apply w_skip | apply a_n | apply o_nil | refine vY ?_ | refine blY ?_ | refine gTY ?_ | refine gFY ?_ | refine cFY ?_ | ((first | refine gBY ?_ ?_ | refine cdY ?_ ?_) <;> (intro _hg; (try simp only [ZB] at _hg); try first | exact absurd trivial _hg | (exfalso; omega))) | fail)) <;> (try clear zz)
    refine e_row rfl ev0 (hrow.same fun b' hb'=>?_) ev0 asrc_three rfl rfl (by omega) (by rw [hlen]; omega) (by rw [hlen]; omega) ?_
    · have:=hb b' hb'
      rw [hupd_ne (by omega)]
    rintro sv' H2 nx2 u1 u2 u3 u4 u5
    have v1:∀ x,x < nx→rowB sv ≠ some x→H2 x=H x:=fun x a1 a2=>(u4 x (by omega) a2).trans (by rw [hupd_ne (by omega)])
    have g2':H2 2=some [.int .i64 t.n,.int .i64 t.ins,.int .i64 t.outs,sv]:=(v1 2 (by omega) (fun h=>by have:=hb 2 h; omega)).trans g2
    obtain ⟨q1',q2'⟩:=u1.one
    have ub:∀ b',rowB sv'=some b'→3 ≤ b'∧b' < nx2:=fun b' hb'=>by
      rcases u5 b' hb' with e | ⟨e1,e2⟩
      · have:=hb b' e; omega
      · omega
    (have zz:=aI @g2' (aI @q1' @q2'); repeat' (first | apply w_ops0 | apply a_n | apply o_nil | refine vY ?_ | refine stY ?_ | fail)) <;> (try clear zz)
    refine ⟨(sv',k + 1),by dsimp only; omega,⟨by dsimp only; omega,by omega,fun i hi=>?_,?_,?_,?_,?_,fun b' hb'=>ub b' hb'⟩,ag0⟩
    · rcases Nat.lt_succ_iff_lt_or_eq.1 hi with h | rfl
      · exact hz i h
      · exact ho
    · rw [hupd_ne (by omega)]
      exact (v1 0 (by omega) (fun h=>by have:=hb 0 h; omega)).trans g0
    · rw [hupd_ne (by omega)]
      exact (v1 1 (by omega) (fun h=>by have:=hb 1 h; omega)).trans g1
    · rw [hupd_self']; rfl
    · dsimp only
      rw [hst]
      exact u1.same fun b' hb'=>hupd_ne (by have:=ub b' hb'; omega)
  · have hj1:decide ((0:Int) < (k:Int))=true:=decide_eq_true (by omega)
    have hj2:decide (l.getD k default ≤ l.getD (k - 1) default)=false:=decide_eq_false (fun h=>hO ⟨by omega,h⟩)
    rw [hq] at hj2
    (have zz:=aI @g0 (aI @g1 (aI @g2 (aI @hA3 (aI @hAl (aI @alenS_encCs (aI @e2 (aI @hj1 (aI @hj2 (aI @hq (aI @ix (aI @q1 (aI @q2 @Bool.false_eq_true)))))))))))); repeat' (first | apply w_seq | apply w_ops0 | apply w_ops1 | apply w_block | apply w_skip | apply a_n | apply o_nil | refine vY ?_ | refine blY ?_ | refine gTY ?_ | refine cFY ?_ | ((first | refine gBY ?_ ?_ | refine cdY ?_ ?_) <;> (intro _hg; (try simp only [ZB] at _hg); try first | exact absurd trivial _hg | (exfalso; omega))) | fail)) <;> (try clear zz)
    refine e_row rfl ev0 (hrow.same fun b' hb'=>?_) ev0 asrc_three rfl rfl (by omega) (by rw [hlen]; omega) (by rw [hlen]; omega) ?_
    · have:=hb b' hb'
      rw [hupd_ne (by omega)]
    rintro sv' H2 nx2 u1 u2 u3 u4 u5
    have v1:∀ x,x < nx→rowB sv ≠ some x→H2 x=H x:=fun x a1 a2=>(u4 x (by omega) a2).trans (by rw [hupd_ne (by omega)])
    have g2':H2 2=some [.int .i64 t.n,.int .i64 t.ins,.int .i64 t.outs,sv]:=(v1 2 (by omega) (fun h=>by have:=hb 2 h; omega)).trans g2
    obtain ⟨q1',q2'⟩:=u1.one
    have ub:∀ b',rowB sv'=some b'→3 ≤ b'∧b' < nx2:=fun b' hb'=>by
      rcases u5 b' hb' with e | ⟨e1,e2⟩
      · have:=hb b' e; omega
      · omega
    (have zz:=aI @g2' (aI @q1' @q2'); repeat' (first | apply w_ops0 | apply a_n | apply o_nil | refine vY ?_ | refine stY ?_ | fail)) <;> (try clear zz)
    refine ⟨(sv',k + 1),by dsimp only; omega,⟨by dsimp only; omega,by omega,fun i hi=>?_,?_,?_,?_,?_,fun b' hb'=>ub b' hb'⟩,ag0⟩
    · rcases Nat.lt_succ_iff_lt_or_eq.1 hi with h | rfl
      · exact hz i h
      · exact ho
    · rw [hupd_ne (by omega)]
      exact (v1 0 (by omega) (fun h=>by have:=hb 0 h; omega)).trans g0
    · rw [hupd_ne (by omega)]
      exact (v1 1 (by omega) (fun h=>by have:=hb 1 h; omega)).trans g1
    · rw [hupd_self']; rfl
    · dsimp only
      rw [hst]
      exact u1.same fun b' hb'=>hupd_ne (by have:=ub b' hb'; omega)
theorem shC_default:ShC (default:CaseV):=⟨Nat.zero_le _,Nat.zero_le _,fun x hx=>(by cases hx),Nat.zero_le _,fun x hx=>(by cases hx)⟩
theorem T00_sh:Sh T00.cases∧∀ c ∈ T00.cases,ShC c:=⟨Nat.zero_le _,fun c hc=>(by cases hc)⟩
theorem restrict_sh {t:TaskV} {l:List Int} (hs:∀ c ∈ t.cases,ShC c) (hl:Sh l):Sh (restrictT t l).1.cases∧∀ c ∈ (restrictT t l).1.cases,ShC c:=by
  unfold restrictT
  split
  · exact T00_sh
  split
  · exact T00_sh
  split
  · exact T00_sh
  refine ⟨by show (l.map (pickC t)).length ≤ _; rw [List.length_map]; exact hl,fun c hc=>?_⟩
  obtain ⟨i,_,rfl⟩:=List.mem_map.1 hc
  unfold pickC
  by_cases h:i.toNat < t.cases.length
  · exact hs _ (mem_getD h)
  · rw [List.getD_eq_getElem?_getD,List.getElem?_eq_none (by omega)]
    exact shC_default
theorem movedV_sh {l:List (List Int)} {p:List Int} (hl:Sh l) (hp:p.length ≤ 5) (hv:∀ v ∈ l,v.length=p.length):Sh (movedV l p)∧∀ v ∈ movedV l p,Sh v:=by
  refine ⟨by show (sortG _ _).length ≤ _; rw [sortG_len,List.length_map]; exact hl,fun v hv2=>?_⟩
  obtain ⟨w,hw,rfl⟩:=List.mem_map.1 ((sortG_perm _).mem_iff.1 hv2)
  show (moveV w p).length ≤ _
  rw [moveV_len,hv w hw]; omega
theorem renT_sh {t:TaskV} {p:List Int} (hs:∀ c ∈ t.cases,ShC c) (hsc:Sh t.cases) (hp:p.length ≤ 5) (hlen:∀ k,k < t.cases.length→(t.cases.getD k default).inp.length=p.length∧(∀ v ∈ (t.cases.getD k default).out,v.length=p.length)∧(∀ v ∈ (t.cases.getD k default).calm,v.length=p.length)):Sh (renT t p).cases∧∀ c ∈ (renT t p).cases,ShC c:=by
  refine ⟨by show (sortG _ _).length ≤ _; rw [sortG_len,List.length_map]; exact hsc,fun c hc=>?_⟩
  obtain ⟨d,hd,rfl⟩:=List.mem_map.1 ((sortG_perm _).mem_iff.1 hc)
  obtain ⟨i,hi,rfl⟩:=List.getElem_of_mem hd
  have h:=hlen i hi
  have hsi:=hs _ hd
  rw [show t.cases.getD i default=t.cases[i] by simp [List.getD,hi]] at h
  generalize t.cases[i]=d at *
  obtain ⟨h1,h2,h3⟩:=h
  obtain ⟨s1,s2,s3,s4,s5⟩:=hsi
  have m1:=movedV_sh s2 hp h2
  have m2:=movedV_sh s4 hp h3
  exact ⟨by show (moveV d.inp p).length ≤ _; rw [moveV_len]; exact s1,m1.1,m1.2,m2.1,m2.2⟩
theorem permute_sh {t:TaskV} {p:List Int} (hs:∀ c ∈ t.cases,ShC c) (hsc:Sh t.cases):Sh (permuteT t p).1.cases∧∀ c ∈ (permuteT t p).1.cases,ShC c:=by
  unfold permuteT
  split
  · exact T00_sh
  rename_i h1
  split
  · exact T00_sh
  rename_i h2
  split
  · exact T00_sh
  rename_i h3
  exact renT_sh hs hsc (permE_0 (Decidable.of_not_not h2)).2.1 (lens_ok (Decidable.of_not_not h1) (Decidable.of_not_not h3))
theorem bool_eq_self (b:Bool):(b == b)=true:=by simp
set_option maxHeartbeats 2000000 in
theorem law_changes (t:TaskV) (cs p:List Int) (hs:∀ c ∈ t.cases,ShC c) (hsc:Sh t.cases) (hcs:Sh cs) (hpl:Sh p):Pure Tryz.prog 5 [encT t,encV cs,encV p] (.bool true):=by
  refine Pure.of_c2 follows is5 (Nat.le_of_ble_eq_true rfl) ?_
  simp only [b5,cO,cG,cN,cM,cD,cF,cB,cFal,cTru]
  have haw:=awake_c
  have hfw:=fewR t hs hsc
  have d2:=encT_dat t
  have hcs':cs.length ≤ 17592186044416:=hcs
  have hpl':p.length ≤ 17592186044416:=hpl
  generalize hA:[.int .i64 t.n,.int .i64 t.ins,.int .i64 t.outs,encCs t.cases]=A
  have hTA:encT t=.agg A:=by rw [← hA]; rfl
  rw [hTA] at hfw d2 ⊢
  have hAl:A.length=4:=by subst hA; rfl
  by_cases hF:fewT t=true∧¬ (40 < cs.length∧cs.length ≤ 1024)∧cs.length ≤ 1033∧p.length ≤ 20
  rotate_left
  · cases hf:fewT t with
    | false =>
      rw [hf] at hfw
      subst hA
      (have zz:=aI @encCs_one @encCs_cells; repeat' (first | apply w_seq | apply w_ops0 | apply w_ret | apply a_n | apply a_r | apply o_nil | refine vZ ?_ | refine cZ ?_ (hp:=by first | exact haw | exact hfw) | refine bxZ ?_ | refine gFZ ?_ | refine cTZ ?_ | refine e_ends rfl ?_ | refine r1Z ?_ | fail)) <;> (try clear zz)
      all_goals exact snap_bool rfl
    | true =>
      rw [hf] at hfw
      have hF:¬ (¬ (40 < cs.length∧cs.length ≤ 1024)∧cs.length ≤ 1033∧p.length ≤ 20):=fun h=>hF ⟨hf,h⟩
      subst hA
      (have zz:=aI @encCs_one @encCs_cells; repeat' (first | apply w_seq | apply w_ops0 | apply w_ret | apply a_n | apply a_r | apply o_nil | refine vZ ?_ | refine cZ ?_ (hp:=by first | exact haw | exact hfw) | refine bxZ ?_ | refine gTZ ?_ | refine gFZ ?_ | refine cTZ ?_ | ((first | refine gBZ ?_ ?_ | refine cdZ ?_ ?_) <;> (intro _hg; (try simp only [ZB] at _hg); try first | exact absurd trivial _hg | (exfalso; omega))) | refine e_ends rfl ?_ | refine r1Z ?_ | fail)) <;> (try clear zz)
      all_goals exact snap_bool rfl
  obtain ⟨hf,hF1,hF2,hF3⟩:=hF
  have hq:=(few_q hf).2
  rw [hf] at hfw
  have c1:=restrict_c t cs hs hsc hq hcs
  have c2:=restrictR t cs hs hsc hcs
  have c3:=permute_c t p hs hsc hq hpl
  have c4:=permuteR t p hs hsc hq hpl
  have c5:=agreement_c t hs hsc
  have c6:=agreementR t hs hsc
  have c7:=size_c t hs hsc (fun c hc=>(hq c hc).1)
  have c8:=sizeR t hs hsc (fun c hc=>(hq c hc).1)
  have hs1:=same_r (restrictT t cs).1 (restrict_sh hs hcs).1 (restrict_sh hs hcs).2
  have hs2:=same_r (permuteT t p).1 (permute_sh hs hsc).1 (permute_sh hs hsc).2
  rw [hTA] at c1 c2 c3 c4 c5 c6 c7 c8
  generalize restrictT t cs=X at *
  generalize permuteT t p=Y at *
  generalize agreementT t=Z at *
  generalize sizeT t=V at *
  have dX:=encT_dat X.1
  have dY:=encT_dat Y.1
  unfold encT at dX dY
  have z1:decide (X.2 ≠ X.2)=false:=decide_eq_false (fun h=>h rfl)
  have z2:decide (Y.2 ≠ Y.2)=false:=decide_eq_false (fun h=>h rfl)
  have z3:decide (Z.2=Z.2)=true:=decide_eq_true rfl
  have z4:(Z.1 == Z.1)=true:=bool_eq_self _
  have z5:decide (V.1=V.1)=true:=decide_eq_true rfl
  have z6:decide (V.2.1=V.2.1)=true:=decide_eq_true rfl
  have z7:decide (V.2.2=V.2.2)=true:=decide_eq_true rfl
  refine w_seqC (fun T H nx=>T 1=encV cs∧T 2=encV p∧T 3=.ptr 0 4 0∧H=hupd noBoxes 0 A∧nx=1) ?_ ?_
  · subst hA
    (have zz:=aI @encCs_one @encCs_cells; repeat' (first | apply w_ops0 | apply a_n | apply o_nil | refine vZ ?_ | refine bxZ ?_ | fail)) <;> (try clear zz)
    exact ⟨rfl,rfl,rfl,rfl,rfl⟩
  rintro T H nx ⟨t1,t2,t3,rfl,rfl⟩
  refine w_seqC (fun T H nx=>T 1=encV cs∧T 2=encV p∧T 3=.ptr 0 4 0∧H=hupd noBoxes 0 A∧nx=1) ?_ ?_
  · subst hA
    (have zz:=aI @t1 (aI @t2 @t3); repeat' (first | apply w_seq | apply w_ops0 | apply w_skip | apply a_n | apply o_nil | refine vZ ?_ | refine cZ ?_ (hp:=hfw) | refine gTZ ?_ | refine gFZ ?_ | ((first | refine gBZ ?_ ?_ | refine cdZ ?_ ?_) <;> (intro _hg; (try simp only [ZB] at _hg); try first | exact absurd trivial _hg | (exfalso; omega))) | fail)) <;> (try clear zz)
    all_goals exact ⟨(have zz:=@t1; evZ),(have zz:=@t2; evZ),(have zz:=@t3; evZ),rfl,rfl⟩
  clear t1 t2 t3
  rintro T H nx ⟨t1,t2,t3,rfl,rfl⟩
  subst hA
  (have zz:=aI @t1 (aI @t2 (aI @t3 (aI @encT_cells (aI @encCs_one (aI @encCs_cells (aI @z1 (aI @z2 (aI @z3 (aI @z4 (aI @z5 (aI @z6 @z7))))))))))); repeat' (first | apply w_seq | apply w_ops0 | apply w_skip | apply w_ret | apply a_n | apply o_nil | refine vZ ?_ | refine cZ ?_ (hp:=by first | exact haw | exact c1 | exact c2 | exact c3 | exact c4 | exact c5 | exact c6 | exact c7 | exact c8 | exact hs1 | exact hs2) | refine alZ ?_ | refine stZ ?_ | refine gTZ ?_ | (refine gBZ ?_ ?_ <;> (intro _hg; (try simp only [ZB] at _hg); try first | exact absurd trivial _hg | (exfalso; omega))) | refine cFZ ?_ | refine e_ends rfl ?_ | refine r1Z ?_ | fail)) <;> (try clear zz)
  all_goals exact snap_bool rfl
end Go.Proofs.YtbiikomnhkbblaaGreat
