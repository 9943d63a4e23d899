/- Texts of this claim, one after the other: T33, T34, T35, T36, T37, T38, T39. -/
import Derived.Test.YtbiikomnhkbblaaGreatXG7

set_option linter.unusedSimpArgs false
set_option linter.unusedVariables false
namespace Go.Proofs.YtbiikomnhkbblaaGreat
open Go Go.Abs
open Nat (reduceEqDiff reduceAdd reduceLeDiff)
def KC (c d:CaseV):Int:=order c.inp d.inp
def renC (p:List Int) (c:CaseV):CaseV:=⟨moveV c.inp p,movedV c.out p,movedV c.calm p⟩
def renT (t:TaskV) (p:List Int):TaskV:=⟨t.n,t.ins,t.outs,sortG KC (t.cases.map (renC p))⟩
def permuteT (t:TaskV) (p:List Int):TaskV × Int:=if checkE t ≠ 0 then (T00,checkE t) else if permE p ≠ 0 then (T00,permE p) else if (p.length:Int) ≠ t.n then (T00,22) else (renT t p,0)
theorem ordC:Ord KC where
  irr x:=ordV.irr x.inp
  asym x y:=ordV.asym x.inp y.inp
  negtr x y z:=ordV.negtr x.inp y.inp z.inp
theorem moved_one (v p:List Int):movedV [v] p=[moveV v p]:=rfl
theorem inp_len {t:TaskV} {k:Nat} (h:checkE t=0) (hk:k < t.cases.length):((t.cases.getD k default).inp.length:Int)=t.n:=by
  have:=(vectorE_0 ((check_parts h).2.2 k hk).1).1
  exact this
def only2 (b1:Nat) (c1:List AV) (b2:Nat) (c2:List AV):Hp:=fun b=>if b=b1 then some c1 else if b=b2 then some c2 else none
theorem sub_only2 {H:Hp} {b1 b2:Nat} {c1 c2:List AV} (h1:H b1=some c1) (h2:H b2=some c2):Sub (only2 b1 c1 b2 c2) H:=fun x c hx=>by
  unfold only2 at hx
  split at hx
  · cases hx; subst_vars; exact h1
  · split at hx <;> cases hx
    subst_vars; exact h2
attribute [local irreducible] awp2 aops2 ains aloop athen bbind obind gbind acond res1 Go.Abs.Fn PCall Go.Abs.Pure SnapArgs SnapL Yl
theorem permute1_c (x y:CaseV) (hx:ShC x) (hy:ShC y):Pure Tryz.prog 68 [encC x,encC y] (.int .i64 (KC x y)):=by
  refine Pure.of_c2 follows is68 (Nat.le_of_ble_eq_true rfl) ?_
  simp only [b68,cO,cG,cN,cM,cD,cF,cB,cFal,cTru]
  have hc:=compare_c x.inp y.inp hx.1 hy.1
  unfold encC KC
  (have zz:=and_self; repeat' (first | apply w_seq | apply w_ops0 | apply w_ret | apply a_n | apply o_nil | refine vZ ?_ | refine cZ ?_ (hp:=hc) | refine bxZ ?_ | refine e_ends rfl ?_ | refine r1Z ?_ | fail)) <;> (try clear zz)
  exact snap_int rfl
theorem cmpC:Cmp3 Tryz.prog encC KC ShC 68 [] where
  len _:=rfl
  agg _:=rfl
  ones _:=rfl
  dat v:=encC_dat v
  dcaps:=by simp
  run x y hx hy:=permute1_c x y hx hy
  ord:=ordC
theorem snap_cases {H:Hp} {B n:Nat} {M:List CaseV} (hB:H B=some (M.c3 encC)) (hM:M.length=n):Snap H (.msl B (n * 3) 3 0 n) (encCs M):=by
  subst hM
  refine Row.snap (elems:=M.map encC) ?_ (fun y hy=>?_) (by omega) (fun y hy c hc=>?_)
  · rw [List.flatMap_map]
    exact .box B M.length _ hB (c3_len (fun _=>rfl) M)
  · obtain ⟨x,_,rfl⟩:=List.mem_map.1 hy; rfl
  · obtain ⟨x,_,rfl⟩:=List.mem_map.1 hy
    simp only [encC,AV.cells,List.mem_cons,List.not_mem_nil,or_false] at hc
    rcases hc with rfl | rfl | rfl
    · exact encV_dat _
    · exact encVV_dat _
    · exact encVV_dat _
set_option maxHeartbeats 1000000 in
theorem permute_c (t:TaskV) (p:List Int) (hs:∀ c ∈ t.cases,ShC c) (hsc:Sh t.cases) (hq:∀ c ∈ t.cases,c.out.length ≤ 100000∧c.calm.length ≤ 100000) (hl:Sh p):Pure Tryz.prog 26 [encT t,encV p] (.tup [encT (permuteT t p).1,.int .i64 (permuteT t p).2]):=by
  refine Pure.of_c2 follows is26 (Nat.le_of_ble_eq_true rfl) ?_
  simp only [b26,cO,cG,cN,cM,cD,cF,cB,cFal,cTru]
  have hl':p.length ≤ 17592186044416:=hl
  have hsc':t.cases.length ≤ 17592186044416:=hsc
  have hc:=check_c t hs hsc
  have hpc:=permCheck_c p hl
  have d2:=encT_dat t
  by_cases he:checkE t=0
  rotate_left
  · have e:permuteT t p=(T00,checkE t):=by unfold permuteT; rw [if_pos he]
    rw [e]
    generalize checkE t=C at *
    unfold encT at hc d2
    rw [show encT t=.agg [.int .i64 t.n,.int .i64 t.ins,.int .i64 t.outs,encCs t.cases] from rfl]
    (have zz:=aI @encCs_one (aI @encCs_cells @alenS_encCs); repeat' (first | apply w_seq | apply w_ops0 | apply w_ret | apply a_n | apply a_r | apply o_nil | refine vZ ?_ | refine cZ ?_ (hp:=hc) | refine alZ ?_ | refine bxZ ?_ | refine stZ ?_ | (refine cdZ ?_ ?_ <;> (intro _hg; (try simp only [ZB] at _hg); try first | exact absurd trivial _hg | (exfalso; omega))) | refine e_ends rfl ?_ | refine r2Z ?_ | fail)) <;> (try clear zz)
    exact snapErr _
  rw [he] at hc
  by_cases hp:permE p=0
  rotate_left
  · have e:permuteT t p=(T00,permE p):=by unfold permuteT; rw [if_neg (fun h=>h he),if_pos hp]
    rw [e]
    generalize permE p=C at *
    unfold encT at hc d2
    rw [show encT t=.agg [.int .i64 t.n,.int .i64 t.ins,.int .i64 t.outs,encCs t.cases] from rfl]
    (have zz:=aI @encCs_one (aI @encCs_cells @alenS_encCs); repeat' (first | apply w_seq | apply w_ops0 | apply w_skip | apply w_ret | apply a_n | apply a_r | apply o_nil | refine vZ ?_ | refine cZ ?_ (hp:=by first | exact hc | exact hpc) | refine alZ ?_ | refine bxZ ?_ | refine stZ ?_ | (refine cdZ ?_ ?_ <;> (intro _hg; (try simp only [ZB] at _hg); try first | exact absurd trivial _hg | (exfalso; omega))) | refine e_ends rfl ?_ | refine r2Z ?_ | fail)) <;> (try clear zz)
    exact snapErr _
  rw [hp] at hpc
  by_cases hn:(p.length:Int) ≠ t.n
  · have e:permuteT t p=(T00,22):=by unfold permuteT; rw [if_neg (fun h=>h he),if_neg (fun h=>h hp),if_pos hn]
    rw [e]
    have z:decide ((p.length:Int)=t.n)=false:=decide_eq_false hn
    unfold encT at hc d2
    rw [show encT t=.agg [.int .i64 t.n,.int .i64 t.ins,.int .i64 t.outs,encCs t.cases] from rfl]
    (have zz:=aI @encCs_one (aI @encCs_cells (aI @alenS_encCs @z)); repeat' (first | apply w_seq | apply w_ops0 | apply w_skip | apply w_ret | apply a_n | apply a_r | apply o_nil | refine vZ ?_ | refine cZ ?_ (hp:=by first | exact hc | exact hpc) | refine alZ ?_ | refine bxZ ?_ | refine stZ ?_ | (refine cdZ ?_ ?_ <;> (intro _hg; (try simp only [ZB] at _hg); try first | exact absurd trivial _hg | (exfalso; omega))) | refine e_ends rfl ?_ | refine r2Z ?_ | fail)) <;> (try clear zz)
    exact snapErr _
  have e:permuteT t p=(renT t p,0):=by unfold permuteT; rw [if_neg (fun h=>h he),if_neg (fun h=>h hp),if_neg hn]
  rw [e]
  have hn:(p.length:Int)=t.n:=Decidable.of_not_not hn
  obtain ⟨p1,p5,-,-⟩:=permE_0 hp
  have z:decide ((p.length:Int)=t.n)=true:=decide_eq_true hn
  have hcl:=(check_parts he).2.1
  have hren:∀ k,k < t.cases.length→(t.cases.getD k default).inp.length=p.length∧(∀ v ∈ (t.cases.getD k default).out,v.length=p.length)∧(∀ v ∈ (t.cases.getD k default).calm,v.length=p.length):=fun k hk=>by
    have h1:=inp_len he hk
    obtain ⟨_,h2,h3⟩:=case_vecs he hk
    exact ⟨by omega,fun v hv=>by have:=(h2 v hv).1; omega,fun v hv=>by have:=(h2 v (h3 v hv)).1; omega⟩
  generalize hA:[.int .i64 t.n,.int .i64 t.ins,.int .i64 t.outs,encCs t.cases]=A
  have hTA:encT t=.agg A:=by rw [← hA]; rfl
  rw [hTA] at hc d2 ⊢
  refine w_seqC (fun T H nx=>T 1=encV p∧T 2=.ptr 0 4 0∧T 4=.ptr 1 4 0∧T 5=.int .i64 0∧H=hupd (hupd noBoxes 0 A) 1 [.int .i64 0,.int .i64 0,.int .i64 0,.esl]∧nx=2) ?_ ?_
  · subst hA
    (have zz:=aI @encCs_one @encCs_cells; repeat' (first | apply w_ops0 | apply a_n | apply o_nil | refine vZ ?_ | refine alZ ?_ | refine bxZ ?_ | fail)) <;> (try clear zz)
    exact ⟨rfl,rfl,rfl,rfl,rfl,rfl⟩
  rintro T H nx ⟨t1,t2,t4,t5,rfl,rfl⟩
  refine w_seqC (fun T H nx=>T 1=encV p∧T 2=.ptr 0 4 0∧T 4=.ptr 1 4 0∧T 5=.int .i64 0∧H=hupd (hupd noBoxes 0 A) 1 [.int .i64 0,.int .i64 0,.int .i64 0,.esl]∧nx=2) ?_ ?_
  · subst hA
    (have zz:=aI @t1 (aI @t2 (aI @t4 @t5)); repeat' (first | apply w_seq | apply w_ops0 | apply w_skip | apply a_n | apply o_nil | refine vZ ?_ | refine cZ ?_ (hp:=hc) | (refine cdZ ?_ ?_ <;> (intro _hg; (try simp only [ZB] at _hg); try first | exact absurd trivial _hg | (exfalso; omega))) | fail)) <;> (try clear zz)
    exact ⟨(have zz:=aI @t1 (aI @t2 (aI @t4 @t5)); evZ),(have zz:=aI @t1 (aI @t2 (aI @t4 @t5)); evZ),(have zz:=aI @t1 (aI @t2 (aI @t4 @t5)); evZ),(have zz:=aI @t1 (aI @t2 (aI @t4 @t5)); evZ),rfl,rfl⟩
  clear t1 t2 t4 t5
  rintro T H nx ⟨t1,t2,t4,t5,rfl,rfl⟩
  refine w_seqC (fun T H nx=>T 1=encV p∧T 2=.ptr 0 4 0∧T 4=.ptr 1 4 0∧T 5=.int .i64 0∧H=hupd (hupd noBoxes 0 A) 1 [.int .i64 0,.int .i64 0,.int .i64 0,.esl]∧nx=2) ?_ ?_
  · (have zz:=aI @t1 (aI @t2 (aI @t4 @t5)); repeat' (first | apply w_seq | apply w_ops0 | apply w_skip | apply a_n | apply o_nil | refine vZ ?_ | refine cZ ?_ (hp:=hpc) | (refine cdZ ?_ ?_ <;> (intro _hg; (try simp only [ZB] at _hg); try first | exact absurd trivial _hg | (exfalso; omega))) | fail)) <;> (try clear zz)
    exact ⟨(have zz:=aI @t1 (aI @t2 (aI @t4 @t5)); evZ),(have zz:=aI @t1 (aI @t2 (aI @t4 @t5)); evZ),(have zz:=aI @t1 (aI @t2 (aI @t4 @t5)); evZ),(have zz:=aI @t1 (aI @t2 (aI @t4 @t5)); evZ),rfl,rfl⟩
  clear t1 t2 t4 t5
  rintro T H nx ⟨t1,t2,t4,t5,rfl,rfl⟩
  refine w_seqC (fun T H nx=>T 1=encV p∧T 2=.ptr 0 4 0∧T 4=.ptr 1 4 0∧T 5=.int .i64 0∧H=hupd (hupd noBoxes 0 A) 1 [.int .i64 0,.int .i64 0,.int .i64 0,.esl]∧nx=2) ?_ ?_
  · subst hA
    (have zz:=aI @t1 (aI @t2 (aI @t4 (aI @t5 @z))); repeat' (first | apply w_seq | apply w_ops0 | apply w_skip | apply a_n | apply o_nil | refine vZ ?_ | (refine cdZ ?_ ?_ <;> (intro _hg; (try simp only [ZB] at _hg); try first | exact absurd trivial _hg | (exfalso; omega))) | fail)) <;> (try clear zz)
    exact ⟨(have zz:=aI @t1 (aI @t2 (aI @t4 @t5)); evZ),(have zz:=aI @t1 (aI @t2 (aI @t4 @t5)); evZ),(have zz:=aI @t1 (aI @t2 (aI @t4 @t5)); evZ),(have zz:=aI @t1 (aI @t2 (aI @t4 @t5)); evZ),rfl,rfl⟩
  clear t1 t2 t4 t5
  rintro T H nx ⟨t1,t2,t4,t5,rfl,rfl⟩
  refine w_seqC (fun T H nx=>T 1=encV p∧T 2=.ptr 0 4 0∧T 4=.ptr 1 4 0∧T 8=.ptr 2 4 0∧H 0=some A∧H 1=some [.int .i64 0,.int .i64 0,.int .i64 0,.esl]∧H 2=some [.int .i64 t.n,.int .i64 t.ins,.int .i64 t.outs,.esl]∧nx=3) ?_ ?_
  · subst hA
    (have zz:=aI @t1 (aI @t2 (aI @t4 @t5)); repeat' (first | apply w_ops0 | apply a_n | apply o_nil | refine vZ ?_ | refine alZ ?_ | refine stZ ?_ | fail)) <;> (try clear zz)
    exact ⟨(have zz:=aI @t1 (aI @t2 (aI @t4 @t5)); evZ),(have zz:=aI @t1 (aI @t2 (aI @t4 @t5)); evZ),(have zz:=aI @t1 (aI @t2 (aI @t4 @t5)); evZ),(have zz:=aI @t1 (aI @t2 (aI @t4 @t5)); evZ),rfl,rfl,rfl,rfl⟩
  clear t1 t2 t4 t5
  rintro T H nx ⟨t1,t2,t4,t8,g0,g1,g2,rfl⟩
  generalize hL:t.cases.map (renC p)=L
  have hLl:L.length=t.cases.length:=by rw [← hL,List.length_map]
  refine w_seqC (fun T H nx=>T 4=.ptr 1 4 0∧T 8=.ptr 2 4 0∧3 ≤ nx∧H 1=some [.int .i64 0,.int .i64 0,.int .i64 0,.esl]∧∃ sv,H 2=some [.int .i64 t.n,.int .i64 t.ins,.int .i64 t.outs,sv]∧Row H 3 sv (L.c3 encC)∧∀ b,rowB sv=some b→3 ≤ b∧b < nx) ?_ ?_
  · subst hA
    (have zz:=aI @t2 (aI @g0 @alenS_encCs); repeat' (first | apply w_seq | apply w_ops0 | apply w_block | apply a_n | apply o_nil | refine vY ?_ | apply w_loop | fail)) <;> (try clear zz)
    refine loopI (X:=AV × Nat) (fun x=>[(1,encV p),(2,.ptr 0 4 0),(4,.ptr 1 4 0),(8,.ptr 2 4 0),(37,encCs t.cases),(38,.int .i64 t.cases.length),(39,.int .i64 x.2)]) (fun x H nx=>x.2 ≤ t.cases.length∧3 ≤ nx∧H 1=some [.int .i64 0,.int .i64 0,.int .i64 0,.esl]∧H 2=some [.int .i64 t.n,.int .i64 t.ins,.int .i64 t.outs,x.1]∧Row H 3 x.1 (((t.cases.take x.2).map (renC p)).c3 encC)∧∀ b,rowB x.1=some b→3 ≤ b∧b < nx) (fun x=>t.cases.length - x.2) (.esl,0) ⟨Nat.zero_le _,Nat.le_refl _,g1,g2,Row.nil,fun b hb=>(by cases hb)⟩ (have zz:=aI @t1 (aI @t2 (aI @t4 @t8)); agZ) ?_
    rintro ⟨sv,k⟩ H nx ⟨hk,hnx,k1,k2,hrow,hb⟩
    dsimp only at hk k2 hrow hb ⊢
    by_cases hk2:k < t.cases.length
    rotate_left
    · rw [List.take_of_length_le (by omega),hL] at hrow
      (have zz:=and_self; repeat' (first | apply w_seq | apply w_ops0 | apply w_exit | apply a_n | apply a_x | apply o_nil | refine vZ ?_ | (refine cdZ ?_ ?_ <;> (intro _hg; (try simp only [ZB] at _hg); try first | exact absurd trivial _hg | (exfalso; omega))) | fail)) <;> (try clear zz)
      exact ⟨rfl,rfl,hnx,k1,sv,k2,hrow,hb⟩
    have ix:=aixS_encCs hk2
    obtain ⟨r1,r2,r3⟩:=hren k hk2
    obtain ⟨q1,q2⟩:=hq _ (mem_getD hk2)
    have hst:((t.cases.take (k + 1)).map (renC p)).c3 encC=((t.cases.take k).map (renC p)).c3 encC ++ (encC (renC p (t.cases.getD k default))).cells:=by
      rw [take_succ' hk2,List.map_append]
      simp [List.c3]
    have hlen:(((t.cases.take k).map (renC p)).c3 encC).length=k * 3:=by
      rw [c3_len (fun _=>rfl),List.length_map,List.length_take]; omega
    generalize t.cases.getD k default=c at *
    obtain ⟨inp,out,calm⟩:=c
    dsimp only at *
    have m1:=moved_c [inp] p hp (by simp) (fun v hv=>by simp at hv; subst hv; exact r1)
    rw [moved_one] at m1
    have m2:=moved_c out p hp q1 r2
    have m3:=moved_c calm p hp q2 r3
    (have zz:=@ix; repeat' (first | apply w_seq | apply w_ops0 | apply w_block | apply w_skip | apply a_n | apply o_nil | refine vY ?_ | refine alY ?_ | refine stY ?_ | (refine cdY ?_ ?_ <;> (intro _hg; (try simp only [ZB] at _hg); try first | exact absurd trivial _hg | (exfalso; omega))) | fail)) <;> (try clear zz)
    refine w_mixS (only2 2 [.int .i64 t.n,.int .i64 t.ins,.int .i64 t.outs,sv] nx [encV inp,encVV out,encVV calm]) rfl (sub_only2 (by rw [hupd_ne (by omega),hupd_ne (by omega)]; exact k2) (by rw [hupd_self']; rfl)) ?_
    have hS2:only2 2 [.int .i64 t.n,.int .i64 t.ins,.int .i64 t.outs,sv] nx [encV inp,encVV out,encVV calm] 2=some [.int .i64 t.n,.int .i64 t.ins,.int .i64 t.outs,sv]:=if_pos rfl
    have hSn:only2 2 [.int .i64 t.n,.int .i64 t.ins,.int .i64 t.outs,sv] nx [encV inp,encVV out,encVV calm] nx=some [encV inp,encVV out,encVV calm]:=by unfold only2; rw [if_neg (by omega),if_pos rfl]
    generalize hSS:only2 2 [.int .i64 t.n,.int .i64 t.ins,.int .i64 t.outs,sv] nx [encV inp,encVV out,encVV calm]=S at hS2 hSn ⊢
    have hSub:∀ H',H' 2=some [.int .i64 t.n,.int .i64 t.ins,.int .i64 t.outs,sv]→H' nx=some [encV inp,encVV out,encVV calm]→Sub S H':=fun H' a1 a2=>by rw [← hSS]; exact sub_only2 a1 a2
    have hB2:hupd (hupd H nx [.esl,.esl,.esl]) nx (lput [.esl,.esl,.esl] 0 [encV inp,encVV out,encVV calm]) 2=some [.int .i64 t.n,.int .i64 t.ins,.int .i64 t.outs,sv]:=by rw [hupd_ne (by omega),hupd_ne (by omega)]; exact k2
    have hBn:hupd (hupd H nx [.esl,.esl,.esl]) nx (lput [.esl,.esl,.esl] 0 [encV inp,encVV out,encVV calm]) nx=some [encV inp,encVV out,encVV calm]:=by rw [hupd_self']; rfl
    (have zz:=aI @hS2 @hSn; repeat' (first | refine nvY ?_ | fail)) <;> (try clear zz)
    refine n_bld (pv:=[(0,1,encV inp)]) (cs:=[encV inp]) ev0 rfl (by decide) rfl rfl ?_
    (have zz:=aI @hS2 @hSn; repeat' (first | refine nvY ?_ | fail)) <;> (try clear zz)
    refine n_keep ?_
    refine o_callP ev0 (by ((try simp only [simB0,ZA,reduceEqDiff,↓reduceIte,reduceAdd,reduceLeDiff]); (try with_reducible rfl)); rfl) m1 (snap_data (snapL_cons (encVV_dat [inp] _) (snapL_cons (encV_dat _ _) snapL_nil))) ?_
    refine o_nil ⟨hSub _ hB2 hBn,?_⟩
    have ix1:aixS 1 (encVV [moveV inp p]) (.int .i64 0)=some (.iptr [encV (moveV inp p)] 0):=rfl
    (have zz:=aI @hS2 (aI @hSn @ix1); repeat' (first | refine nvY ?_ | fail)) <;> (try clear zz)
    refine n_keep ?_
    refine o_callP ev0 ev0 m2 (snap_data (snapL_cons (encVV_dat _ _) (snapL_cons (encV_dat _ _) snapL_nil))) ?_
    refine o_nil ⟨hSub _ hB2 hBn,?_⟩
    refine n_keep ?_
    refine o_callP ev0 ev0 m3 (snap_data (snapL_cons (encVV_dat _ _) (snapL_cons (encV_dat _ _) snapL_nil))) ?_
    refine o_nil ⟨hSub _ hB2 hBn,?_⟩
    (have zz:=aI @hS2 @hSn; repeat' (first | refine nvY ?_ | fail)) <;> (try clear zz)
    refine n_keep ?_
    (have zz:=and_self; repeat' (first | apply o_nil | refine blY ?_ | fail)) <;> (try clear zz)
    refine ⟨hSub _ (by rw [hupd_ne (by omega)]; exact hB2) (by rw [hupd_ne (by omega)]; exact hBn),?_⟩
    (have zz:=aI @hS2 @hSn; repeat' (first | apply n_any | fail)) <;> (try clear zz)
    refine e_row rfl ev0 (hrow.same fun b' hb'=>?_) ev0 asrc_three rfl rfl (by omega) (by rw [hlen]; omega) (by rw [hlen]; omega) ?_
    · have:=hb b' hb'
      rw [hupd_ne (by omega),hupd_ne (by omega),hupd_ne (by omega)]
    rintro sv' H2 nx2 u1 u2 u3 u4 u5
    have v1:∀ x,x < nx→rowB sv ≠ some x→H2 x=H x:=fun x a1 a2=>(u4 x (by omega) a2).trans (by rw [hupd_ne (by omega),hupd_ne (by omega),hupd_ne (by omega)])
    have g2':H2 2=some [.int .i64 t.n,.int .i64 t.ins,.int .i64 t.outs,sv]:=(v1 2 (by omega) (fun h=>by have:=hb 2 h; omega)).trans k2
    obtain ⟨q1',q2'⟩:=u1.one
    have ub:∀ b',rowB sv'=some b'→3 ≤ b'∧b' < nx2:=fun b' hb'=>by
      rcases u5 b' hb' with e | ⟨e1,e2⟩
      · have:=hb b' e; omega
      · omega
    (have zz:=aI @hS2 (aI @hSn (aI @g2' (aI @q1' @q2'))); repeat' (first | apply w_ops0 | apply a_n | apply o_nil | refine vY ?_ | refine nvY ?_ | apply n_any | refine stY ?_ | fail)) <;> (try clear zz)
    refine ⟨(sv',k + 1),by dsimp only; omega,⟨by dsimp only; omega,by omega,?_,?_,?_,fun b' hb'=>ub b' hb'⟩,ag0⟩
    · rw [hupd_ne (by omega)]
      exact (v1 1 (by omega) (fun h=>by have:=hb 1 h; omega)).trans k1
    · rw [hupd_self']; rfl
    · dsimp only
      rw [hst]
      exact u1.same fun b' hb'=>hupd_ne (by have:=ub b' hb'; omega)
  clear t1 t2 t4 t8 g0 g1 g2
  rintro T H nx ⟨t4,t8,hnx,g1,sv,g2,hrow,hb⟩
  have hLs:∀ x ∈ L,ShC x:=fun x hx=>by
    rw [← hL] at hx
    obtain ⟨c,hc2,rfl⟩:=List.mem_map.1 hx
    obtain ⟨i,hi,rfl⟩:=List.getElem_of_mem hc2
    have hr:=hren i hi
    have hqq:=hq _ hc2
    rw [show t.cases.getD i default=t.cases[i] by simp [List.getD,hi]] at hr
    generalize t.cases[i]=c at *
    refine ⟨?_,?_,fun v hv=>?_,?_,fun v hv=>?_⟩
    · show (moveV c.inp p).length ≤ _; rw [moveV_len,hr.1]; omega
    · show (movedV c.out p).length ≤ _; unfold movedV; rw [sortG_len,List.length_map]; omega
    · obtain ⟨w,hw,rfl⟩:=List.mem_map.1 ((sortG_perm _).mem_iff.1 hv)
      show (moveV w p).length ≤ _; rw [moveV_len,hr.2.1 w hw]; omega
    · show (movedV c.calm p).length ≤ _; unfold movedV; rw [sortG_len,List.length_map]; omega
    · obtain ⟨w,hw,rfl⟩:=List.mem_map.1 ((sortG_perm _).mem_iff.1 hv)
      show (moveV w p).length ≤ _; rw [moveV_len,hr.2.2 w hw]; omega
  have hrow':∃ B,sv=.msl B (L.length * 3) 3 0 L.length∧H B=some (L.c3 encC)∧3 ≤ B∧B < nx:=by
    generalize hcs:L.c3 encC=cs at hrow
    have hcl3:(L.c3 encC).length=L.length * 3:=c3_len (fun _=>rfl) L
    cases hrow with
    | nil=>rw [hcs] at hcl3; simp at hcl3; omega
    | box B len cs h1 h2 =>
      have e:len=L.length:=by rw [← hcs,hcl3] at h2; omega
      subst e
      have:=hb B rfl
      exact ⟨B,rfl,h1,this⟩
  obtain ⟨B,rfl,hB,hB3,hBn⟩:=hrow'
  (have zz:=aI @t8 @g2; repeat' (first | apply w_seq | apply w_ops0 | refine vY ?_ | fail)) <;> (try clear zz)
  refine o_callE ev0 (have zz:=aI @t8 @g2; evY) (sortF_k cmpC hB hBn rfl (by omega) hLs (by omega)) ?_
  rintro _ H1 n1 ⟨M,hps,hpM,hsM⟩
  have hMl:M.length=L.length:=hpM.length_eq
  have hM:M=sortG KC L:=sortG_unique ordC (fun x hx y hy h1 h2=>by
    rw [← hL] at hx hy
    obtain ⟨c,hc2,rfl⟩:=List.mem_map.1 hx
    obtain ⟨d,hd2,rfl⟩:=List.mem_map.1 hy
    obtain ⟨i,hi,rfl⟩:=List.getElem_of_mem hc2
    obtain ⟨j,hj,rfl⟩:=List.getElem_of_mem hd2
    have e:=alikeV h1 h2
    have ei:t.cases.getD i default=t.cases[i]:=by simp [List.getD,hi]
    have ej:t.cases.getD j default=t.cases[j]:=by simp [List.getD,hj]
    have e2:=moveV_inj hp (by rw [← ei]; exact (hren i hi).1) (by rw [← ej]; exact (hren j hj).1) e
    have:=inp_inj he hi hj (by rw [ei,ej]; exact e2)
    subst this; rfl) (SortedP.of (by rw [hMl]; exact hsM)) hpM
  have j2:H1 2=some [.int .i64 t.n,.int .i64 t.ins,.int .i64 t.outs,.msl B (L.length * 3) 3 0 L.length]:=(hps.fr 2 (by omega) (by omega)).trans g2
  have j1:H1 1=some [.int .i64 0,.int .i64 0,.int .i64 0,.esl]:=(hps.fr 1 (by omega) (by omega)).trans g1
  (have zz:=aI @t4 (aI @t8 (aI @j1 @j2)); repeat' (first | apply w_seq | apply w_ops0 | apply w_ret | apply a_n | apply o_nil | refine vY ?_ | refine stY ?_ | refine e_ends rfl ?_ | refine r2Y ?_ | fail)) <;> (try clear zz)
  have hren2:renT t p=⟨t.n,t.ins,t.outs,M⟩:=by unfold renT; rw [hL,hM]
  rw [hren2]
  refine snap_tup (snapL_cons (snap_agg (snapL_cons (.int _ _) (snapL_cons (.int _ _) (snapL_cons (.int _ _) (snapL_cons ?_ snapL_nil))))) (snapL_cons (.int _ _) snapL_nil))
  exact snap_cases (by rw [hupd_ne (by omega)]; exact hps.at_) hMl
end Go.Proofs.YtbiikomnhkbblaaGreat
namespace Go.Proofs.YtbiikomnhkbblaaGreat
open Go Go.Abs
open Nat (reduceEqDiff reduceAdd reduceLeDiff)
section
variable {P:Program} {T:Tm} {H:Hp} {nx:Nat}
end
attribute [local irreducible] awp2 aops2 ains aloop athen bbind obind gbind acond res1 Go.Abs.Fn PCall Go.Abs.Pure SnapArgs SnapL Yl
end Go.Proofs.YtbiikomnhkbblaaGreat
namespace Go.Proofs.YtbiikomnhkbblaaGreat
open Go Go.Abs
open Nat (reduceEqDiff reduceAdd reduceLeDiff)
attribute [local irreducible] awp2 aops2 ains aloop athen bbind obind gbind acond res1 Go.Abs.Fn PCall Go.Abs.Pure SnapArgs SnapL Yl
theorem lens_ok {t:TaskV} {p:List Int} (he:checkE t=0) (hn:(p.length:Int)=t.n):∀ k,k < t.cases.length→(t.cases.getD k default).inp.length=p.length∧(∀ v ∈ (t.cases.getD k default).out,v.length=p.length)∧(∀ v ∈ (t.cases.getD k default).calm,v.length=p.length):=fun k hk=>by
  have h1:=inp_len he hk
  obtain ⟨_,h2,h3⟩:=case_vecs he hk
  exact ⟨by omega,fun v hv=>by have:=(h2 v hv).1; omega,fun v hv=>by have:=(h2 v (h3 v hv)).1; omega⟩
def constB (v:List Int):Bool:=v.all fun x=>decide (x=v.getD 0 default)
theorem constB_iff {v:List Int}:constB v=true ↔ ∀ i,i < v.length→v.getD i default=v.getD 0 default:=by
  unfold constB
  rw [List.all_eq_true]
  constructor
  · intro h i hi
    exact of_decide_eq_true (h _ (mem_getD hi))
  · intro h x hx
    obtain ⟨i,hi,rfl⟩:=List.getElem_of_mem hx
    have:=h i hi
    rw [show v.getD i default=v[i] by simp [List.getD,hi]] at this
    exact decide_eq_true this
def agreeB (t:TaskV):Bool:=t.cases.all fun c=>c.out.all constB
def agreementT (t:TaskV):Bool × Int:=if checkE t ≠ 0 then (false,checkE t) else (agreeB t,0)
theorem constant1_c (x:Int) (v:List Int) (h0:0 < v.length):Pure Tryz.prog 94 [.int .i64 x,.iptr [encV v] 0] (.bool (!decide (x=v.getD 0 default))):=by
  refine Pure.of_c2 follows is94 (Nat.le_of_ble_eq_true rfl) ?_
  simp only [b94,cO,cG,cN,cM,cD,cF,cB,cFal,cTru]
  (have zz:=@Int.toNat_zero; repeat' (first | apply w_seq | apply w_ops0 | apply w_ret | apply a_n | apply o_nil | refine vZ ?_ | refine e_ends rfl ?_ | refine r1Z ?_ | fail)) <;> (try clear zz)
  refine snap_bool ?_
  by_cases h:x=v.getD 0 default
  · rw [decide_eq_false (fun k=>k h),decide_eq_true h]; rfl
  · rw [decide_eq_true h,decide_eq_false h]; rfl
theorem any_not {v:List Int} {p:Int→Bool}:(v.any fun x=>!p x)=!(v.all p):=by
  induction v with
  | nil=>rfl
  | cons a l ih=>rw [List.any_cons,List.all_cons,ih,Bool.not_and]
theorem constant_c (v:List Int) (hv:Sh v):Pure Tryz.prog 70 [encV v] (.bool (constB v)):=by
  refine Pure.of_c2 follows is70 (Nat.le_of_ble_eq_true rfl) ?_
  simp only [b70,cO,cG,cN,cM,cD,cF,cB,cFal,cTru]
  have hA:=containsF_c v (fun x=>!decide (x=v.getD 0 default)) 94 [.iptr [encV v] 0] (fun x hx=>by
    simp only [List.mem_singleton] at hx; subst hx
    exact .iptr (DatL.cons (encV_dat _) DatL.nil)) (fun x hx=>constant1_c x v (List.length_pos_iff.2 (List.ne_nil_of_mem hx))) hv
  rw [any_not] at hA
  (have zz:=and_self; repeat' (first | apply w_seq | apply w_ops0 | apply a_n | apply o_nil | refine vZ ?_ | refine bxZ ?_ | fail)) <;> (try clear zz)
  refine o_callP ev0 ev0 hA (snap_plain (by (repeat' (first | exact snapL_nil | exact Dat.snap Dat.int | exact Dat.snap Dat.bool | exact Dat.snap Dat.str | exact Dat.snap Dat.esl | exact Dat.snap Dat.nilf | exact Dat.snap (encV_dat _) | exact Dat.snap (encVV_dat _) | apply snapL_cons | apply snap_func | apply snap_iptr | (apply snap_ptr; (focus ((try simp only [simB0,ZA,reduceEqDiff,↓reduceIte,reduceAdd,reduceLeDiff]); with_reducible rfl)); (focus rfl))))) rfl) ?_
  (have zz:=and_self; repeat' (first | apply w_ret | apply a_n | apply o_nil | refine vZ ?_ | refine e_ends rfl ?_ | refine r1Z ?_ | fail)) <;> (try clear zz)
  refine snap_bool ?_
  rw [Bool.not_not]; rfl
theorem agree_all {t:TaskV}:agreeB t=true ↔ ∀ i,i < t.cases.length→∀ j,j < (t.cases.getD i default).out.length→constB ((t.cases.getD i default).out.getD j default)=true:=by
  unfold agreeB
  rw [List.all_eq_true]
  constructor
  · intro h i hi j hj
    exact List.all_eq_true.1 (h _ (mem_getD hi)) _ (mem_getD hj)
  · intro h c hc
    obtain ⟨i,hi,rfl⟩:=List.getElem_of_mem hc
    rw [List.all_eq_true]
    intro v hv
    obtain ⟨j,hj,rfl⟩:=List.getElem_of_mem hv
    have e:t.cases.getD i default=t.cases[i]:=by simp [List.getD,hi]
    have:=h i hi j (by rw [e]; exact hj)
    rw [e] at this
    simpa [List.getD,hj] using this
theorem agreement_c (t:TaskV) (hs:∀ c ∈ t.cases,ShC c) (hsc:Sh t.cases):Pure Tryz.prog 29 [encT t] (.tup [.bool (agreementT t).1,.int .i64 (agreementT t).2]):=by
  refine Pure.of_c2 follows is29 (Nat.le_of_ble_eq_true rfl) ?_
  simp only [b29,cO,cG,cN,cM,cD,cF,cB,cFal,cTru]
  have hsc':t.cases.length ≤ 17592186044416:=hsc
  have hc:=check_c t hs hsc
  have d2:=encT_dat t
  have fin:∀ {H:Hp} (b:Bool) (e:Int),Snap H (.tup [.bool b,.int .i64 e]) (.tup [.bool b,.int .i64 e]):=fun b e=>snap_tup (snapL_cons (.bool _) (snapL_cons (.int _ _) snapL_nil))
  by_cases he:checkE t=0
  rotate_left
  · have e:agreementT t=(false,checkE t):=by unfold agreementT; rw [if_pos he]
    rw [e]
    generalize checkE t=C at *
    unfold encT at *
    (have zz:=aI @encCs_one (aI @encCs_cells @alenS_encCs); repeat' (first | apply w_seq | apply w_ops0 | apply w_ret | apply a_n | apply a_r | apply o_nil | refine vZ ?_ | refine cZ ?_ (hp:=hc) | refine bxZ ?_ | (refine cdZ ?_ ?_ <;> (intro _hg; (try simp only [ZB] at _hg); try first | exact absurd trivial _hg | (exfalso; omega))) | refine e_ends rfl ?_ | refine r2Z ?_ | fail)) <;> (try clear zz)
    exact fin _ _
  have e:agreementT t=(agreeB t,0):=by unfold agreementT; rw [if_neg (fun h=>h he)]
  rw [e]
  rw [he] at hc
  unfold encT at *
  (have zz:=aI @encCs_one (aI @encCs_cells @alenS_encCs); repeat' (first | apply w_seq | apply w_ops0 | apply w_block | apply w_skip | apply a_n | apply o_nil | refine vZ ?_ | refine cZ ?_ (hp:=hc) | refine bxZ ?_ | (refine cdZ ?_ ?_ <;> (intro _hg; (try simp only [ZB] at _hg); try first | exact absurd trivial _hg | (exfalso; omega))) | apply w_loop | fail)) <;> (try clear zz)
  refine loopI (X:=Nat) (fun k=>[(1,.ptr 0 4 0),(15,encCs t.cases),(16,.int .i64 t.cases.length),(17,.int .i64 k)]) (fun k H nx=>k ≤ t.cases.length∧∀ i,i < k→∀ j,j < (t.cases.getD i default).out.length→constB ((t.cases.getD i default).out.getD j default)=true) (fun k=>t.cases.length - k) 0 ⟨Nat.zero_le _,fun i hi=>absurd hi (by omega)⟩ (by simp (disch:=omega) only [agr,ZG,reduceEqDiff,↓reduceIte,List.length_cons,List.length_nil,Nat.zero_add,reduceAdd]) ?_
  rintro k H nx ⟨hk,hz⟩
  by_cases hk2:k < t.cases.length
  rotate_left
  · have:agreeB t=true:=agree_all.2 fun i hi=>hz i (by omega)
    rw [this]
    (have zz:=and_self; repeat' (first | apply w_seq | apply w_ops0 | apply w_exit | apply w_ret | apply a_n | apply a_x | apply o_nil | refine vZ ?_ | (refine cdZ ?_ ?_ <;> (intro _hg; (try simp only [ZB] at _hg); try first | exact absurd trivial _hg | (exfalso; omega))) | refine e_ends rfl ?_ | refine r2Z ?_ | fail)) <;> (try clear zz)
    exact fin _ _
  have ix:=aixS_encCs hk2
  obtain ⟨s1,s2,s3,s4,s5⟩:=hs _ (mem_getD hk2)
  have s2':(t.cases.getD k default).out.length ≤ 17592186044416:=s2
  have hall:=fun (h:agreeB t=true)=>agree_all.1 h k hk2
  have hsucc:(∀ j,j < (t.cases.getD k default).out.length→constB ((t.cases.getD k default).out.getD j default)=true)→∀ i,i < k + 1→∀ j,j < (t.cases.getD i default).out.length→constB ((t.cases.getD i default).out.getD j default)=true:=fun h i hi=>by
    rcases Nat.lt_succ_iff_lt_or_eq.1 hi with h1 | rfl
    · exact hz i h1
    · exact h
  generalize t.cases.getD k default=c at *
  (have zz:=@ix; repeat' (first | apply w_seq | apply w_ops0 | apply w_block | apply w_skip | apply a_n | apply o_nil | refine vY ?_ | refine alY ?_ | refine stY ?_ | (refine cdY ?_ ?_ <;> (intro _hg; (try simp only [ZB] at _hg); try first | exact absurd trivial _hg | (exfalso; omega))) | apply w_loop | fail)) <;> (try clear zz)
  refine loopI (X:=Nat) (fun j=>[(1,.ptr 0 4 0),(15,encCs t.cases),(16,.int .i64 t.cases.length),(17,.int .i64 k),(22,encVV c.out),(23,.int .i64 c.out.length),(24,.int .i64 j)]) (fun j H' nx'=>j ≤ c.out.length∧∀ i,i < j→constB (c.out.getD i default)=true) (fun j=>c.out.length - j) 0 ⟨Nat.zero_le _,fun i hi=>absurd hi (by omega)⟩ ag0 ?_
  rintro j H' nx' ⟨hj,hzj⟩
  by_cases hj2:j < c.out.length
  rotate_left
  · (have zz:=and_self; repeat' (first | apply w_seq | apply w_ops0 | apply w_exit | apply a_n | apply a_x | apply o_nil | refine vZ ?_ | (refine cdZ ?_ ?_ <;> (intro _hg; (try simp only [ZB] at _hg); try first | exact absurd trivial _hg | (exfalso; omega))) | fail)) <;> (try clear zz)
    exact ⟨k + 1,by omega,⟨by omega,hsucc fun j hj=>hzj j (by omega)⟩,ag0⟩
  have hcv:=constant_c (c.out.getD j default) (s3 _ (mem_getD hj2))
  cases hb:constB (c.out.getD j default)
  · rw [hb] at hcv
    have:agreeB t=false:=by
      rw [Bool.eq_false_iff]
      intro h
      have:=hall h j hj2
      rw [hb] at this; exact absurd this (by decide)
    rw [this]
    (have zz:=and_self; repeat' (first | apply w_seq | apply w_ops0 | apply w_block | apply w_skip | apply w_ret | apply a_n | apply a_r | apply o_nil | refine vZ ?_ | refine cZ ?_ (hp:=hcv) | refine cTZ ?_ | (refine cdZ ?_ ?_ <;> (intro _hg; (try simp only [ZB] at _hg); try first | exact absurd trivial _hg | (exfalso; omega))) | refine e_ends rfl ?_ | refine r2Z ?_ | fail)) <;> (try clear zz)
    exact fin _ _
  · rw [hb] at hcv
    (have zz:=and_self; repeat' (first | apply w_seq | apply w_ops0 | apply w_block | apply w_skip | apply a_n | apply o_nil | refine vZ ?_ | refine cZ ?_ (hp:=hcv) | refine cFZ ?_ | (refine cdZ ?_ ?_ <;> (intro _hg; (try simp only [ZB] at _hg); try first | exact absurd trivial _hg | (exfalso; omega))) | fail)) <;> (try clear zz)
    exact ⟨j + 1,by omega,⟨by omega,fun i hi=>by
      rcases Nat.lt_succ_iff_lt_or_eq.1 hi with h1 | rfl
      · exact hzj i h1
      · exact hb⟩,ag0⟩
end Go.Proofs.YtbiikomnhkbblaaGreat
namespace Go.Proofs.YtbiikomnhkbblaaGreat
open Go Go.Abs
attribute [local irreducible] awp2 aops2 ains aloop athen bbind obind gbind acond res1 Go.Abs.Fn PCall Go.Abs.Pure SnapArgs SnapL Yl
theorem movedV_sh {l:List (List Int)} {p:List Int} (hl:Sh l) (hp:p.length ≤ 5) (hv:∀ v ∈ l,v.length=p.length):Sh (movedV l p)∧∀ v ∈ movedV l p,Sh v:=by
  refine ⟨by show (sortG _ _).length ≤ _; rw [sortG_len,List.length_map]; exact hl,fun v hv2=>?_⟩
  obtain ⟨w,hw,rfl⟩:=List.mem_map.1 ((sortG_perm _).mem_iff.1 hv2)
  show (moveV w p).length ≤ _
  rw [moveV_len,hv w hw]; omega
theorem renT_sh {t:TaskV} {p:List Int} (hs:∀ c ∈ t.cases,ShC c) (hsc:Sh t.cases) (hp:p.length ≤ 5) (hlen:∀ k,k < t.cases.length→(t.cases.getD k default).inp.length=p.length∧(∀ v ∈ (t.cases.getD k default).out,v.length=p.length)∧(∀ v ∈ (t.cases.getD k default).calm,v.length=p.length)):Sh (renT t p).cases∧∀ c ∈ (renT t p).cases,ShC c:=by
  refine ⟨by show (sortG _ _).length ≤ _; rw [sortG_len,List.length_map]; exact hsc,fun c hc=>?_⟩
  obtain ⟨d,hd,rfl⟩:=List.mem_map.1 ((sortG_perm _).mem_iff.1 hc)
  obtain ⟨i,hi,rfl⟩:=List.getElem_of_mem hd
  have h:=hlen i hi
  have hsi:=hs _ hd
  rw [show t.cases.getD i default=t.cases[i] by simp [List.getD,hi]] at h
  generalize t.cases[i]=d at *
  obtain ⟨h1,h2,h3⟩:=h
  obtain ⟨s1,s2,s3,s4,s5⟩:=hsi
  have m1:=movedV_sh s2 hp h2
  have m2:=movedV_sh s4 hp h3
  exact ⟨by show (moveV d.inp p).length ≤ _; rw [moveV_len]; exact s1,m1.1,m1.2,m2.1,m2.2⟩
theorem bool_eq_self (b:Bool):(b == b)=true:=by simp
end Go.Proofs.YtbiikomnhkbblaaGreat
namespace Go.Proofs.YtbiikomnhkbblaaGreat
open Go Go.Abs
section
variable {p:List Int}
theorem perm_surj (hp:permE p=0) {q:Nat} (hq:q < p.length):∃ i,i < p.length∧p.getD i default=(q:Int):=by
  obtain ⟨_,_,h3,h4⟩:=permE_0 hp
  refine Decidable.byContradiction fun hn=>?_
  have hne:∀ i,i < p.length→p.getD i default ≠ (q:Int):=fun i hi e=>hn ⟨i,hi,e⟩
  have hnd:(p.map Int.toNat).Nodup:=by
    rw [List.nodup_iff_pairwise_ne,List.pairwise_iff_getElem]
    intro i j hi hj hij
    rw [List.length_map] at hi hj
    have a:=h3 i hi
    have b:=h3 j hj
    have c:=h4 i j hij hj
    have ei:p.getD i default=p[i]:=by simp [List.getD,hi]
    have ej:p.getD j default=p[j]:=by simp [List.getD,hj]
    rw [ei] at a c
    rw [ej] at b c
    simp only [List.getElem_map]
    omega
  have hsub:∀ x ∈ p.map Int.toNat,x ∈ (List.range p.length).filter (fun x=>decide (x ≠ q)):=fun x hx=>by
    obtain ⟨y,hy,rfl⟩:=List.mem_map.1 hx
    obtain ⟨i,hi,rfl⟩:=List.getElem_of_mem hy
    have ei:p.getD i default=p[i]:=by simp [List.getD,hi]
    have a:=h3 i hi
    have b:=hne i hi
    rw [ei] at a b
    exact List.mem_filter.2 ⟨List.mem_range.2 (by omega),decide_eq_true (by omega)⟩
  have hle:=List.Nodup.length_le_of_subset hnd hsub
  have hlt:((List.range p.length).filter (fun x=>decide (x ≠ q))).length < p.length:=by
    have h1:(List.range p.length).length=p.length:=List.length_range
    have h2:((List.range p.length).filter (fun x=>decide (x ≠ q))).length < (List.range p.length).length:=List.length_filter_lt_length_iff_exists.2 ⟨q,List.mem_range.2 hq,by simp⟩
    omega
  rw [List.length_map] at hle
  omega
def idL (n:Nat):List Int:=(List.range n).map fun (i:Nat)=>(i:Int)
theorem idL_get {n i:Nat} (h:i < n):(idL n).getD i default=(i:Int):=by simp [idL,List.getD,h]
theorem idL_len (n:Nat):(idL n).length=n:=by simp [idL]
def invP (p:List Int):List Int:=moveV (idL p.length) p
theorem invP_len:(invP p).length=p.length:=by unfold invP; rw [moveV_len,idL_len]
theorem invP_get (hp:permE p=0) {i:Nat} (hi:i < p.length):(invP p).getD (p.getD i default).toNat default=(i:Int):=by
  unfold invP
  rw [moveV_get hp (idL_len _) hi,idL_get hi]
theorem invP_perm (hp:permE p=0):permE (invP p)=0:=by
  obtain ⟨h1,h2,h3,h4⟩:=permE_0 hp
  have hval:∀ q,q < p.length→∃ i:Nat,i < p.length∧(invP p).getD q default=(i:Int)∧p.getD i default=(q:Int):=fun q hq=>by
    obtain ⟨i,hi,e⟩:=perm_surj hp hq
    have:=invP_get hp hi
    rw [e,Int.toNat_natCast] at this
    exact ⟨i,hi,this,e⟩
  unfold permE
  rw [invP_len,if_neg (by omega)]
  refine firstI_zero fun q hq=>?_
  obtain ⟨i,hi,e,ei⟩:=hval q hq
  unfold permI
  rw [invP_len,e,if_neg (by omega),if_neg]
  intro hany
  rw [List.any_eq_true] at hany
  obtain ⟨x,hx,hxe⟩:=hany
  have hxe:=of_decide_eq_true hxe
  obtain ⟨j,hj,rfl⟩:=List.getElem_of_mem hx
  rw [List.length_take,invP_len] at hj
  obtain ⟨i2,hi2,e2,ei2⟩:=hval j (by omega)
  have ej:(invP p).getD j default=((invP p).take q)[j]'(by rw [List.length_take,invP_len]; exact hj):=by
    rw [List.getElem_take]; simp [List.getD,show j < (invP p).length by rw [invP_len]; omega]
  rw [← ej,e2] at hxe
  have:i2=i:=by omega
  subst this
  rw [ei] at ei2
  omega
theorem moveV_back (hp:permE p=0) {v:List Int} (hv:v.length=p.length):moveV (moveV v p) (invP p)=v:=by
  have hw:(moveV v p).length=(invP p).length:=by rw [moveV_len,invP_len,hv]
  refine ext_getD (by rw [moveV_len,moveV_len]) fun i hi=>?_
  rw [moveV_len,moveV_len] at hi
  obtain ⟨h1,h2,h3,h4⟩:=permE_0 hp
  have a:=h3 i (by omega)
  have h:=moveV_get (invP_perm hp) hw (i:=(p.getD i default).toNat) (by rw [invP_len]; omega)
  rw [invP_get hp (by omega),Int.toNat_natCast,moveV_get hp hv (by omega)] at h
  exact h
theorem moveV_mem (hp:permE p=0) {v:List Int} (hv:v.length=p.length) {x:Int} (hx:x ∈ moveV v p):x ∈ v:=by
  obtain ⟨q,hq,rfl⟩:=List.getElem_of_mem hx
  rw [moveV_len] at hq
  obtain ⟨i,hi,e⟩:=perm_surj hp (q:=q) (by omega)
  have h:=moveV_get hp hv hi
  rw [e,Int.toNat_natCast] at h
  rw [show (moveV v p).getD q default=(moveV v p)[q]'(by rw [moveV_len]; exact hq) by simp [List.getD,show q < (moveV v p).length by rw [moveV_len]; exact hq]] at h
  rw [h]
  exact mem_getD (by omega)
theorem movedV_mem {l:List (List Int)} {w:List Int}:w ∈ movedV l p ↔ ∃ v ∈ l,moveV v p=w:=by
  unfold movedV
  rw [(sortG_perm _).mem_iff,List.mem_map]
theorem movedV_back (hp:permE p=0) {l:List (List Int)} (hl:∀ v ∈ l,v.length=p.length) (hs:SortedP order l):movedV (movedV l p) (invP p)=l:=by
  symm
  refine sortG_unique ordV (fun x _ y _=>alikeV) hs ?_
  have h1:((movedV l p).map fun v=>moveV v (invP p)).Perm ((l.map fun v=>moveV v p).map fun v=>moveV v (invP p)):=(sortG_perm _).map _
  have h2:((l.map fun v=>moveV v p).map fun v=>moveV v (invP p))=l:=by
    rw [List.map_map]
    conv=>rhs; rw [← List.map_id l]
    exact List.map_congr_left fun v hv=>moveV_back hp (hl v hv)
  rw [h2] at h1
  exact h1.symm
end
theorem sorted_asc {l:List (List Int)} (h:∀ i,i < l.length→unordB l i=false):SortedP order l:=by
  unfold SortedP
  rw [List.pairwise_iff_getElem]
  intro i j hi hj hij
  have:=asc_of h j i hij hj
  rw [show l.getD i default=l[i] by simp [List.getD,hi],show l.getD j default=l[j] by simp [List.getD,hj]] at this
  exact ordV.asym _ _ this
theorem nodup_asc {l:List (List Int)} (h:∀ i,i < l.length→unordB l i=false):l.Nodup:=by
  rw [List.nodup_iff_pairwise_ne,List.pairwise_iff_getElem]
  intro i j hi hj hij e
  have:=asc_of h j i hij hj
  rw [show l.getD i default=l[i] by simp [List.getD,hi],show l.getD j default=l[j] by simp [List.getD,hj],e,order_refl] at this
  omega
theorem unord_sorted {l:List (List Int)} (hs:SortedP order l) (hn:l.Nodup):∀ i,i < l.length→unordB l i=false:=fun i hi=>by
  unfold unordB
  by_cases h0:0 < i
  · rw [decide_eq_true h0,Bool.true_and,decide_eq_false_iff_not]
    have h1:=List.pairwise_iff_getElem.1 hs (i - 1) i (by omega) hi (by omega)
    have h2:=List.pairwise_iff_getElem.1 (List.nodup_iff_pairwise_ne.1 hn) (i - 1) i (by omega) hi (by omega)
    rw [show l.getD i default=l[i] by simp [List.getD,hi],show l.getD (i - 1) default=l[i - 1] by simp [List.getD,show i - 1 < l.length by omega]]
    intro h3
    have h4:=order_swap l[i - 1] l[i]
    rcases order_vals l[i - 1] l[i] with h | h | h
    · omega
    · exact h2 (order_eq h)
    · exact h1 (by omega)
  · rw [decide_eq_false h0,Bool.false_and]
theorem vectorE_of {v:List Int} {n most:Int} (h1:(v.length:Int)=n) (h2:∀ x ∈ v,0 ≤ x∧x < most):vectorE v n most=0:=by
  unfold vectorE
  rw [if_neg (fun h=>h h1),if_neg]
  intro h
  rw [List.any_eq_true] at h
  obtain ⟨x,hx,e⟩:=h
  have:=of_decide_eq_true e
  have:=h2 x hx
  omega
theorem vectorsE_parts {n outs:Int} {c:CaseV} (h:vectorsE n outs c=0):(1 ≤ c.out.length∧c.out.length ≤ 1024)∧(∀ v ∈ c.out,vectorE v n outs=0)∧(∀ i,i < c.out.length→unordB c.out i=false)∧(∀ v ∈ c.calm,v ∈ c.out)∧(∀ i,i < c.calm.length→unordB c.calm i=false):=by
  unfold vectorsE at h
  split at h
  · exact absurd h (by decide)
  rename_i g1
  split at h
  · exact absurd h ‹_›
  rename_i g2
  have o0:=firstI_all (Decidable.of_not_not g2)
  have c0:=firstI_all h
  have o1:∀ j,j < c.out.length→vectorE (c.out.getD j default) n outs=0∧unordB c.out j=false:=fun j hj=>by
    have:=o0 j hj
    unfold outE at this
    split at this
    · exact absurd this ‹_›
    · rename_i g3
      split at this
      · exact absurd this (by decide)
      · rename_i g4
        exact ⟨Decidable.of_not_not g3,by simpa using g4⟩
  have c1:∀ j,j < c.calm.length→c.calm.getD j default ∈ c.out∧unordB c.calm j=false:=fun j hj=>by
    have:=c0 j hj
    unfold calmE at this
    split at this
    · rename_i g3
      split at this
      · exact absurd this (by decide)
      · rename_i g4
        exact ⟨g3,by simpa using g4⟩
    · exact absurd this (by decide)
  refine ⟨by omega,fun v hv=>?_,fun i hi=>(o1 i hi).2,fun v hv=>?_,fun i hi=>(c1 i hi).2⟩
  · obtain ⟨j,hj,rfl⟩:=List.getElem_of_mem hv
    have:=(o1 j hj).1
    rwa [show c.out.getD j default=c.out[j] by simp [List.getD,hj]] at this
  · obtain ⟨j,hj,rfl⟩:=List.getElem_of_mem hv
    have:=(c1 j hj).1
    rwa [show c.calm.getD j default=c.calm[j] by simp [List.getD,hj]] at this
theorem vectorsE_of {n outs:Int} {c:CaseV} (h1:1 ≤ c.out.length∧c.out.length ≤ 1024) (h2:∀ v ∈ c.out,vectorE v n outs=0) (h3:∀ i,i < c.out.length→unordB c.out i=false) (h4:∀ v ∈ c.calm,v ∈ c.out) (h5:∀ i,i < c.calm.length→unordB c.calm i=false):vectorsE n outs c=0:=by
  unfold vectorsE
  have e1:firstI (outE n outs c.out) c.out.length=0:=firstI_zero fun k hk=>by
    unfold outE
    rw [h2 _ (mem_getD hk),if_neg (by simp),h3 k hk,if_neg (by simp)]
  have e2:firstI (calmE c.out c.calm) c.calm.length=0:=firstI_zero fun k hk=>by
    unfold calmE
    rw [if_pos (h4 _ (mem_getD hk)),h5 k hk,if_neg (by simp)]
  rw [if_neg (by omega),e1,if_neg (by simp),e2]
section
variable {p:List Int} (hp:permE p=0)
include hp
theorem movedV_ok {l:List (List Int)} (hl:∀ v ∈ l,v.length=p.length) (hu:∀ i,i < l.length→unordB l i=false):(movedV l p).length=l.length∧∀ i,i < (movedV l p).length→unordB (movedV l p) i=false:=by
  have hlen:(movedV l p).length=l.length:=by unfold movedV; rw [sortG_len,List.length_map]
  refine ⟨hlen,unord_sorted (sortG_sorted ordV _) ?_⟩
  refine (sortG_perm _).nodup_iff.2 ?_
  rw [List.nodup_iff_pairwise_ne,List.pairwise_map]
  refine List.Pairwise.imp_of_mem (fun {a b} ha hb hab e=>hab (moveV_inj hp (hl a ha) (hl b hb) e)) (List.nodup_iff_pairwise_ne.1 (nodup_asc hu))
theorem vectorE_moved {v:List Int} {n most:Int} (hv:v.length=p.length) (h:vectorE v n most=0):vectorE (moveV v p) n most=0:=by
  obtain ⟨h1,h2⟩:=vectorE_0 h
  exact vectorE_of (by rw [moveV_len]; exact h1) fun x hx=>h2 x (moveV_mem hp hv hx)
theorem vectorsE_ren {n outs:Int} {c:CaseV} (h1:∀ v ∈ c.out,v.length=p.length) (h2:∀ v ∈ c.calm,v.length=p.length) (h:vectorsE n outs c=0):vectorsE n outs (renC p c)=0:=by
  obtain ⟨g1,g2,g3,g4,g5⟩:=vectorsE_parts h
  have m1:=movedV_ok hp h1 g3
  have m2:=movedV_ok hp h2 g5
  refine vectorsE_of (by show 1 ≤ (movedV c.out p).length∧_; have:=m1.1; exact ⟨by omega,by show (movedV c.out p).length ≤ _; omega⟩) (fun v hv=>?_) m1.2 (fun v hv=>?_) m2.2
  · obtain ⟨w,hw,rfl⟩:=movedV_mem.1 hv
    exact vectorE_moved hp (h1 w hw) (g2 w hw)
  · obtain ⟨w,hw,rfl⟩:=movedV_mem.1 hv
    exact movedV_mem.2 ⟨w,g4 w hw,rfl⟩
end
theorem cases_sorted {t:TaskV} (h:checkE t=0):SortedP KC t.cases:=by
  unfold SortedP
  rw [List.pairwise_iff_getElem]
  intro i j hi hj hij
  have:=checkE_asc h j i hij hj
  rw [show t.cases.getD i default=t.cases[i] by simp [List.getD,hi],show t.cases.getD j default=t.cases[j] by simp [List.getD,hj]] at this
  exact ordV.asym _ _ this
theorem inp_inj' {t:TaskV} (h:checkE t=0) {c d:CaseV} (hc:c ∈ t.cases) (hd:d ∈ t.cases) (e:c.inp=d.inp):c=d:=by
  obtain ⟨i,hi,rfl⟩:=List.getElem_of_mem hc
  obtain ⟨j,hj,rfl⟩:=List.getElem_of_mem hd
  have ei:t.cases.getD i default=t.cases[i]:=by simp [List.getD,hi]
  have ej:t.cases.getD j default=t.cases[j]:=by simp [List.getD,hj]
  have:=inp_inj h hi hj (by rw [ei,ej]; exact e)
  subst this; rfl
theorem lens_mem {t:TaskV} {p:List Int} (h:checkE t=0) (hn:(p.length:Int)=t.n) {c:CaseV} (hc:c ∈ t.cases):c.inp.length=p.length∧(∀ v ∈ c.out,v.length=p.length)∧(∀ v ∈ c.calm,v.length=p.length):=by
  obtain ⟨i,hi,rfl⟩:=List.getElem_of_mem hc
  have:=lens_ok h hn i hi
  rwa [show t.cases.getD i default=t.cases[i] by simp [List.getD,hi]] at this
theorem case_parts {t:TaskV} (h:checkE t=0) {c:CaseV} (hc:c ∈ t.cases):vectorE c.inp t.n t.ins=0∧vectorsE t.n t.outs c=0:=by
  obtain ⟨i,hi,rfl⟩:=List.getElem_of_mem hc
  have:=(check_parts h).2.2 i hi
  rwa [show t.cases.getD i default=t.cases[i] by simp [List.getD,hi]] at this
section
variable {t:TaskV} {p:List Int} (h:checkE t=0) (hp:permE p=0) (hn:(p.length:Int)=t.n)
theorem ren_mem {d:CaseV}:d ∈ (renT t p).cases ↔ ∃ c ∈ t.cases,renC p c=d:=by
  show d ∈ sortG KC (t.cases.map (renC p)) ↔ _
  rw [(sortG_perm _).mem_iff,List.mem_map]
theorem ren_len:(renT t p).cases.length=t.cases.length:=by
  show (sortG KC (t.cases.map (renC p))).length=_
  rw [sortG_len,List.length_map]
include h hp hn
theorem renT_check:checkE (renT t p)=0:=by
  obtain ⟨c1,c2,c3⟩:=check_parts h
  unfold checkE
  rw [if_neg (show ¬ ((renT t p).n < 1 ∨ 5 < (renT t p).n ∨ (renT t p).ins < 1 ∨ 8 < (renT t p).ins ∨ (renT t p).outs < 1 ∨ 8 < (renT t p).outs) from c1),ren_len,if_neg (by omega)]
  have hinps:∀ k,k < ((renT t p).cases.map CaseV.inp).length→unordB ((renT t p).cases.map CaseV.inp) k=false:=by
    refine unord_sorted ?_ ?_
    · show SortedP order ((sortG KC (t.cases.map (renC p))).map CaseV.inp)
      unfold SortedP
      rw [List.pairwise_map]
      exact sortG_sorted ordC _
    · refine ((sortG_perm (K:=KC) (t.cases.map (renC p))).map CaseV.inp).nodup_iff.2 ?_
      rw [List.map_map,List.nodup_iff_pairwise_ne,List.pairwise_map]
      have hnd:t.cases.Pairwise fun c d=>c.inp ≠ d.inp:=by
        rw [List.pairwise_iff_getElem]
        intro i j hi hj hij e
        have:=checkE_asc h j i hij hj
        rw [show t.cases.getD i default=t.cases[i] by simp [List.getD,hi],show t.cases.getD j default=t.cases[j] by simp [List.getD,hj],e,order_refl] at this
        omega
      exact List.Pairwise.imp_of_mem (fun {a b} ha hb hab e=>hab (moveV_inj hp (lens_mem h hn ha).1 (lens_mem h hn hb).1 e)) hnd
  refine firstI_zero fun k hk=>?_
  have hm:(renT t p).cases.getD k default ∈ (renT t p).cases:=mem_getD (by rw [ren_len]; exact hk)
  have hu:=hinps k (by rw [List.length_map,ren_len]; exact hk)
  unfold caseE
  rw [hu]
  obtain ⟨c,hc,e⟩:=ren_mem.1 hm
  rw [← e]
  obtain ⟨g1,g2⟩:=case_parts h hc
  obtain ⟨l1,l2,l3⟩:=lens_mem h hn hc
  have v1:vectorE (renC p c).inp (renT t p).n (renT t p).ins=0:=vectorE_moved hp l1 g1
  have v2:vectorsE (renT t p).n (renT t p).outs (renC p c)=0:=vectorsE_ren hp l2 l3 g2
  rw [v1,if_neg (by simp),if_neg (by simp),v2]
theorem renC_back {c:CaseV} (hc:c ∈ t.cases):renC (invP p) (renC p c)=c:=by
  obtain ⟨l1,l2,l3⟩:=lens_mem h hn hc
  obtain ⟨g1,g2,g3,g4,g5⟩:=vectorsE_parts (case_parts h hc).2
  obtain ⟨inp,out,calm⟩:=c
  show CaseV.mk (moveV (moveV inp p) (invP p)) (movedV (movedV out p) (invP p)) (movedV (movedV calm p) (invP p))=_
  rw [moveV_back hp l1,movedV_back hp l2 (sorted_asc g3),movedV_back hp l3 (sorted_asc g5)]
theorem renT_back:renT (renT t p) (invP p)=t:=by
  have e:sortG KC ((renT t p).cases.map (renC (invP p)))=t.cases:=by
    symm
    have hpm:((renT t p).cases.map (renC (invP p))).Perm ((t.cases.map (renC p)).map (renC (invP p))):=(sortG_perm _).map _
    have h2:(t.cases.map (renC p)).map (renC (invP p))=t.cases:=by
      rw [List.map_map]
      conv=>rhs; rw [← List.map_id t.cases]
      exact List.map_congr_left fun c hc=>renC_back h hp hn hc
    rw [h2] at hpm
    refine sortG_unique ordC (fun x hx y hy h1 h2=>?_) (cases_sorted h) hpm.symm
    exact inp_inj' h (hpm.mem_iff.1 hx) (hpm.mem_iff.1 hy) (alikeV h1 h2)
  obtain ⟨n,i,o,cs⟩:=t
  show TaskV.mk n i o (sortG KC _)=_
  rw [e]
theorem permute_ok:permuteT t p=(renT t p,0):=by
  unfold permuteT
  rw [if_neg (fun k=>k h),if_neg (fun k=>k hp),if_neg (fun k=>k hn)]
theorem permute_back:permuteT (renT t p) (invP p)=(t,0):=by
  rw [permute_ok (renT_check h hp hn) (invP_perm hp) (by rw [invP_len]; exact hn),renT_back h hp hn]
theorem find_ren {k:Nat} (hk:k < t.cases.length):∃ j:Nat,j < (renT t p).cases.length∧(renT t p).cases.getD j default=renC p (t.cases.getD k default)∧findT (renT t p) (moveV (t.cases.getD k default).inp p)=((j:Int),0):=by
  have hm:=mem_getD hk
  have hc:=renT_check h hp hn
  have hin:renC p (t.cases.getD k default) ∈ (renT t p).cases:=ren_mem.2 ⟨_,hm,rfl⟩
  obtain ⟨j,hj,e⟩:=List.getElem_of_mem hin
  have ej:(renT t p).cases.getD j default=renC p (t.cases.getD k default):=by rw [← e]; simp [List.getD,hj]
  refine ⟨j,hj,ej,?_⟩
  unfold findT
  have hgj:((renT t p).cases.map CaseV.inp).getD j default=moveV (t.cases.getD k default).inp p:=by rw [inp_getD hj,ej]; rfl
  rw [if_neg (fun k=>k hc),if_pos (mem_getV.2 ⟨j,by rw [List.length_map]; exact hj,hgj⟩)]
  have:idxT (renT t p) (moveV (t.cases.getD k default).inp p)=j:=findIdx_at (by rw [List.length_map]; exact hj) (fun i hi e2=>by
    rw [inp_getD (by omega)] at e2
    have e3:((renT t p).cases.getD i default).inp=((renT t p).cases.getD j default).inp:=by rw [e2,ej]; rfl
    have:=inp_inj hc (by omega) hj e3
    omega) hgj
  rw [this]
end
end Go.Proofs.YtbiikomnhkbblaaGreat
namespace Go.Proofs.YtbiikomnhkbblaaGreat
open Go Go.Abs
open Nat (reduceEqDiff reduceAdd reduceLeDiff)
def fmv (f:Nat) (p:List Int):Nat→Nat
  | 0=>0
  | k + 1=>fmv f p k ||| (f / 2 ^ k % 2 * 2 ^ (p.getD k default).toNat)
theorem bit_mul (f k m q:Nat):(f / 2 ^ k % 2 * 2 ^ m).testBit q=(decide (m=q) && f.testBit k):=by
  have h:=Nat.testBit_eq_decide_div_mod_eq (x:=f) (i:=k)
  by_cases c:f / 2 ^ k % 2=1
  · rw [h,decide_eq_true c,c,Nat.one_mul,Nat.testBit_two_pow,Bool.and_true]
  · have:f / 2 ^ k % 2=0:=by omega
    rw [h,decide_eq_false c,this,Nat.zero_mul,Nat.zero_testBit,Bool.and_false]
theorem fmv_any (f:Nat) (p:List Int) (q:Nat):∀ k,(fmv f p k).testBit q=(List.range k).any fun i=>decide ((p.getD i default).toNat=q) && f.testBit i
  | 0=>by simp [fmv]
  | k + 1=>by rw [fmv,Nat.testBit_or,fmv_any f p q k,bit_mul,List.range_succ,List.any_append]; simp
section
variable {p:List Int} (hp:permE p=0) {f:Nat}
include hp
theorem fmv_bit {i:Nat} (hi:i < p.length):(fmv f p p.length).testBit (p.getD i default).toNat=f.testBit i:=by
  obtain ⟨_,_,h3,h4⟩:=permE_0 hp
  rw [fmv_any,Bool.eq_iff_iff,List.any_eq_true]
  constructor
  · rintro ⟨j,hj,e⟩
    rw [Bool.and_eq_true,decide_eq_true_iff] at e
    have hj:=List.mem_range.1 hj
    have a:=h3 i hi
    have b:=h3 j hj
    by_cases hij:i=j
    · subst hij; exact e.2
    · rcases Nat.lt_or_gt_of_ne hij with h | h
      · exact absurd (show p.getD i default=p.getD j default by omega) (h4 i j h hj)
      · exact absurd (show p.getD j default=p.getD i default by omega) (h4 j i h hi)
  · intro h
    exact ⟨i,List.mem_range.2 hi,by rw [h]; simp⟩
theorem fmv_lt:∀ k,k ≤ p.length→fmv f p k < 2 ^ p.length
  | 0,_=>Nat.pow_pos (by omega)
  | k + 1,hk=>by
    have a:=(permE_0 hp).2.2.1 k (by omega)
    refine Nat.or_lt_two_pow (fmv_lt k (by omega)) ?_
    have h1:f / 2 ^ k % 2 ≤ 1:=by omega
    have h2:2 ^ (p.getD k default).toNat < 2 ^ p.length:=Nat.pow_lt_pow_right (by omega) (by omega)
    calc f / 2 ^ k % 2 * 2 ^ (p.getD k default).toNat ≤ 1 * 2 ^ (p.getD k default).toNat:=Nat.mul_le_mul_right _ h1
      _ < 2 ^ p.length:=by rw [Nat.one_mul]; exact h2
theorem fmv_zero (hf:f < 2 ^ p.length):fmv f p p.length=0 ↔ f=0:=by
  constructor
  · intro h
    refine Nat.eq_of_testBit_eq fun i=>?_
    rw [Nat.zero_testBit]
    by_cases hi:i < p.length
    · rw [← fmv_bit hp hi,h,Nat.zero_testBit]
    · exact Nat.testBit_lt_two_pow (Nat.lt_of_lt_of_le hf (Nat.pow_le_pow_right (by omega) (by omega)))
  · rintro rfl
    refine Nat.eq_of_testBit_eq fun i=>?_
    rw [fmv_any,Nat.zero_testBit,List.any_eq_false]
    intro x _
    simp
theorem agrees_ren {v outs:List Int} (hv:v.length=p.length) (ho:outs.length=p.length):agreesB (moveV v p) (moveV outs p) (fmv f p p.length:Nat)=agreesB v outs (f:Nat):=by
  have h5:=(permE_0 hp).2.1
  have h3:=(permE_0 hp).2.2.1
  rw [Bool.eq_iff_iff,agreesB_iff (by rw [moveV_len]; omega),agreesB_iff (by omega)]
  constructor
  · intro h i hi hb
    have a:=h3 i (by omega)
    have:=h (p.getD i default).toNat (by rw [moveV_len]; omega) (by rw [fmv_bit hp (by omega)]; exact hb)
    rwa [moveV_get hp hv (by omega),moveV_get hp ho (by omega)] at this
  · intro h q hq hb
    rw [moveV_len] at hq
    obtain ⟨i,hi,e⟩:=perm_surj hp (q:=q) (by omega)
    have e1:=moveV_get hp hv hi
    have e2:=moveV_get hp ho hi
    have e3:=fmv_bit hp (f:=f) hi
    rw [e,Int.toNat_natCast] at e1 e2 e3
    rw [e1,e2]
    exact h i (by omega) (by rw [← e3]; exact hb)
theorem allow_ren {c:CaseV} (hf:f < 2 ^ p.length):allowV (renC p c) (fmv f p p.length:Nat)=movedV (allowV c (f:Nat)) p:=by
  have hz:=fmv_zero hp hf
  have hl:(renC p c).calm.length=c.calm.length:=by show (movedV _ _).length=_; unfold movedV; rw [sortG_len,List.length_map]
  unfold allowV
  by_cases h:((f:Nat):Int)=0∧0 < c.calm.length
  · rw [if_pos h,if_pos ⟨by have:=hz.2 (by omega); omega,by omega⟩]; rfl
  · rw [if_neg h,if_neg (fun k=>h ⟨by have:=hz.1 (by omega); omega,by omega⟩)]; rfl
theorem any_ren {c:CaseV} {outs:List Int} (hf:f < 2 ^ p.length) (ho:outs.length=p.length) (hc:∀ v ∈ allowV c (f:Nat),v.length=p.length):(allowV (renC p c) (fmv f p p.length:Nat)).any (fun v=>agreesB v (moveV outs p) (fmv f p p.length:Nat))=(allowV c (f:Nat)).any (fun v=>agreesB v outs (f:Nat)):=by
  rw [allow_ren hp hf,Bool.eq_iff_iff,List.any_eq_true,List.any_eq_true]
  constructor
  · rintro ⟨w,hw,e⟩
    obtain ⟨v,hv,rfl⟩:=movedV_mem.1 hw
    exact ⟨v,hv,by rw [← agrees_ren hp (hc v hv) ho]; exact e⟩
  · rintro ⟨v,hv,e⟩
    exact ⟨moveV v p,movedV_mem.2 ⟨v,hv,rfl⟩,by rw [agrees_ren hp (hc v hv) ho]; exact e⟩
theorem const_ren {v:List Int} (hv:v.length=p.length):constB (moveV v p)=constB v:=by
  have h1:=(permE_0 hp).1
  have h3:=(permE_0 hp).2.2.1
  rw [Bool.eq_iff_iff,constB_iff,constB_iff]
  constructor
  · intro h i hi
    have a:=h3 i (by omega)
    have b:=h3 0 (by omega)
    have e1:=h (p.getD i default).toNat (by rw [moveV_len]; omega)
    have e2:=h (p.getD 0 default).toNat (by rw [moveV_len]; omega)
    rw [moveV_get hp hv (by omega)] at e1
    rw [moveV_get hp hv (by omega)] at e2
    rw [e1,e2]
  · intro h q hq
    rw [moveV_len] at hq
    obtain ⟨i,hi,e⟩:=perm_surj hp (q:=q) (by omega)
    obtain ⟨j,hj,e'⟩:=perm_surj hp (q:=0) (by omega)
    have e1:=moveV_get hp hv hi
    have e2:=moveV_get hp hv hj
    rw [e,Int.toNat_natCast] at e1
    rw [e',Int.toNat_natCast] at e2
    rw [e1,e2,h i (by omega),h j (by omega)]
end
theorem agree_ren {t:TaskV} {p:List Int} (h:checkE t=0) (hp:permE p=0) (hn:(p.length:Int)=t.n):agreeB (renT t p)=agreeB t:=by
  unfold agreeB
  rw [Bool.eq_iff_iff,List.all_eq_true,List.all_eq_true]
  constructor
  · intro hh c hc
    obtain ⟨l1,l2,l3⟩:=lens_mem h hn hc
    have:=hh _ (ren_mem.2 ⟨c,hc,rfl⟩)
    rw [List.all_eq_true] at this ⊢
    intro v hv
    rw [← const_ren hp (l2 v hv)]
    exact this _ (movedV_mem.2 ⟨v,hv,rfl⟩)
  · intro hh d hd
    obtain ⟨c,hc,rfl⟩:=ren_mem.1 hd
    obtain ⟨l1,l2,l3⟩:=lens_mem h hn hc
    have:=hh c hc
    rw [List.all_eq_true] at this ⊢
    intro w hw
    obtain ⟨v,hv,rfl⟩:=movedV_mem.1 hw
    rw [const_ren hp (l2 v hv)]
    exact this v hv
attribute [local irreducible] awp2 aops2 ains aloop athen bbind obind gbind acond res1 Go.Abs.Fn PCall Go.Abs.Pure SnapArgs SnapL Yl
theorem inverse_c (p:List Int) (hp:permE p=0):Pure Tryz.prog 35 [encV p] (.tup [encV (invP p),.int .i64 0]):=by
  obtain ⟨p1,p2,p3,p4⟩:=permE_0 hp
  have hc:=permCheck_c p (show p.length ≤ _ by omega)
  rw [hp] at hc
  have hz:zcells (.agg [.int .i64 0]) p.length=(mvK (idL p.length) p 0).map (AV.int .i64):=by
    simp [zcells,mvK,AV.cells,idL_len]
  refine Pure.of_c2 follows is35 (Nat.le_of_ble_eq_true rfl) ?_
  simp only [b35,cO,cG,cN,cM,cD,cF,cB,cFal,cTru]
  (have zz:=and_self; repeat' (first | apply w_seq | apply w_ops0 | apply w_skip | apply a_n | apply o_nil | refine vZ ?_ | refine cZ ?_ (hp:=hc) | (refine cdZ ?_ ?_ <;> (intro _hg; (try simp only [ZB] at _hg); try first | exact absurd trivial _hg | (exfalso; omega))) | fail)) <;> (try clear zz)
  refine e_mks rfl ev0 ev0 (by omega) (by omega) (by omega) (by omega) ?_
  rw [Int.toNat_natCast,hz]
  (have zz:=and_self; repeat' (first | apply w_seq | apply w_ops0 | apply w_block | apply a_n | apply o_nil | refine vZ ?_ | apply w_loop | fail)) <;> (try clear zz)
  refine loopI (X:=Nat) (fun k=>[(0,encV p),(5,.msl 0 p.length 1 0 p.length),(16,encV p),(17,.int .i64 p.length),(18,.int .i64 k)]) (fun k H nx=>k ≤ p.length∧H=hupd noBoxes 0 ((mvK (idL p.length) p k).map (AV.int .i64))∧nx=1) (fun k=>p.length - k) 0 ⟨Nat.zero_le _,rfl,rfl⟩ (by simp (disch:=omega) only [agr,ZG,reduceEqDiff,↓reduceIte,Nat.mul_one]) ?_
  rintro k H nx ⟨hk,rfl,rfl⟩
  have hml:=mvK_len (idL p.length) p k
  rw [idL_len] at hml
  by_cases hk2:k < p.length
  · have hr:=p3 k hk2
    have hlm:=lput_mapG (f:=AV.int .i64) (l:=mvK (idL p.length) p k) (k:=(p.getD k default).toNat) (x:=(k:Int)) (by omega)
    (have zz:=and_self; repeat' (first | apply w_seq | apply w_ops0 | apply w_block | apply w_skip | apply a_n | apply o_nil | refine vZ ?_ | refine stZ ?_ | (refine cdZ ?_ ?_ <;> (intro _hg; (try simp only [ZB] at _hg); try first | exact absurd trivial _hg | (exfalso; omega))) | fail)) <;> (try clear zz)
    refine ⟨k + 1,by omega,⟨by omega,?_,rfl⟩,ag0⟩
    rw [hupd_two,hlm,mvK,idL_get hk2]
  · obtain rfl:k=p.length:=by omega
    (have zz:=and_self; repeat' (first | apply w_seq | apply w_ops0 | apply w_exit | apply w_ret | apply a_n | apply a_x | apply o_nil | refine vZ ?_ | (refine cdZ ?_ ?_ <;> (intro _hg; (try simp only [ZB] at _hg); try first | exact absurd trivial _hg | (exfalso; omega))) | refine e_ends rfl ?_ | refine r2Z ?_ | fail)) <;> (try clear zz)
    rw [show invP p=mvK (idL p.length) p p.length by unfold invP moveV; rw [idL_len]]
    exact snap_tup (snapL_cons (snap_row hupd_self' rfl hml) (snapL_cons (.int _ _) snapL_nil))
end Go.Proofs.YtbiikomnhkbblaaGreat
namespace Go.Proofs.YtbiikomnhkbblaaGreat
open Go Go.Abs
open Nat (reduceEqDiff reduceAdd reduceLeDiff)
theorem hupd_45 {H:Hp} {a b a' b':List AV}:hupd (hupd (hupd (hupd H 4 a) 5 b) 4 a') 5 b'=hupd (hupd H 4 a') 5 b':=by
  funext i
  by_cases h5:i=5
  · subst h5; rw [hupd_self',hupd_self']
  · rw [hupd_ne h5,hupd_ne h5]
    by_cases h4:i=4
    · subst h4; rw [hupd_self',hupd_self']
    · rw [hupd_ne h4,hupd_ne h5,hupd_ne h4,hupd_ne h4]
attribute [local irreducible] awp2 aops2 ains aloop athen bbind obind gbind acond res1 Go.Abs.Fn PCall Go.Abs.Pure SnapArgs SnapL Yl
set_option maxHeartbeats 4000000 in
theorem law_renames (t:TaskV) (x:PlaceV) (p:List Int) (hs:∀ c ∈ t.cases,ShC c) (hsc:Sh t.cases) (ho:Sh x.outs) (hpl:Sh p):Pure Tryz.prog 6 [encT t,encP x,encV p] (.bool true):=by
  have hr:=right_c t x hs hsc ho
  have hpc:=permCheckR p hpl
  obtain ⟨i,f,pr,outs⟩:=x
  refine Pure.of_c2 follows is6 (Nat.le_of_ble_eq_true rfl) ?_
  simp only [b6,cO,cG,cN,cM,cD,cF,cB,cFal,cTru]
  have haw:=awake_c
  have d2:=encT_dat t
  have dP:Dat (encP ⟨i,f,pr,outs⟩):=Dat.agg (DatL.cons .int (DatL.cons .int (DatL.cons .int (DatL.cons (encV_dat _) DatL.nil))))
  have ho':outs.length ≤ 17592186044416:=ho
  have hpl':p.length ≤ 17592186044416:=hpl
  unfold encP at *
  dsimp only at *
  cases hR:rightB t ⟨i,f,pr,outs⟩
  · rw [hR] at hr
    unfold encT at *
    (have zz:=aI @encCs_one @encCs_cells; repeat' (first | apply w_seq | apply w_ops0 | apply w_ret | apply a_n | apply a_r | apply o_nil | refine vZ ?_ | refine cZ ?_ (hp:=by first | exact haw | exact hr) | refine bxZ ?_ | refine gFZ ?_ | refine cTZ ?_ | refine e_ends rfl ?_ | refine r1Z ?_ | fail)) <;> (try clear zz)
    all_goals exact snap_bool rfl
  rw [hR] at hr
  by_cases hp:permE p=0
  rotate_left
  · have z:decide (permE p=0)=false:=decide_eq_false hp
    generalize permE p=C at *
    unfold encT at *
    (have zz:=aI @encCs_one (aI @encCs_cells @z); repeat' (first | apply w_seq | apply w_ops0 | apply w_ret | apply a_n | apply a_r | apply o_nil | refine vZ ?_ | refine cZ ?_ (hp:=by first | exact haw | exact hr | exact hpc) | refine bxZ ?_ | refine gTZ ?_ | refine gFZ ?_ | (refine gBZ ?_ ?_ <;> (intro _hg; (try simp only [ZB] at _hg); try first | exact absurd trivial _hg | (exfalso; omega))) | refine cTZ ?_ | refine e_ends rfl ?_ | refine r1Z ?_ | fail)) <;> (try clear zz)
    all_goals exact snap_bool rfl
  rw [hp] at hpc
  by_cases hn:(p.length:Int)=t.n
  rotate_left
  · have z:decide ((p.length:Int)=t.n)=false:=decide_eq_false hn
    unfold encT at *
    (have zz:=aI @encCs_one (aI @encCs_cells @z); repeat' (first | apply w_seq | apply w_ops0 | apply w_ret | apply a_n | apply a_r | apply o_nil | refine vZ ?_ | refine cZ ?_ (hp:=by first | exact haw | exact hr | exact hpc) | refine bxZ ?_ | refine gTZ ?_ | ((first | refine gBZ ?_ ?_ | refine cdZ ?_ ?_) <;> (intro _hg; (try simp only [ZB] at _hg); try first | exact absurd trivial _hg | (exfalso; omega))) | refine e_ends rfl ?_ | refine r1Z ?_ | fail)) <;> (try clear zz)
    all_goals exact snap_bool rfl
  have zn:decide ((p.length:Int)=t.n)=true:=decide_eq_true hn
  obtain ⟨hf,hc,k,m,n,e1,hk,e2,hm,hn',n1,n5,hol,hov⟩:=right_parts hR
  dsimp only at e1 e2 hol hov
  subst e1; subst e2
  obtain rfl:n=p.length:=by omega
  have hq:=(few_q hf).2
  have hcl:=(check_parts hc).2.1
  have hlens:=fun c hcm=>lens_mem hc hn (c:=c) hcm
  obtain ⟨hRs1,hRs2⟩:=renT_sh hs hsc n5 (lens_ok hc hn)
  have hRq:∀ c ∈ (renT t p).cases,c.out.length ≤ 100000∧c.calm.length ≤ 100000:=fun c hcm=>by
    obtain ⟨d,hd,rfl⟩:=ren_mem.1 hcm
    have:=hq d hd
    exact ⟨by show (movedV d.out p).length ≤ _; unfold movedV; rw [sortG_len,List.length_map]; exact this.1,by show (movedV d.calm p).length ≤ _; unfold movedV; rw [sortG_len,List.length_map]; exact this.2⟩
  have hRc:=renT_check hc hp hn
  have hRn:(renT t p).n=((p.length:Nat):Int):=hn.symm
  have c1:=permute_c t p hs hsc hq hpl
  rw [permute_ok hc hp hn] at c1
  have c2:=inverse_c p hp
  have c3:=permute_c (renT t p) (invP p) hRs2 hRs1 hRq (by show _ ≤ _; rw [invP_len]; omega)
  rw [permute_back hc hp hn] at c3
  have c4:=same_r t hsc hs
  have c5:=check_c (renT t p) hRs2 hRs1
  rw [hRc] at c5
  have hkm:=mem_getD hk
  have hinpl:=(hlens _ hkm).1
  obtain ⟨j,hj,hjc,hfind⟩:=find_ren hc hp hn hk
  have c6:=find_c (renT t p) (moveV (t.cases.getD k default).inp p) hRs2 hRs1 (by show _ ≤ _; rw [moveV_len,hinpl]; omega)
  rw [hfind] at c6
  have c7:=permitted_c t k m outs hs hsc ho
  rw [permT_ok hc hk hn.symm hm hol hov] at c7
  have hov2:((moveV outs p).any fun v=>decide (v < -1 ∨ (renT t p).outs ≤ v))=false:=by
    rw [List.any_eq_false] at hov ⊢
    exact fun y hy=>hov y (moveV_mem hp hol hy)
  have c8:=permitted_c (renT t p) j (fmv m p p.length:Nat) (moveV outs p) hRs2 hRs1 (by show _ ≤ _; rw [moveV_len]; omega)
  rw [permT_ok hRc hj hRn (fmv_lt hp _ (Nat.le_refl _)) (by rw [moveV_len]; exact hol) hov2,hjc,any_ren hp hm hol (fun v hv=>by have:=(allow_vecs (f:=(m:Int)) hc hk).2 v hv; omega)] at c8
  have ag1:agreementT t=(agreeB t,0):=by unfold agreementT; rw [if_neg (fun h=>h hc)]
  have ag2:agreementT (renT t p)=(agreeB t,0):=by unfold agreementT; rw [if_neg (fun h=>h hRc),agree_ren hc hp hn]
  have c9:=agreement_c t hs hsc
  have c10:=agreement_c (renT t p) hRs2 hRs1
  rw [ag1] at c9
  rw [ag2] at c10
  have hfl:=fmv_lt hp (f:=m)
  have hih:(t.cases.getD k default).inp.length=p.length:=hinpl
  have ix:=aixS_encCs hk
  generalize hinp:(t.cases.getD k default).inp=inp at *
  generalize (allowV (t.cases.getD k default) m).any (fun v=>agreesB v outs m)=bb at *
  generalize agreeB t=ba at *
  generalize renT t p=R at *
  generalize invP p=IP at *
  have dR:=encT_dat R
  unfold encT at *
  generalize hA:[.int .i64 t.n,.int .i64 t.ins,.int .i64 t.outs,encCs t.cases]=A at *
  generalize hB:[AV.int .i64 k,AV.int .i64 m,AV.int .i64 pr,encV outs]=B at *
  generalize hRC:[.int .i64 R.n,.int .i64 R.ins,.int .i64 R.outs,encCs R.cases]=RC at *
  refine w_seqC (fun T H nx=>T 2=encV p∧T 3=.ptr 0 4 0∧T 4=.ptr 1 4 0∧H=hupd (hupd noBoxes 0 A) 1 B∧nx=2) ?_ ?_
  · subst hA; subst hB
    (have zz:=aI @encCs_one @encCs_cells; repeat' (first | apply w_ops0 | apply a_n | apply o_nil | refine vZ ?_ | refine bxZ ?_ | fail)) <;> (try clear zz)
    exact ⟨rfl,rfl,rfl,rfl,rfl⟩
  rintro T H nx ⟨t2,t3,t4,rfl,rfl⟩
  refine w_seqC (fun T H nx=>T 2=encV p∧T 3=.ptr 0 4 0∧T 4=.ptr 1 4 0∧H=hupd (hupd noBoxes 0 A) 1 B∧nx=2) ?_ ?_
  · subst hA; subst hB
    (have zz:=aI @t2 (aI @t3 (aI @t4 @zn)); repeat' (first | apply w_seq | apply w_ops0 | apply w_skip | apply a_n | apply o_nil | refine vZ ?_ | refine cZ ?_ (hp:=by first | exact hr | exact hpc) | refine gTZ ?_ | ((first | refine gBZ ?_ ?_ | refine cdZ ?_ ?_) <;> (intro _hg; (try simp only [ZB] at _hg); try first | exact absurd trivial _hg | (exfalso; omega))) | fail)) <;> (try clear zz)
    exact ⟨(have zz:=@t2; evZ),(have zz:=@t3; evZ),(have zz:=@t4; evZ),rfl,rfl⟩
  clear t2 t3 t4
  rintro T H nx ⟨t2,t3,t4,rfl,rfl⟩
  refine w_seqC (fun T H nx=>T 2=encV p∧T 3=.ptr 0 4 0∧T 4=.ptr 1 4 0∧T 7=.ptr 2 4 0∧T 8=.int .i64 0∧H=hupd (hupd (hupd noBoxes 0 A) 1 B) 2 RC∧nx=3) ?_ ?_
  · subst hA; subst hB; subst hRC
    (have zz:=aI @t2 (aI @t3 (aI @t4 (aI @encCs_one @encCs_cells))); repeat' (first | apply w_ops0 | apply a_n | apply o_nil | refine vZ ?_ | refine cZ ?_ (hp:=c1) | refine alZ ?_ | refine stZ ?_ | fail)) <;> (try clear zz)
    exact ⟨(have zz:=@t2; evZ),(have zz:=@t3; evZ),(have zz:=@t4; evZ),ev0,ev0,by rw [hupd_two]; rfl,rfl⟩
  clear t2 t3 t4
  rintro T H nx ⟨t2,t3,t4,t7,t8,rfl,rfl⟩
  refine w_seqC (fun T H nx=>T 2=encV p∧T 3=.ptr 0 4 0∧T 4=.ptr 1 4 0∧T 7=.ptr 2 4 0∧T 8=.int .i64 0∧T 9=encV IP∧T 10=.int .i64 0∧H=hupd (hupd (hupd noBoxes 0 A) 1 B) 2 RC∧nx=3) ?_ ?_
  · (have zz:=aI @t2 (aI @t3 (aI @t4 (aI @t7 @t8))); repeat' (first | apply w_ops0 | apply a_n | apply o_nil | refine vZ ?_ | refine cZ ?_ (hp:=c2) | fail)) <;> (try clear zz)
    exact ⟨(have zz:=@t2; evZ),(have zz:=@t3; evZ),(have zz:=@t4; evZ),(have zz:=@t7; evZ),(have zz:=@t8; evZ),ev0,ev0,rfl,rfl⟩
  clear t2 t3 t4 t7 t8
  rintro T H nx ⟨t2,t3,t4,t7,t8,t9,t10,rfl,rfl⟩
  refine w_seqC (fun T H nx=>T 2=encV p∧T 3=.ptr 0 4 0∧T 4=.ptr 1 4 0∧T 7=.ptr 2 4 0∧T 8=.int .i64 0∧T 10=.int .i64 0∧T 11=.ptr 3 4 0∧T 12=.int .i64 0∧H=hupd (hupd (hupd (hupd noBoxes 0 A) 1 B) 2 RC) 3 A∧nx=4) ?_ ?_
  · subst hA; subst hRC
    (have zz:=aI @t2 (aI @t3 (aI @t4 (aI @t7 (aI @t8 (aI @t9 (aI @t10 (aI @encCs_one @encCs_cells))))))); repeat' (first | apply w_ops0 | apply a_n | apply o_nil | refine vZ ?_ | refine cZ ?_ (hp:=c3) | refine alZ ?_ | refine stZ ?_ | fail)) <;> (try clear zz)
    exact ⟨(have zz:=@t2; evZ),(have zz:=@t3; evZ),(have zz:=@t4; evZ),(have zz:=@t7; evZ),(have zz:=@t8; evZ),(have zz:=@t10; evZ),ev0,ev0,by rw [hupd_two]; rfl,rfl⟩
  clear t2 t3 t4 t7 t8 t9 t10
  rintro T H nx ⟨t2,t3,t4,t7,t8,t10,t11,t12,rfl,rfl⟩
  generalize hH0:hupd (hupd (hupd (hupd noBoxes 0 A) 1 B) 2 RC) 3 A=H0 at *
  have g0:H0 0=some A:=by rw [← hH0]; rfl
  have g1:H0 1=some B:=by rw [← hH0]; rfl
  have g2:H0 2=some RC:=by rw [← hH0]; rfl
  have g3:H0 3=some A:=by rw [← hH0]; rfl
  have hAl:A.length=4:=by subst hA; rfl
  have hRCl:RC.length=4:=by subst hRC; rfl
  have hA0:A[0]?=some (.int .i64 ((p.length:Nat):Int)):=by subst hA; rw [hn]; rfl
  have hA3:A[3]?=some (encCs t.cases):=by subst hA; rfl
  have hA4:A.take 4=A:=List.take_of_length_le (by omega)
  have hR4:RC.take 4=RC:=List.take_of_length_le (by omega)
  have hA40:(A.drop 0).take 4=A:=hA4
  have hR40:(RC.drop 0).take 4=RC:=hR4
  refine w_seqC (fun T H nx=>T 2=encV p∧T 3=.ptr 0 4 0∧T 4=.ptr 1 4 0∧T 7=.ptr 2 4 0∧H=H0∧nx=4) ?_ ?_
  · have z0:decide ((0:Int) + 0 + 0=0)=true:=rfl
    (have zz:=aI @t2 (aI @t3 (aI @t4 (aI @t7 (aI @t8 (aI @t10 (aI @t11 (aI @t12 (aI @g0 (aI @g2 (aI @g3 (aI @hAl (aI @hRCl (aI @hA4 (aI @hR4 @z0)))))))))))))); repeat' (first | apply w_seq | apply w_ops0 | apply w_skip | apply a_n | apply o_nil | refine vZ ?_ | refine cZ ?_ (hp:=by first | exact c4 | exact c5) | refine gTZ ?_ | ((first | refine gBZ ?_ ?_ | refine cdZ ?_ ?_) <;> (intro _hg; (try simp only [ZB] at _hg); try first | exact absurd trivial _hg | (exfalso; omega))) | fail)) <;> (try clear zz)
    exact ⟨(have zz:=@t2; evZ),(have zz:=@t3; evZ),(have zz:=@t4; evZ),(have zz:=@t7; evZ),rfl,rfl⟩
  clear t2 t3 t4 t7 t8 t10 t11 t12
  rintro T H nx ⟨t2,t3,t4,t7,rfl,rfl⟩
  have hz1:zcells (.agg [.int .i64 0]) p.length=(mvK inp p 0).map (AV.int .i64):=by simp [zcells,mvK,AV.cells,hih]
  have hz2:zcells (.agg [.int .i64 0]) p.length=(mvK outs p 0).map (AV.int .i64):=by simp [zcells,mvK,AV.cells,hol]
  refine w_seqC (fun T H' nx=>T 2=encV p∧T 3=.ptr 0 4 0∧T 4=.ptr 1 4 0∧T 7=.ptr 2 4 0∧T 13=.msl 4 p.length 1 0 p.length∧T 14=.msl 5 p.length 1 0 p.length∧T 15=.int .i64 0∧H'=hupd (hupd H 4 ((mvK inp p 0).map (AV.int .i64))) 5 ((mvK outs p 0).map (AV.int .i64))∧nx=6) ?_ ?_
  · (have zz:=aI @t3 (aI @g0 (aI @hAl @hA0)); repeat' (first | apply w_ops1 | refine vZ ?_ | fail)) <;> (try clear zz)
    refine e_mks rfl ev0 ev0 (by omega) (by omega) (by omega) (by omega) ?_
    rw [Int.toNat_natCast,hz1]
    (have zz:=aI @t3 (aI @g0 (aI @hAl @hA0)); repeat' (first | refine vZ ?_ | fail)) <;> (try clear zz)
    refine e_mks rfl ev0 ev0 (by omega) (by omega) (by omega) (by omega) ?_
    rw [Int.toNat_natCast,hz2]
    (have zz:=aI @t3 (aI @g0 (aI @hAl @hA0)); repeat' (first | apply a_n | apply o_nil | refine vZ ?_ | fail)) <;> (try clear zz)
    exact ⟨(have zz:=@t2; evZ),(have zz:=@t3; evZ),(have zz:=@t4; evZ),(have zz:=@t7; evZ),(have zz:=@Nat.mul_one; evZ),(have zz:=@Nat.mul_one; evZ),ev0,rfl,rfl⟩
  clear t2 t3 t4 t7
  rintro T H' nx ⟨t2,t3,t4,t7,t13,t14,t15,rfl,rfl⟩
  have hB0:B[0]?=some (.int .i64 k):=by subst hB; rfl
  have hB1:B[1]?=some (.int .i64 m):=by subst hB; rfl
  have hB3:B[3]?=some (encV outs):=by subst hB; rfl
  have hBl:B.length=4:=by subst hB; rfl
  have hp3:=(permE_0 hp).2.2.1
  have hm62:m < 2 ^ 5:=Nat.lt_of_lt_of_le hm (Nat.pow_le_pow_right (by omega) n5)
  refine w_seqC (fun T H' nx=>T 3=.ptr 0 4 0∧T 4=.ptr 1 4 0∧T 7=.ptr 2 4 0∧T 13=.msl 4 p.length 1 0 p.length∧T 14=.msl 5 p.length 1 0 p.length∧T 15=.int .i64 (fmv m p p.length:Nat)∧H'=hupd (hupd H 4 ((moveV inp p).map (AV.int .i64))) 5 ((moveV outs p).map (AV.int .i64))∧nx=6) ?_ ?_
  · (have zz:=@t2; repeat' (first | apply w_seq | apply w_ops0 | apply w_block | apply a_n | apply o_nil | refine vZ ?_ | apply w_loop | fail)) <;> (try clear zz)
    refine loopI (X:=Nat) (fun q=>[(3,.ptr 0 4 0),(4,.ptr 1 4 0),(7,.ptr 2 4 0),(13,.msl 4 p.length 1 0 p.length),(14,.msl 5 p.length 1 0 p.length),(15,.int .i64 (fmv m p q:Nat)),(85,encV p),(86,.int .i64 p.length),(87,.int .i64 q)]) (fun q H' nx=>q ≤ p.length∧H'=hupd (hupd H 4 ((mvK inp p q).map (AV.int .i64))) 5 ((mvK outs p q).map (AV.int .i64))∧nx=6) (fun q=>p.length - q) 0 ⟨Nat.zero_le _,rfl,rfl⟩ (by simp (disch:=omega) only [agr,ZG,reduceEqDiff,↓reduceIte,t2,t3,t4,t7,t13,t14,t15,show fmv m p 0=0 from rfl]) ?_
    clear t2 t3 t4 t7 t13 t14 t15
    rintro q _ _ ⟨hq1,rfl,rfl⟩
    by_cases hq2:q < p.length
    rotate_left
    · obtain rfl:q=p.length:=by omega
      (have zz:=and_self; repeat' (first | apply w_seq | apply w_ops0 | apply w_exit | apply a_n | apply a_x | apply o_nil | refine vZ ?_ | (refine cdZ ?_ ?_ <;> (intro _hg; (try simp only [ZB] at _hg); try first | exact absurd trivial _hg | (exfalso; omega))) | fail)) <;> (try clear zz)
      exact ⟨rfl,rfl,rfl,rfl,rfl,rfl,by rw [show moveV inp p=mvK inp p p.length by unfold moveV; rw [hih],show moveV outs p=mvK outs p p.length by unfold moveV; rw [hol]],rfl⟩
    have hpq:=hp3 q hq2
    obtain ⟨w,hw⟩:∃ w:Nat,p.getD q default=w:=⟨(p.getD q default).toNat,by omega⟩
    have hl1:=mvK_len inp p q
    have hl2:=mvK_len outs p q
    have hlm1:=lput_mapG (f:=AV.int .i64) (l:=mvK inp p q) (k:=w) (x:=inp.getD q default) (by omega)
    have hlm2:=lput_mapG (f:=AV.int .i64) (l:=mvK outs p q) (k:=w) (x:=outs.getD q default) (by omega)
    have hs1:mvK inp p (q + 1)=(mvK inp p q).set w (inp.getD q default):=by rw [mvK,hw]; rfl
    have hs2:mvK outs p (q + 1)=(mvK outs p q).set w (outs.getD q default):=by rw [mvK,hw]; rfl
    have hs3:fmv m p (q + 1)=fmv m p q ||| (m / 2 ^ q % 2 * 2 ^ w):=by rw [fmv,hw]; rfl
    have hfq:=hfl q (by omega)
    have hb1:and1 (shrN (m:Int) q)=((m / 2 ^ q % 2:Nat):Int):=by rw [shr_bits (by omega),and1_nat]
    have hbt:m / 2 ^ q % 2 ≤ 1:=by omega
    have hpw:2 ^ w < 2 ^ 5:=Nat.pow_lt_pow_right (by omega) (by omega)
    have hp5:2 ^ p.length ≤ 2 ^ 5:=Nat.pow_le_pow_right (by omega) n5
    have hmul:m / 2 ^ q % 2 * 2 ^ w ≤ 2 ^ w:=by
      calc m / 2 ^ q % 2 * 2 ^ w ≤ 1 * 2 ^ w:=Nat.mul_le_mul_right _ hbt
        _=2 ^ w:=Nat.one_mul _
    have hsl:=shl_nat (k:=.i64) (k':=.i64) (a:=m / 2 ^ q % 2) (b:=w) (tb:=false) (tf:=false) (by show w ≤ 64; omega) (by show _ < 2 ^ 63; omega)
    have hor:=or_nat (tb:=false) (tf:=false) (a:=fmv m p q) (b:=m / 2 ^ q % 2 * 2 ^ w) (by omega) (by omega)
    rw [← hs3] at hor
    clear hs3 hmul hbt hpw hp5 hfq
    generalize hF2:fmv m p (q + 1)=F2 at *
    generalize fmv m p q=F1 at *
    generalize m / 2 ^ q % 2=bt at *
    (have zz:=aI @hw (aI @g0 (aI @g1 (aI @hAl (aI @hBl (aI @hA3 (aI @hB0 (aI @hB1 (aI @hB3 (aI @ix (aI @hinp (aI @Int.toNat_natCast (aI @shr_eq (aI @and_eq1 (aI @hb1 (aI @hsl @hor))))))))))))))); repeat' (first | apply w_seq | apply w_ops0 | apply w_ops1 | apply w_block | apply w_skip | apply a_n | apply o_nil | refine vZ ?_ | refine stZ ?_ | (refine cdZ ?_ ?_ <;> (intro _hg; (try simp only [ZB] at _hg); try first | exact absurd trivial _hg | (exfalso; omega))) | fail)) <;> (try clear zz)
    refine ⟨q + 1,by omega,⟨by omega,?_,rfl⟩,?_⟩
    · rw [hupd_45,hs1,hs2]
      rw [hlm1,hlm2]
    · rw [hF2]
      simp (disch:=omega) only [agr,ZG,reduceEqDiff,↓reduceIte]
  clear t2 t3 t4 t7 t13 t14 t15
  rintro T H' nx ⟨t3,t4,t7,t13,t14,t15,rfl,rfl⟩
  have r13:Snap (hupd (hupd H 4 ((moveV inp p).map (AV.int .i64))) 5 ((moveV outs p).map (AV.int .i64))) (.msl 4 p.length 1 0 p.length) (encV (moveV inp p)):=snap_row (by rw [hupd_ne (by omega),hupd_self']) rfl (by rw [moveV_len,hih])
  have r14:Snap (hupd (hupd H 4 ((moveV inp p).map (AV.int .i64))) 5 ((moveV outs p).map (AV.int .i64))) (.msl 5 p.length 1 0 p.length) (encV (moveV outs p)):=snap_row hupd_self' rfl (by rw [moveV_len,hol])
  have z4:(bb == bb)=true:=bool_eq_self _
  have z5:(ba == ba)=true:=bool_eq_self _
  have z6:decide ((0:Int) + 0 + 0 + 0 + 0=0)=true:=rfl
  (have zz:=aI @t3 (aI @t4 (aI @t7 (aI @t13 (aI @t14 (aI @t15 (aI @g0 (aI @g1 (aI @g2 (aI @hAl (aI @hBl (aI @hRCl (aI @hA4 @hR4)))))))))))); repeat' (first | apply w_seq | apply w_ops0 | refine vZ ?_ | fail)) <;> (try clear zz)
  refine o_callP ev0 (have zz:=@t13; evZ) c6 (snap_plain (snapL_cons (Dat.snap dR) (snapL_cons r13 snapL_nil)) rfl) ?_
  (have zz:=aI @t3 (aI @t4 (aI @t7 (aI @t13 (aI @t14 (aI @t15 (aI @g0 (aI @g1 (aI @g2 (aI @hAl (aI @hBl (aI @hRCl (aI @hA4 (aI @hR4 (aI @hB0 (aI @hB1 @hB3))))))))))))))); repeat' (first | apply w_seq | apply w_ops0 | apply a_n | apply o_nil | refine vZ ?_ | refine cZ ?_ (hp:=c7) | fail)) <;> (try clear zz)
  refine o_callP ev0 (have zz:=aI @t14 @t15; evZ) c8 (snap_plain (snapL_cons (Dat.snap dR) (snapL_cons (.int _ _) (snapL_cons (.int _ _) (snapL_cons r14 snapL_nil)))) rfl) ?_
  (have zz:=aI @t3 (aI @t4 (aI @t7 (aI @t13 (aI @t14 (aI @t15 (aI @g0 (aI @g1 (aI @g2 (aI @hAl (aI @hBl (aI @hRCl (aI @hA4 (aI @hR4 (aI @hB0 (aI @hB1 (aI @hB3 (aI @z4 (aI @z5 @z6)))))))))))))))))); repeat' (first | apply w_seq | apply w_ops0 | apply w_ret | apply a_n | apply o_nil | refine vZ ?_ | refine cZ ?_ (hp:=by first | exact haw | exact c9 | exact c10) | refine gTZ ?_ | refine e_ends rfl ?_ | refine r1Z ?_ | fail)) <;> (try clear zz)
  all_goals exact snap_bool rfl
end Go.Proofs.YtbiikomnhkbblaaGreat
