/- Texts of this claim, one after the other: T60, T58, T61, T62, T65, T66, A14, T46, T67, T68, T69, T71, T72, T73, T74, T8, T9. -/
import Derived.Test.YtjgpfclngkcedaaGreatXG5
import Derived.Test.YtjgpfclngkcedaaGreatXG4
import Derived.Test.YtjgpfclngkcedaaGreatXG3
import Derived.Test.YtjgpfclngkcedaaGreatRows
import Derived.WalkKit
import Derived.ProofKit
import Derived.OpenShut

set_option linter.unusedSimpArgs false
set_option linter.unusedVariables false
namespace Go.Proofs.YtjgpfclngkcedaaGreat
open Go Go.Abs
def cq {α:Type} [Inhabited α] (g:α→α) (l:List α) (i:Nat):List α:=(List.range l.length).map fun q=>if q < i then g (l.getD q default) else l.getD q default
section
variable {α:Type} [Inhabited α] {g:α→α} {l:List α}
theorem gM {i:Nat}:(cq g l i).length=l.length:=by simp [cq]
theorem rk {i q:Nat} (h:q < l.length):(cq g l i).getD q default=if q < i then g (l.getD q default) else l.getD q default:=by
 unfold cq
 rw [List.getD_eq_getElem?_getD,List.getElem?_map,List.getElem?_range h]; rfl
theorem ow:cq g l 0=l:=by
 refine List.ext_getElem (by simp [cq]) fun i h1 h2=>?_
 simp [cq,List.getD,h2]
theorem pV:cq g l l.length=l.map g:=by
 refine List.ext_getElem (by simp [cq]) fun i h1 h2=>?_
 have h3:i < l.length:=by simpa using h2
 simp [cq,List.getD,h3]
theorem rh {i:Nat} (h:i < l.length):(cq g l i).set i (g (l.getD i default))=cq g l (i + 1):=by
 refine List.ext_getElem (by simp [cq]) fun q h1 h2=>?_
 simp only [List.length_set,gM] at h1
 rw [List.getElem_set]
 simp only [cq,List.getElem_map,List.getElem_range]
 by_cases e:i=q
 ·subst e; rw [if_pos rfl,if_pos (by omega)]
 ·rw [if_neg e]
  by_cases c:q < i
  ·rw [if_pos c,if_pos (by omega)]
  ·rw [if_neg c,if_neg (by omega)]
end
theorem BoxesM.set {H:Hp} {bs:List Nat} {l:List (List Int)} {i:Nat} {v:List Int} (h:BoxesM H bs l) (hi:i < l.length):BoxesM (ak H (bs.getD i 0) (v.map (AV.int .i64))) bs (l.set i v):=by
 refine ⟨by rw [List.length_set]; exact h.len,fun j hj=>?_,h.nodup⟩
 rw [List.length_set] at hj
 by_cases e:j=i
 ·subst e
  rw [au]
  simp [List.getD,hj]
 ·rw [al (fun k=>e (yh h.nodup (by have:=h.len; omega) (by have:=h.len; omega) k)),h.at_ j hj]
  simp only [List.getD_eq_getElem?_getD]
  rw [List.getElem?_set_ne (by omega)]
theorem rO {bs:List Nat} {n i:Nat} (h:i < bs.length):(bP bs n)[i]?=some (.msl (bs.getD i 0) n 1 0 n):=by simp [bP,List.getD,h]
attribute [local irreducible] aw ac aP aK ay aA am aB aM aX Go.Abs.Fn aH Go.Abs.Pure ag ax Yl
set_option maxHeartbeats 2000000 in
theorem pM (l:List (List Int)) (to:List Int) (n:Nat) (h0:0 < n) (hn:n ≤ 5) (hl:l.length ≤ 100000) (hto:to.length ≤ 1000) (hls:∀ v ∈ l,v.length=n∧∀ z ∈ v,0 ≤ z∧z < to.length):Pure Tryz.prog 74 [ar l,.iptr [aF to] 0] (ar (gq (l.map (dg to)))):=by
 refine Pure.of_c2 follows Au (Nat.le_of_ble_eq_true rfl) ?_
 simp only [b74,cO,cG,cN,cM,cD,cF,cB,aq,aL]
 (have zz:=and_self; repeat' (first | refine zW ?_ | apply a_n | refine zO ?_ | refine vY ?_ | fail)) <;> (try clear zz)
 refine aR (have zz:=and_self; evY) (have zz:=and_self; evY) (s9 l n h0 hn hl (fun v hv=>(hls v hv).1) _ _) ?_
 rintro sv H nx ⟨bs,hrow,hbx,hbd,hbb,-,-⟩
 by_cases hnil:l=[]
 ·subst hnil
  obtain rfl:bs=[]:=List.length_eq_zero_iff.1 hbx.len
  generalize hcs:bP [] n=cs at hrow
  have hsv:b0 sv=some (.int .i64 0)∧d9 sv=some 0∧∀ H',(∀ x,x < nx→H' x=H x)→cm 1 H' sv=some (0,[]):=by
   cases hrow with
   | nil=>exact ⟨rfl,rfl,fun _ _=>rfl⟩
   | box B len cs h1 h2 =>
    have e:len=0:=by rw [← hcs] at h2; simp [bP] at h2; omega
    subst e
    refine ⟨rfl,rfl,fun H' hH=>?_⟩
    have hb:=hbd B rfl
    rw [ec (cs:=cs) ((hH B (by omega)).trans h1) (by omega) (by omega)]
    simp
  (have zz:=hsv.1; repeat' (first | refine zW ?_ | apply a_n | refine zO ?_ | refine vY ?_ | fail)) <;> (try clear zz)
  refine br (X:=Unit) (fun _=>[(4,sv),(11,.int .i64 0),(12,.int .i64 0)]) (fun _ H' nx'=>H'=H∧nx'=nx) (fun _=>0) () ⟨rfl,rfl⟩ ag0 ?_
  rintro _ _ _ ⟨rfl,rfl⟩
  (have zz:=and_self; repeat' (first | refine zW ?_ | apply a_n | apply a_x | refine zO ?_ | refine vY ?_ | (refine zGY ?_ ?_ <;> (intro _hg; try (exfalso; omega))) | fail)) <;> (try clear zz)
  refine aR (have zz:=and_self; evY) (have zz:=and_self; evY) (mb sv [] (by simp) (fun v hv=>(by cases hv)) _ _ hsv.2.1 hsv.2.2) ?_
  rintro r H1 n1 ⟨h1,h2,h3⟩
  (have zz:=and_self; repeat' (first | apply a_n | refine zO ?_ | refine vY ?_ | refine ae rfl ?_ | refine r1Y ?_ | fail)) <;> (try clear zz)
  exact h1
 have hpos:=List.length_pos_iff.2 hnil
 have hcl:(bP bs n).length=l.length:=by simp [bP,hbx.len]
 obtain ⟨B,rfl,hB⟩:∃ B,sv=.msl B l.length 1 0 l.length∧H B=some (bP bs n):=by
  generalize hcs:bP bs n=cs at hrow hcl
  cases hrow with
  | nil=>simp at hcl; omega
  | box B len cs h1 h2 =>
   have e:len=l.length:=by omega
   subst e
   exact ⟨B,by rw [Nat.mul_one],h1⟩
 obtain ⟨-,hBn,hBbs⟩:=hbd B rfl
 clear hrow hbd
 (have zz:=and_self; repeat' (first | refine zW ?_ | apply a_n | refine zO ?_ | refine vY ?_ | fail)) <;> (try clear zz)
 refine br (X:=Nat) (fun i=>[(1,.iptr [aF to] 0),(4,.msl B l.length 1 0 l.length),(10,.msl B l.length 1 0 l.length),(11,.int .i64 l.length),(12,.int .i64 (i:Nat))]) (fun i H' nx'=>i ≤ l.length∧nx'=nx∧H' B=some (bP bs n)∧BoxesM H' bs (cq (dg to) l i)) (fun i=>l.length - i) 0 ⟨Nat.zero_le _,rfl,hB,by have e:cq (dg to) l 0=l:=ow; rw [e]; exact hbx⟩ ag0 ?_
 clear hB hbx
 rintro i H1 nx ⟨hi,rfl,hB,hbx⟩
 have hbl:bs.length=l.length:=by have:=hbx.len; have e:(cq (dg to) l i).length=l.length:=gM; omega
 by_cases hi2:i < l.length
 rotate_left
 ·have e:cq (dg to) l i=l.map (dg to):=by rw [show i=l.length by omega]; exact pV
  rw [e] at hbx
  have hml:∀ v ∈ l.map (dg to),v.length=n:=fun v hv=>by
   obtain ⟨u,hu,rfl⟩:=List.mem_map.1 hv
   rw [wa]; exact (hls u hu).1
  refine bI ?_
  (have zz:=and_self; repeat' (first | apply a_n | refine zO ?_ | refine vY ?_ | fail)) <;> (try clear zz)
  refine bI ?_
  (have zz:=and_self; repeat' (first | apply a_n | apply a_x | refine zO ?_ | (refine zGY ?_ ?_ <;> (intro _hg; try (exfalso; omega))) | fail)) <;> (try clear zz)
  refine bI ?_
  refine jq (fun x=>if x ∈ bs then H1 x else none) (ak (fun x=>if x ∈ bs then none else H1 x) B ((l.map (dg to)).map aF)) [(4,.msl B l.length 1 0 l.length)] (vv hbx hml hB hBbs) ⟨.inl (have zz:=and_self; evY),trivial⟩ ?_
  (have zz:=and_self; repeat' (first | apply a_n | refine zO ?_ | refine vY ?_ | fail)) <;> (try clear zz)
  refine aR (have zz:=and_self; evY) (have zz:=and_self; evY) (mb (.msl B l.length 1 0 l.length) (l.map (dg to)) (by rw [List.length_map]; omega) (fun v hv=>by have:=hml v hv; show _ ≤ _; omega) _ _ (by simp [d9]) (fun H' hH'=>by
   rw [ec (cs:=(l.map (dg to)).map aF) ((hH' B (by omega)).trans au) (by simp) (by omega),List.drop_zero,List.take_of_length_le (by simp),List.length_map])) ?_
  rintro r H2 n2 ⟨h1,h2,h3⟩
  (have zz:=and_self; repeat' (first | apply a_n | refine zO ?_ | refine vY ?_ | refine ae rfl ?_ | refine r1Y ?_ | fail)) <;> (try clear zz)
  exact h1
 obtain ⟨vl,vb⟩:=hls _ (ah hi2)
 have hld:=rO (bs:=bs) (n:=n) (i:=i) (by omega)
 have hbi:=hbx.at_ i (by have e:(cq (dg to) l i).length=l.length:=gM; omega)
 have hgi:(cq (dg to) l i).getD i default=l.getD i default:=by
  have e:(cq (dg to) l i).getD i default=if i < i then dg to (l.getD i default) else l.getD i default:=rk hi2
  rw [e,if_neg (by omega)]
 rw [hgi] at hbi
 have hset:(cq (dg to) l i).set i (dg to (l.getD i default))=cq (dg to) l (i + 1):=rh hi2
 have hbb2:=hbb _ (rp (bs:=bs) (i:=i) (by omega))
 have hnB:B ≠ bs.getD i 0:=fun e=>hBbs (e ▸ rp (by omega))
 have hbs:=fun v=>BoxesM.set (v:=v) hbx (i:=i) (by have e:(cq (dg to) l i).length=l.length:=gM; omega)
 have hcl2:(bP bs n).length=l.length:=by simp [bP,hbl]
 generalize hv:l.getD i default=v at *
 generalize hbe:bs.getD i 0=b at *
 (have zz:=aI @hB (aI @hcl2 @hld); repeat' (first | refine zW ?_ | apply a_n | refine zO ?_ | refine vY ?_ | (refine zGY ?_ ?_ <;> (intro _hg; try (exfalso; omega))) | fail)) <;> (try clear zz)
 refine br (X:=Nat) (fun p=>[(1,.iptr [aF to] 0),(4,.msl B l.length 1 0 l.length),(10,.msl B l.length 1 0 l.length),(11,.int .i64 l.length),(12,.int .i64 (i:Nat)),(6,.msl b n 1 0 n),(17,.int .i64 n),(18,.int .i64 (p:Nat))]) (fun p H' nx'=>p ≤ n∧nx'=nx∧H'=ak H1 b ((cq (fun z=>to.getD z.toNat default) v p).map (AV.int .i64))) (fun p=>n - p) 0 ⟨Nat.zero_le _,rfl,by have e:cq (fun z=>to.getD z.toNat default) v 0=v:=ow; rw [e]; exact e7 hbi⟩ ag0 ?_
 rintro p _ nx ⟨hp,rfl,rfl⟩
 by_cases hp2:p < n
 rotate_left
 ·(have zz:=and_self; repeat' (first | refine zW ?_ | apply a_n | apply a_x | refine zO ?_ | refine vY ?_ | (refine zGY ?_ ?_ <;> (intro _hg; try (exfalso; omega))) | fail)) <;> (try clear zz)
  have e:cq (fun z=>to.getD z.toNat default) v p=dg to v:=by rw [show p=v.length by omega]; exact pV
  refine ⟨i + 1,by omega,⟨by omega,rfl,by rw [al hnB,hB],?_⟩,ag0⟩
  rw [e,← hset]
  exact hbs _
 have hpv:p < v.length:=by omega
 have b1:=vb _ (ah hpv)
 obtain ⟨z,hz⟩:∃ z:Nat,v.getD p default=z:=⟨(v.getD p default).toNat,by omega⟩
 have hml:(cq (fun z=>to.getD z.toNat default) v p).length=n:=by have e:(cq (fun z=>to.getD z.toNat default) v p).length=v.length:=gM; omega
 have hgp:((cq (fun z=>to.getD z.toNat default) v p).map (AV.int .i64))[p]?=some (.int .i64 z):=by
  have e:(cq (fun z=>to.getD z.toNat default) v p).getD p default=if p < p then to.getD (v.getD p default).toNat default else v.getD p default:=rk hpv
  rw [if_neg (by omega),hz] at e
  rw [List.getElem?_map]
  have h2:p < (cq (fun z=>to.getD z.toNat default) v p).length:=by omega
  rw [List.getElem?_eq_getElem h2,← e,List.getD_eq_getElem?_getD,List.getElem?_eq_getElem h2]; rfl
 have hst:(cq (fun z=>to.getD z.toNat default) v p).set p (to.getD z default)=cq (fun z=>to.getD z.toNat default) v (p + 1):=by
  have e:(cq (fun z=>to.getD z.toNat default) v p).set p (to.getD (v.getD p default).toNat default)=cq (fun z=>to.getD z.toNat default) v (p + 1):=rh hpv
  rw [hz,Int.toNat_natCast] at e
  exact e
 have hlp:=dX (f:=AV.int .i64) (l:=cq (fun z=>to.getD z.toNat default) v p) (k:=p) (x:=to.getD z default) (by omega)
 rw [hst] at hlp
 have hzl:z < to.length:=by omega
 generalize cq (fun z=>to.getD z.toNat default) v p=W at *
 (have zz:=aI @hgp @hml; repeat' (first | refine zW ?_ | apply a_n | refine zO ?_ | refine vY ?_ | refine stY ?_ | (refine zGY ?_ ?_ <;> (intro _hg; try (exfalso; omega))) | fail)) <;> (try clear zz)
 refine ⟨p + 1,by omega,⟨by omega,rfl,?_⟩,ag0⟩
 rw [aG,← hlp]
end Go.Proofs.YtjgpfclngkcedaaGreat
namespace Go.Proofs.YtjgpfclngkcedaaGreat
open Go Go.Abs
open Nat (reduceEqDiff reduceAdd reduceLeDiff)
def gC (H:Hp) (k:Nat):Hp:=fun x=>if x < k then H x else none
theorem nR {H:Hp} {k x:Nat} (h:x < k):gC H k x=H x:=if_pos h
theorem nU {H H':Hp} {k:Nat} (h:∀ x,x < k→H' x=H x):Sub (gC H k) H':=fun b c hb=>by
 unfold gC at hb
 split at hb
 ·rw [h b ‹_›]; exact hb
 ·cases hb
attribute [local irreducible] aw ac aP aK ay aA am aB aM aX Go.Abs.Fn aH Go.Abs.Pure ag ax Yl
end Go.Proofs.YtjgpfclngkcedaaGreat
namespace Go.Proofs.YtjgpfclngkcedaaGreat
open Go Go.Abs
open Nat (reduceEqDiff reduceAdd reduceLeDiff)
def kH (to:List Int) (c:CaseV):CaseV:=⟨c.inp,gq (c.out.map (dg to)),gq (c.calm.map (dg to))⟩
def j5 (t:TaskV) (outs:Int) (to:List Int):TaskV:=⟨t.n,t.ins,outs,t.cases.map (kH to)⟩
def gZ (t:TaskV) (outs:Int) (to:List Int):TaskV × Int:=if aN t ≠ 0 then (T00,aN t) else if outs < 1 ∨ 8 < outs then (T00,2) else if (to.length:Int) ≠ t.outs then (T00,15) else if to.any (fun v=>decide (v < 0 ∨ outs ≤ v)) then (T00,2) else (j5 t outs to,0)
attribute [local irreducible] aw ac aP aK ay aA am aB aM aX Go.Abs.Fn aH Go.Abs.Pure ag ax Yl
theorem rS (v o:Int):Pure Tryz.prog 73 [.int .i64 v,.iptr [.int .i64 o] 0] (.bool (decide (v < 0 ∨ o ≤ v))):=by
 refine Pure.of_c2 follows zc (Nat.le_of_ble_eq_true rfl) ?_
 simp only [b73,cO,cG,cN,cM,cD,cF,cB,aq,aL]
 (have zz:=and_self; repeat' (first | refine zW ?_ | apply a_n | refine zO ?_ | refine vZ ?_ | refine gTZ ?_ | refine gFZ ?_ | (refine zGZ ?_ ?_ <;> (intro _hg; try (exfalso; omega))) | refine ae rfl ?_ | refine r1Z ?_ | fail)) <;> (try clear zz)
 all_goals (refine bN ?_)
 ·exact decide_eq_decide.2 (by omega)
 ·rw [decide_eq_true (by omega)]
set_option maxHeartbeats 2000000 in
theorem oa (t:TaskV) (outs:Int) (to:List Int) (fit:Fit t) (hto:to.length ≤ 1000):Pure Tryz.prog 23 [bn t,.int .i64 outs,aF to] (.tup [bn (gZ t outs to).1,.int .i64 (gZ t outs to).2]):=by
 refine Pure.of_c2 follows zh (Nat.le_of_ble_eq_true rfl) ?_
 simp only [b23,cO,cG,cN,cM,cD,cF,cB,aq,aL]
 have hc:=pg t fit.sh fit.sh2
 have d1:=bK t
 have hA:=kX to (fun v=>decide (v < 0 ∨ outs ≤ v)) 73 [.iptr [.int .i64 outs] 0] (DatL.cons (Dat.iptr (DatL.cons .int DatL.nil)) DatL.nil) (fun v _=>rS v outs) (show _ ≤ _ by omega)
 unfold gZ
 generalize hAA:[.int .i64 t.n,.int .i64 t.ins,.int .i64 t.outs,aO t.cases]=A
 have hTA:bn t=.agg A:=by rw [← hAA]; rfl
 rw [hTA] at hc d1 ⊢
 refine ba (fun T H nx=>T 3=.ptr 0 4 0∧T 4=.ptr 1 1 0∧T 5=.ptr 2 1 0∧T 6=.ptr 3 4 0∧H=ak (ak (ak (ak a9 0 A) 1 [.int .i64 outs]) 2 [aF to]) 3 [.int .i64 0,.int .i64 0,.int .i64 0,.esl]∧nx=4) ?_ ?_
 ·subst hAA
  (have zz:=aI @af @ab; repeat' (first | apply a_n | refine zO ?_ | refine vZ ?_ | refine alZ ?_ | refine bxZ ?_ | fail)) <;> (try clear zz)
  exact ⟨rfl,rfl,rfl,rfl,rfl,rfl⟩
 rintro T H _ ⟨t3,t4,t5,t6,rfl,rfl⟩
 by_cases he:aN t=0
 rotate_left
 ·rw [if_pos he]
  generalize aN t=C at *
  subst hAA
  (have zz:=aI @t3 (aI @t4 (aI @t5 (aI @t6 (aI @af @ab)))); repeat' (first | refine zW ?_ | apply a_n | apply a_r | refine zO ?_ | refine vZ ?_ | refine cZ ?_ (hp:=hc) | refine stZ ?_ | (refine zGZ ?_ ?_ <;> (intro _hg; try (exfalso; omega))) | refine ae rfl ?_ | refine r2Z ?_ | fail)) <;> (try clear zz)
  exact fm _
 rw [if_neg (fun h=>h he)]
 rw [he] at hc
 refine ba (fun T H nx=>T 3=.ptr 0 4 0∧T 4=.ptr 1 1 0∧T 5=.ptr 2 1 0∧T 6=.ptr 3 4 0∧H=ak (ak (ak (ak a9 0 A) 1 [.int .i64 outs]) 2 [aF to]) 3 [.int .i64 0,.int .i64 0,.int .i64 0,.esl]∧nx=4) ?_ ?_
 ·subst hAA
  (have zz:=aI @t3 (aI @t4 (aI @t5 (aI @t6 (aI @af @ab)))); repeat' (first | refine zW ?_ | apply a_n | refine zO ?_ | refine vZ ?_ | refine cZ ?_ (hp:=hc) | (refine zGZ ?_ ?_ <;> (intro _hg; try (exfalso; omega))) | fail)) <;> (try clear zz)
  exact ⟨(have zz:=@t3; evZ),(have zz:=@t4; evZ),(have zz:=@t5; evZ),(have zz:=@t6; evZ),rfl,rfl⟩
 clear t3 t4 t5 t6
 rintro T H _ ⟨t3,t4,t5,t6,rfl,rfl⟩
 subst hAA
 by_cases h1:outs < 1
 ·rw [if_pos (.inl h1)]
  have z:decide (outs < 1)=true:=decide_eq_true h1
  (have zz:=aI @t3 (aI @t4 (aI @t5 (aI @t6 (aI @z (aI @af @ab))))); repeat' (first | refine zW ?_ | apply a_n | apply a_r | refine zO ?_ | refine vZ ?_ | refine stZ ?_ | refine gFZ ?_ | refine cTZ ?_ | refine ae rfl ?_ | refine r2Z ?_ | fail)) <;> (try clear zz)
  all_goals exact fm _
 have z1:decide (outs < 1)=false:=decide_eq_false h1
 by_cases h2:8 < outs
 ·rw [if_pos (.inr h2)]
  have z:decide (8 < outs)=true:=decide_eq_true h2
  (have zz:=aI @t3 (aI @t4 (aI @t5 (aI @t6 (aI @z1 (aI @z (aI @af @ab)))))); repeat' (first | refine zW ?_ | apply a_n | apply a_r | refine zO ?_ | refine vZ ?_ | refine stZ ?_ | refine gTZ ?_ | refine cTZ ?_ | refine ae rfl ?_ | refine r2Z ?_ | fail)) <;> (try clear zz)
  all_goals exact fm _
 have z2:decide (8 < outs)=false:=decide_eq_false h2
 rw [if_neg (by omega)]
 by_cases h3:(to.length:Int) ≠ t.outs
 ·rw [if_pos h3]
  have z:decide ((to.length:Int) ≠ t.outs)=true:=decide_eq_true h3
  (have zz:=aI @t3 (aI @t4 (aI @t5 (aI @t6 (aI @z1 (aI @z2 (aI @z (aI @af @ab))))))); repeat' (first | refine zW ?_ | apply a_n | apply a_r | refine zO ?_ | refine vZ ?_ | refine stZ ?_ | refine gTZ ?_ | refine cTZ ?_ | refine cFZ ?_ | refine ae rfl ?_ | refine r2Z ?_ | fail)) <;> (try clear zz)
  all_goals exact fm _
 have z3:decide ((to.length:Int) ≠ t.outs)=false:=decide_eq_false h3
 rw [if_neg h3]
 have hol:(to.length:Int)=t.outs:=Decidable.of_not_not h3
 refine ba (fun T H nx=>T 3=.ptr 0 4 0∧T 5=.ptr 2 1 0∧T 4=.ptr 1 1 0∧T 6=.ptr 3 4 0∧to.any (fun v=>decide (v < 0 ∨ outs ≤ v))=false∧H=ak (ak (ak (ak a9 0 [.int .i64 t.n,.int .i64 t.ins,.int .i64 t.outs,aO t.cases]) 1 [.int .i64 outs]) 2 [aF to]) 3 [.int .i64 0,.int .i64 0,.int .i64 0,.esl]∧nx=4) ?_ ?_
 ·(have zz:=aI @t3 (aI @t4 (aI @t5 (aI @t6 (aI @z1 (aI @z2 (aI @z3 (aI @af @ab))))))); repeat' (first | refine zW ?_ | apply a_n | refine zO ?_ | refine vZ ?_ | refine gTZ ?_ | refine cFZ ?_ | fail)) <;> (try clear zz)
  refine da (have zz:=aI @t3 (aI @t4 (aI @t5 @t6)); evZ) (have zz:=aI @t3 (aI @t4 (aI @t5 @t6)); evZ) hA (an (by (repeat' (first | exact ai | exact Dat.snap Dat.int | exact Dat.snap Dat.bool | exact Dat.snap Dat.str | exact Dat.snap Dat.esl | exact Dat.snap Dat.nilf | exact Dat.snap (aZ _) | exact Dat.snap (bc _) | apply aj | apply dI | apply dK | (apply cf; (focus ((try simp only [bi,ZA,reduceEqDiff,↓reduceIte,reduceAdd,reduceLeDiff]); with_reducible rfl)); (focus rfl))))) rfl) ?_
  cases hb:to.any (fun v=>decide (v < 0 ∨ outs ≤ v))
  ·(have zz:=aI @t3 (aI @t4 (aI @t5 (aI @t6 (aI @z1 (aI @z2 (aI @z3 (aI @af (aI @ab @Bool.false_eq_true)))))))); repeat' (first | apply a_n | refine zO ?_ | refine vZ ?_ | refine cFZ ?_ | fail)) <;> (try clear zz)
   all_goals exact ⟨(have zz:=@t3; evZ),(have zz:=@t5; evZ),(have zz:=@t4; evZ),(have zz:=@t6; evZ),rfl,rfl,rfl⟩
  ·(have zz:=aI @t3 (aI @t4 (aI @t5 (aI @t6 (aI @z1 (aI @z2 (aI @z3 (aI @af (aI @ab @Bool.false_eq_true)))))))); repeat' (first | refine zW ?_ | apply a_n | apply a_r | refine zO ?_ | refine vZ ?_ | refine stZ ?_ | refine cTZ ?_ | refine ae rfl ?_ | refine r2Z ?_ | fail)) <;> (try clear zz)
   rw [if_pos rfl]
   all_goals exact fm _
 clear t3 t4 t5 t6
 rintro T H _ ⟨t3,t5,t4,t6,hb,rfl,rfl⟩
 rw [hb,if_neg (by decide)]
 refine bI ?_
 refine jq (only 2 [aF to]) (bS (ak (ak (ak (ak a9 0 [.int .i64 t.n,.int .i64 t.ins,.int .i64 t.outs,aO t.cases]) 1 [.int .i64 outs]) 2 [aF to]) 3 [.int .i64 0,.int .i64 0,.int .i64 0,.esl]) 2) [(3,.ptr 0 4 0),(4,.ptr 1 1 0),(5,.iptr [aF to] 0),(6,.ptr 3 4 0)] (Fz.one (by rw [al (by omega),au])) ⟨.inl t3,.inl t4,.inr (by rw [t5]; exact cf lG rfl (aj (aZ _ _) ai)),.inl t6,trivial⟩ ?_
 generalize hH:bS _ 2=H
 have g0:H 0=some [.int .i64 t.n,.int .i64 t.ins,.int .i64 t.outs,aO t.cases]:=by rw [← hH,fU (by omega),al (by omega),al (by omega),al (by omega),au]
 have g1:H 1=some [.int .i64 outs]:=by rw [← hH,fU (by omega),al (by omega),al (by omega),au]
 have g3:H 3=some [.int .i64 0,.int .i64 0,.int .i64 0,.esl]:=by rw [← hH,fU (by omega),au]
 clear hH
 (have zz:=and_self; repeat' (first | apply a_n | refine zO ?_ | refine vY ?_ | fail)) <;> (try clear zz)
 have nn:=gD he
 have hal:=fit.len
 refine ba (fun T H nx=>T 3=.ptr 0 4 0∧T 6=.ptr 3 4 0∧T 9=.func 74 [.iptr [aF to] 0]∧T 10=.ptr 4 4 0∧nx=5∧H 0=some [.int .i64 t.n,.int .i64 t.ins,.int .i64 t.outs,aO t.cases]∧H 3=some [.int .i64 0,.int .i64 0,.int .i64 0,.esl]∧H 4=some [.int .i64 t.n,.int .i64 t.ins,.int .i64 outs,.esl]) ?_ ?_
 ·(have zz:=aI @g0 @g1; repeat' (first | apply a_n | refine zO ?_ | refine vY ?_ | refine alY ?_ | refine stY ?_ | fail)) <;> (try clear zz)
  exact ⟨(have zz:=and_self; evY),(have zz:=and_self; evY),(have zz:=and_self; evY),(have zz:=and_self; evY),rfl,by rw [al (by omega),al (by omega),g0],by rw [al (by omega),al (by omega),g3],by rw [au]; rfl⟩
 clear g0 g1 g3 t3 t4 t5 t6
 rintro T H _ ⟨t3,t6,t9,t10,rfl,g0,g3,g4⟩
 refine ba (fun T H nx=>T 6=.ptr 3 4 0∧T 10=.ptr 4 4 0∧H 3=some [.int .i64 0,.int .i64 0,.int .i64 0,.esl]∧∃ sv,H 4=some [.int .i64 t.n,.int .i64 t.ins,.int .i64 outs,sv]∧Row H 3 sv ((t.cases.map (kH to)).c3 dM)∧∀ y,ef sv=some y→5 ≤ y) ?_ ?_
 rotate_left
 ·clear t3 t6 t9 t10 g0 g3 g4
  rintro T H nx ⟨t6,t10,g3,sv,g4,hrow,hbd⟩
  obtain ⟨q1,q2⟩:=hrow.one
  (have zz:=aI @t6 (aI @t10 (aI @g3 (aI @g4 (aI @q1 @q2)))); repeat' (first | refine zW ?_ | apply a_n | refine zO ?_ | refine vY ?_ | refine stY ?_ | refine ae rfl ?_ | refine r2Y ?_ | fail)) <;> (try clear zz)
  exact v8 (nX (hrow.same fun x hx=>by have:=hbd x hx; rw [al (by omega)]))
 (have zz:=aI @t3 (aI @g0 @ap); repeat' (first | refine zW ?_ | apply a_n | refine zO ?_ | refine vY ?_ | fail)) <;> (try clear zz)
 refine br (X:=AV × Nat) (fun x=>[(6,.ptr 3 4 0),(9,.func 74 [.iptr [aF to] 0]),(10,.ptr 4 4 0),(47,aO t.cases),(48,.int .i64 t.cases.length),(49,.int .i64 x.2)]) (fun x H nx=>x.2 ≤ t.cases.length∧5 ≤ nx∧H 3=some [.int .i64 0,.int .i64 0,.int .i64 0,.esl]∧H 4=some [.int .i64 t.n,.int .i64 t.ins,.int .i64 outs,x.1]∧Row H 3 x.1 (((t.cases.take x.2).map (kH to)).c3 dM)∧∀ y,ef x.1=some y→5 ≤ y∧y < nx) (fun x=>t.cases.length - x.2) (.esl,0) ⟨Nat.zero_le _,Nat.le_refl _,g3,g4,Row.nil,fun b hb=>(by cases hb)⟩ (have zz:=aI @t6 (aI @t9 @t10); agZ) ?_
 clear t3 t6 t9 t10 g0 g3 g4
 rintro ⟨sv,k⟩ H nx ⟨hk,hnx,g3,g4,hrow,hbd⟩
 dsimp only at hk g4 hrow hbd ⊢
 by_cases hk2:k < t.cases.length
 rotate_left
 ·rw [List.take_of_length_le (by omega)] at hrow
  (have zz:=and_self; repeat' (first | refine zW ?_ | apply a_n | apply a_x | refine zO ?_ | refine vY ?_ | (refine zGY ?_ ?_ <;> (intro _hg; try (exfalso; omega))) | fail)) <;> (try clear zz)
  exact ⟨rfl,rfl,g3,sv,g4,hrow,fun y hy=>(hbd y hy).1⟩
 have ix:=bd hk2
 have hm:=ah hk2
 have hst:((t.cases.take (k + 1)).map (kH to)).c3 dM=((t.cases.take k).map (kH to)).c3 dM ++ (dM (kH to (t.cases.getD k default))).cells:=by
  rw [bZ hk2,List.map_append]
  simp [List.c3]
 have hlen3:(((t.cases.take k).map (kH to)).c3 dM).length=k * 3:=by
  rw [rt (fun _=>rfl),List.length_map,List.length_take]; omega
 have hsc:=fit.sh _ hm
 have hqc:=fit.q _ hm
 have hvc:=cX he hm
 have hcm:∀ v ∈ (t.cases.getD k default).calm,v ∈ (t.cases.getD k default).out:=(bo (bQ he hm).2).2.2.2.1
 generalize t.cases.getD k default=c at *
 obtain ⟨q1,q2⟩:=hrow.one
 have hcl:=g9 c.inp hsc.1
 have m1:=pM c.out to t.n.toNat (by omega) (by omega) hqc.1 hto (fun v hv=>⟨by have:=(hvc.1 v hv).1; omega,fun z hz=>by have:=(hvc.1 v hv).2 z hz; omega⟩)
 have m2:=pM c.calm to t.n.toNat (by omega) (by omega) hqc.2 hto (fun v hv=>⟨by have:=(hvc.1 v (hcm v hv)).1; omega,fun z hz=>by have:=(hvc.1 v (hcm v hv)).2 z hz; omega⟩)
 refine bI ?_
 (have zz:=and_self; repeat' (first | apply a_n | refine zO ?_ | refine vY ?_ | fail)) <;> (try clear zz)
 refine bI ?_
 (have zz:=and_self; repeat' (first | apply a_n | refine zO ?_ | (refine zGY ?_ ?_ <;> (intro _hg; try (exfalso; omega))) | fail)) <;> (try clear zz)
 refine bI ?_
 refine eK ?_
 refine bI ?_
 (have zz:=@ix; repeat' (first | apply a_n | refine zO ?_ | refine vY ?_ | refine alY ?_ | refine stY ?_ | fail)) <;> (try clear zz)
 generalize hH2:ak (ak H nx _) nx _=H2
 have gs:∀ x,x < nx→H2 x=H x:=fun x hx=>by rw [← hH2,al (by omega),al (by omega)]
 have gc:H2 nx=some [aF c.inp,ar c.out,ar c.calm]:=by rw [← hH2,au]; rfl
 clear hH2
 refine wg (gC H2 (nx + 1)) rfl (nU fun _ _=>rfl) ?_
 have s4:gC H2 (nx + 1) 4=some [.int .i64 t.n,.int .i64 t.ins,.int .i64 outs,sv]:=by rw [nR (by omega),gs 4 (by omega),g4]
 have sc:gC H2 (nx + 1) nx=some [aF c.inp,ar c.out,ar c.calm]:=by rw [nR (by omega),gc]
 have hSub:∀ H',(∀ x,x < nx + 1→H' x=H2 x)→Sub (gC H2 (nx + 1)) H':=fun H' h=>nU h
 generalize gC H2 (nx + 1)=S at *
 (have zz:=aI @s4 @sc; repeat' (first | apply a_n | refine zO ?_ | refine nvY ?_ | fail)) <;> (try clear zz)
 refine mS ?_
 refine iz (have zz:=and_self; evY) (have zz:=and_self; evY) hcl (aj (aZ _ _) ai) ?_
 refine nT ⟨hSub _ fun _ _=>rfl,?_⟩
 refine mS ?_
 refine da (have zz:=and_self; evY) (have zz:=and_self; evY) m1 (aC (by (repeat' (first | exact ai | exact Dat.snap Dat.int | exact Dat.snap Dat.bool | exact Dat.snap Dat.str | exact Dat.snap Dat.esl | exact Dat.snap Dat.nilf | exact Dat.snap (aZ _) | exact Dat.snap (bc _) | apply aj | apply dI | apply dK | (apply cf; (focus ((try simp only [bi,ZA,reduceEqDiff,↓reduceIte,reduceAdd,reduceLeDiff]); with_reducible rfl)); (focus rfl)))))) ?_
 refine nT ⟨hSub _ fun _ _=>rfl,?_⟩
 refine mS ?_
 refine da (have zz:=and_self; evY) (have zz:=and_self; evY) m2 (aC (by (repeat' (first | exact ai | exact Dat.snap Dat.int | exact Dat.snap Dat.bool | exact Dat.snap Dat.str | exact Dat.snap Dat.esl | exact Dat.snap Dat.nilf | exact Dat.snap (aZ _) | exact Dat.snap (bc _) | apply aj | apply dI | apply dK | (apply cf; (focus ((try simp only [bi,ZA,reduceEqDiff,↓reduceIte,reduceAdd,reduceLeDiff]); with_reducible rfl)); (focus rfl)))))) ?_
 refine nT ⟨hSub _ fun _ _=>rfl,?_⟩
 (have zz:=aI @s4 @sc; repeat' (first | apply a_n | refine zO ?_ | refine nvY ?_ | fail)) <;> (try clear zz)
 refine mS ?_
 (have zz:=and_self; repeat' (first | apply a_n | refine zO ?_ | refine blY ?_ | fail)) <;> (try clear zz)
 refine ⟨hSub _ fun x hx=>by rw [al (by omega)],?_⟩
 (have zz:=aI @s4 @sc; repeat' (first | apply a_n | refine zO ?_ | apply sV | fail)) <;> (try clear zz)
 refine ma rfl ev0 (hrow.same fun y hy=>?_) ev0 mU rfl rfl (by omega) (by rw [hlen3]; omega) (by rw [hlen3]; omega) ?_
 ·have:=hbd y hy
  rw [al (by omega),gs y (by omega)]
 rintro s2 E e hrw hle1 hle2 hsm hb2
 have hfr:∀ x,x < 5→E x=H x:=fun x hx=>(hsm x (by omega) (fun h=>by have:=hbd _ h; omega)).trans (by rw [al (by omega),gs x (by omega)])
 have g4'':=(hfr 4 (by omega)).trans g4
 obtain ⟨p1,p2⟩:=hrw.one
 have ub:∀ y,ef s2=some y→5 ≤ y∧y < e:=fun y hy=>by
  rcases hb2 y hy with h | h
  ·have:=hbd y h; omega
  ·omega
 (have zz:=aI @s4 (aI @sc (aI @g4'' (aI @p1 @p2))); repeat' (first | apply a_n | refine zO ?_ | refine vY ?_ | refine nvY ?_ | apply sV | refine stY ?_ | fail)) <;> (try clear zz)
 refine ⟨(s2,k + 1),by dsimp only; omega,⟨by dsimp only; omega,by omega,?_,?_,?_,ub⟩,ag0⟩
 ·rw [al (by omega),hfr 3 (by omega),g3]
 ·rw [au]; rfl
 ·dsimp only
  rw [hst]
  refine Row.same (H:=E) hrw fun y hy=>?_
  have:=ub y hy
  rw [al (by omega)]
end Go.Proofs.YtjgpfclngkcedaaGreat
namespace Go.Proofs.YtjgpfclngkcedaaGreat
open Go Go.Abs
open Nat (reduceEqDiff reduceAdd reduceLeDiff)
attribute [local irreducible] aw ac aP aK ay aA am aB aM aX Go.Abs.Fn aH Go.Abs.Pure ag ax Yl
end Go.Proofs.YtjgpfclngkcedaaGreat
namespace Go.Proofs.YtjgpfclngkcedaaGreat
open Go Go.Abs
open Nat (reduceEqDiff reduceAdd reduceLeDiff)
def eqF (p:CaseV→CaseV→Bool) (x y:List CaseV):Bool:=decide (x.length=y.length) && (List.range x.length).all fun i=>p (x.getD i default) (y.getD i default)
attribute [local irreducible] aw ac aP aK ay aA am aB aM aX Go.Abs.Fn aH Go.Abs.Pure ag ax Yl
theorem um (x y:List CaseV) (p:CaseV→CaseV→Bool) (g:Nat) (caps:List AV) (hd:∀ z ∈ caps,Dat z) (hx:Sh x) (hy:Sh y) (hg:∀ c ∈ x,∀ d ∈ y,Pure Tryz.prog g (.agg [aF c.inp,ar c.out,ar c.calm] :: .agg [aF d.inp,ar d.out,ar d.calm] :: caps) (.bool (p c d))):Pure Tryz.prog 83 [aO x,aO y,.func g caps] (.bool (eqF p x y)):=by
 refine Pure.of_c2 follows zd (Nat.le_of_ble_eq_true rfl) ?_
 simp only [b83,cO,cG,cN,cM,cD,cF,cB,aq,aL]
 have hx':x.length ≤ 17592186044416:=hx
 have hy':y.length ≤ 17592186044416:=hy
 unfold eqF
 by_cases hlen:x.length=y.length
 rotate_left
 ·have z:decide ((x.length:Int) ≠ y.length)=true:=decide_eq_true (by omega)
  rw [decide_eq_false hlen,Bool.false_and]
  (have zz:=aI @z (aI @af (aI @ab @ap)); repeat' (first | refine zW ?_ | apply a_n | apply a_r | refine zO ?_ | refine vZ ?_ | refine cTZ ?_ | refine ae rfl ?_ | refine r1Z ?_ | fail)) <;> (try clear zz)
  exact .bool _
 rw [decide_eq_true hlen,Bool.true_and]
 have z:decide ((x.length:Int) ≠ y.length)=false:=decide_eq_false (by omega)
 (have zz:=aI @z (aI @af (aI @ab @ap)); repeat' (first | refine zW ?_ | apply a_n | refine zO ?_ | refine vZ ?_ | refine cFZ ?_ | fail)) <;> (try clear zz)
 refine br (X:=Nat) (fun k=>[(0,aO x),(1,aO y),(2,.func g caps),(15,aO x),(16,.int .i64 x.length),(17,.int .i64 k)]) (fun k H nx=>k ≤ x.length∧∀ i,i < k→p (x.getD i default) (y.getD i default)=true) (fun k=>x.length - k) 0 ⟨Nat.zero_le _,fun i h=>absurd h (by omega)⟩ ag0 ?_
 rintro k H nx ⟨hk,hz⟩
 by_cases hk2:k < x.length
 rotate_left
 ·rw [List.all_eq_true.2 (fun i hi=>hz i (by have:=List.mem_range.1 hi; omega))]
  (have zz:=and_self; repeat' (first | refine zW ?_ | apply a_n | apply a_x | refine zO ?_ | refine vY ?_ | (refine zGY ?_ ?_ <;> (intro _hg; try (exfalso; omega))) | refine ae rfl ?_ | refine r1Y ?_ | fail)) <;> (try clear zz)
  exact .bool _
 have ix:=bd hk2
 have iy:=bd (l:=y) (k:=k) (by omega)
 have hc:=hg _ (ah hk2) _ (ah (l:=y) (k:=k) (by omega))
 have dx:=dQ (x.getD k default)
 have dy:=dQ (y.getD k default)
 unfold dM at dx dy
 have hbad:p (x.getD k default) (y.getD k default)=false→(List.range x.length).all (fun i=>p (x.getD i default) (y.getD i default))=false:=fun h=>by
  rw [Bool.eq_false_iff,ne_eq,List.all_eq_true]
  intro h2
  have:=h2 k (List.mem_range.2 hk2)
  rw [h] at this; cases this
 have hnext:p (x.getD k default) (y.getD k default)=true→∀ i,i < k + 1→p (x.getD i default) (y.getD i default)=true:=fun h i hi=>by
  rcases Nat.lt_succ_iff_lt_or_eq.1 hi with h' | rfl
  ·exact hz i h'
  ·exact h
 cases hb:p (x.getD k default) (y.getD k default)
 ·rw [hb] at hc
  rw [hbad hb]
  (have zz:=aI @af (aI @ab (aI @ap (aI @ix @iy))); repeat' (first | refine zW ?_ | apply a_n | apply a_r | refine zO ?_ | refine vY ?_ | refine cY ?_ (hp:=hc) (hs:=by (first | refine an ?_ rfl | apply aC); (repeat' (first | exact ai | apply aS | apply aE | exact dx | exact dy | exact aJ hd)); first | done | fail) | refine alY ?_ | refine stY ?_ | refine cTY ?_ | (refine zGY ?_ ?_ <;> (intro _hg; try (exfalso; omega))) | refine ae rfl ?_ | refine r1Y ?_ | fail)) <;> (try clear zz)
  exact .bool _
 ·rw [hb] at hc
  (have zz:=aI @af (aI @ab (aI @ap (aI @ix @iy))); repeat' (first | refine zW ?_ | apply a_n | refine zO ?_ | refine vY ?_ | refine cY ?_ (hp:=hc) (hs:=by (first | refine an ?_ rfl | apply aC); (repeat' (first | exact ai | apply aS | apply aE | exact dx | exact dy | exact aJ hd)); first | done | fail) | refine alY ?_ | refine stY ?_ | refine cFY ?_ | (refine zGY ?_ ?_ <;> (intro _hg; try (exfalso; omega))) | fail)) <;> (try clear zz)
  exact ⟨k + 1,by omega,⟨by omega,hnext hb⟩,ag0⟩
end Go.Proofs.YtjgpfclngkcedaaGreat
namespace Go.Proofs.YtjgpfclngkcedaaGreat
open Go Go.Abs
open Nat (reduceEqDiff reduceAdd reduceLeDiff)
attribute [local irreducible] aw ac aP aK ay aA am aB aM aX Go.Abs.Fn aH Go.Abs.Pure ag ax Yl
end Go.Proofs.YtjgpfclngkcedaaGreat
namespace Go.Proofs.YtjgpfclngkcedaaGreat
open Go Go.Abs
open Nat (reduceEqDiff reduceAdd reduceLeDiff)
section
attribute [local irreducible] aw ac aP aK ay aA am aB aM aX Go.Abs.Fn aH Go.Abs.Pure ag ax Yl
theorem rY (H:Hp) (nx:Nat):Abs.Fn Tryz.prog 42 [.esl] H nx fun r H' nx'=>(r=.esl ∨ r=.msl nx 0 1 0 0)∧(H'=H∧nx'=nx ∨ H'=ak H nx []∧nx'=nx + 1):=by
 refine Abs.Fn.of_c2 follows wV (Nat.le_of_ble_eq_true rfl) ?_
 simp only [b42,cO,cG,cN,cM,cD,cF,cB,aq,aL]
 (have zz:=and_self; repeat' (first | refine zW ?_ | apply a_n | refine zO ?_ | refine vZ ?_ | fail)) <;> (try clear zz)
 refine mN (k:=0) (by ((try simp only [bi,ZA,reduceEqDiff,↓reduceIte,reduceAdd,reduceLeDiff]); (try with_reducible rfl)); rfl) (fun h=>by omega) (fun h=>?_) (fun h=>?_)
 ((all_goals (try have zz:=and_self)); (repeat' (first | refine zW ?_ | apply a_n | apply a_r | refine zO ?_ | refine vZ ?_ | refine b0Z ?_ | refine a0Z ?_ | refine cTZ ?_ | refine cFZ ?_ | refine ae rfl ?_ | refine r1Z ?_ | fail)); (all_goals (try clear zz)))
 all_goals first | exact ⟨.inl rfl,.inl ⟨rfl,rfl⟩⟩ | exact ⟨.inr rfl,.inr ⟨rfl,rfl⟩⟩
theorem rW (H:Hp) (nx:Nat):Abs.Fn Tryz.prog 106 [.esl] H nx fun r H' nx'=>(r=.esl ∨ r=.msl nx 0 1 0 0)∧(H'=H∧nx'=nx ∨ H'=ak H nx []∧nx'=nx + 1):=by
 refine Abs.Fn.of_c2 follows vT (Nat.le_of_ble_eq_true rfl) ?_
 simp only [wG,cO,cG,cN,cM,cD,cF,cB,aq,aL]
 (have zz:=and_self; repeat' (first | refine zW ?_ | apply a_n | refine zO ?_ | refine vZ ?_ | fail)) <;> (try clear zz)
 refine mN (k:=0) (by ((try simp only [bi,ZA,reduceEqDiff,↓reduceIte,reduceAdd,reduceLeDiff]); (try with_reducible rfl)); rfl) (fun h=>by omega) (fun h=>?_) (fun h=>?_)
 ((all_goals (try have zz:=and_self)); (repeat' (first | refine zW ?_ | apply a_n | apply a_r | refine zO ?_ | refine vZ ?_ | refine b0Z ?_ | refine a0Z ?_ | refine cTZ ?_ | refine cFZ ?_ | refine ae rfl ?_ | refine r1Z ?_ | fail)); (all_goals (try clear zz)))
 all_goals first | exact ⟨.inl rfl,.inl ⟨rfl,rfl⟩⟩ | exact ⟨.inr rfl,.inr ⟨rfl,rfl⟩⟩
end
def ctC:FuncId→List AV→Nat→Option AV:=fun g args nx=>match Nat.beq g 42 || Nat.beq g 106,args with
 | true,[.esl]=>some (.msl nx 0 1 0 0)
 | _,_=>none
theorem xO {g:Nat} {args:List AV} {H:Hp} {nx:Nat} {R:AV→Hp→Nat→Prop} (h:Abs.Fn Tryz.prog g args H nx fun r' H' nx'=>(r'=.esl ∨ r'=.msl nx 0 1 0 0)∧(H'=H∧nx'=nx ∨ H'=ak H nx []∧nx'=nx + 1)) (hR:R (.msl nx 0 1 0 0) (ak H nx []) (nx + 1)):Abs.Fn Tryz.prog g args H nx R :=
 ⟨h.1,fun E w vs h1 h2 h3 h4=>(h.2 E w vs h1 h2 h3 h4).mono fun e w' ⟨v,E',r',H',nx',k1,k2,k3,k4,k5,k6,a,b⟩=>by
  have hr:Rel E' w' (.msl nx 0 1 0 0) v:=by
   rcases a with rfl | rfl
   ·cases k6 with
    | eslnil=>exact .msl0 _ _ _ (.inl rfl)
    | esl a=>exact .msl0 _ _ _ (.inr ⟨a,rfl⟩)
   ·exact k6
  rcases b with ⟨rfl,rfl⟩ | ⟨rfl,rfl⟩
  ·exact ⟨v,E',_,_,_,k1,k2,k3,k4.virtual (k5 _ (Nat.le_refl _)),fun b hb=>k5 b (by omega),hr,hR⟩
  ·exact ⟨v,E',_,_,_,k1,k2,k3,k4,k5,hr,hR⟩⟩
def ctE (q:FuncId→List AV→Option AV):CT:=⟨ctC,q⟩
theorem yM (g:FuncId) (args:List AV) (nx:Nat) (r:AV) (h:ctC g args nx=some r) (H:Hp) (R:AV→Hp→Nat→Prop) (hR:R r (ak H nx []) (nx + 1)):Abs.Fn Tryz.prog g args H nx R:=by
 unfold ctC at h
 split at h
 ·rename_i hg
  cases h
  rcases Bool.or_eq_true _ _ |>.mp hg with hg | hg
  ·cases Nat.eq_of_beq_eq_true hg
   exact xO (rY H nx) hR
  ·cases Nat.eq_of_beq_eq_true hg
   exact xO (rW H nx) hR
 ·cases h
theorem ie {q:FuncId→List AV→Option AV} (hq:∀ (g:FuncId) (args:List AV) (r:AV),q g args=some r→Go.Abs.Pure Tryz.prog g args r):CTok Tryz.prog (ctE q):=⟨yM,hq⟩
def AB:List (Nat × F2):=[(12,b12),(13,b13),(15,b15),(16,b16),(18,b18),(20,b20),(21,b21),(23,b23),(25,b25),(27,b27),(33,b33),(39,b39),(40,b40),(41,b41),(42,b42),(43,b43),(44,b44),(47,b47),(48,b48),(49,b49),(50,b50),(51,b51),(56,b56),(57,b57),(58,b58),(59,b59),(60,b60),(61,b61),(62,b62),(63,b63),(64,b64),(68,b68),(69,b69),(71,b71),(72,b72),(73,b73),(74,b74),(75,b75),(77,b77),(78,b78),(79,b79),(83,b83),(86,b86),(87,b87),(88,b88),(96,b96),(100,y9),(101,x6),(102,yU),(104,zo),(106,wG),(107,wZ),(108,wt),(109,ze),(110,yY),(111,Ae),(112,ww),(113,yT),(115,yb),(116,x9),(117,yK),(118,zT),(119,Ak),(120,zH),(121,Ap),(126,Al),(127,yJ),(130,w5),(131,z5),(132,Aq),(133,AQ),(134,Am),(135,zx),(136,zF),(137,zt),(138,zU),(139,Ar),(140,wA),(141,yB),(142,yD),(143,yq),(144,yk),(145,zs),(149,wH),(150,y7),(151,yg),(152,y8),(153,yw),(154,yj),(155,yS),(156,ym),(157,zP),(158,yu),(159,yX),(160,zQ),(161,AL),(162,yV),(163,zp),(165,y2),(166,yQ),(167,yE),(168,AK),(169,yd)]
theorem kM:iO Tryz.prog (lookup AB) :=
 (aa BD (aa zL (aa zY (aa BH (aa Bd (aa Bg (aa zZ (aa zh (aa Bf (aa Bu (aa Bp (aa Bm (aa Ac (aa AM (aa wV (aa AR (aa AC (aa Aw (aa BF (aa BB (aa Ba (aa BG (aa Bl (aa z6 (aa Bi (aa Bq (aa AS (aa zA (aa Bo (aa A6 (aa z8 (aa zu (aa Av (aa zw (aa zf (aa zc (aa Au (aa y1 (aa Bz (aa A5 (aa A8 (aa zd (aa Bk (aa A9 (aa Bh (aa Ai (aa xZ (aa xo (aa xk (aa Ag (aa vT (aa vO (aa uZ (aa Ab (aa xl (aa AN (aa u4 (aa xJ (aa x4 (aa xD (aa xu (aa Ao (aa AZ (aa A4 (aa AY (aa zE (aa xz (aa vF (aa zJ (aa A3 (aa zm (aa zR (aa AW (aa AH (aa zj (aa Ax (aa AO (aa uG (aa xR (aa xQ (aa xY (aa xy (aa A0 (aa vN (aa xK (aa xx (aa xM (aa xH (aa x5 (aa xA (aa xX (aa AU (aa xC (aa xU (aa AX (aa AA (aa xP (aa zG (aa x2 (aa x1 (aa xI (aa AE (aa xp tN)))))))))))))))))))))))))))))))))))))))))))))))))))))))))))))))))))))))))))))))))))))))))))))))))))))))
def eI (n:Int):AV:=.int .i64 n
def eV (a b:Int):AV:=.sl 1 [eI a,eI b]
def eC (a b:Int) (o:List AV):AV:=.agg [eV a b,.sl 1 o,.esl]
def eT (o:Int) (l:List AV):AV:=.agg [eI 2,eI 2,eI o,.sl 3 l]
def e4:List AV:=[eV 0 0,eV 0 1,eV 1 0,eV 1 1]
def e2:List AV:=[eV 0 0,eV 1 1]
def eP:List AV:=[eV 0 0,eV 1 1,eV 2 2,eV 3 3]
def tA:AV:=eT 2 [eC 0 0 [eV 0 0],eC 0 1 e2,eC 1 0 e2,eC 1 1 [eV 1 1]]
def tB:AV:=eT 2 [eC 0 0 e4,eC 0 1 e4,eC 1 0 e4,eC 1 1 e4]
def tP:AV:=eT 4 [eC 0 0 [eV 0 0],eC 0 1 eP,eC 1 0 eP,eC 1 1 [eV 3 3]]
def pfE:FuncId→Bool:=xB [39,13,16,18,21,25,23,33,87,77]
theorem isV {v:AV} (r:AV) (h:eqA 60 r v=true):r=v:=r7 _ _ _ h
set_option maxRecDepth 100000 in
theorem q1:Go.Abs.Pure Tryz.prog 39 [] (.tup [tA,tB]):=Pure.of_runC follows kM (ie fc) (pf:=pfE) (n:=2000) (by decide +kernel) isV
set_option maxRecDepth 100000 in
theorem q2:Go.Abs.Pure Tryz.prog 13 [tA,tB] (.tup [.esl,eI 0,.esl,.bool true,eI 0]):=Pure.of_runC follows kM (ie fc) (pf:=pfE) (n:=2000) (by decide +kernel) isV
set_option maxRecDepth 100000 in
theorem q3:Go.Abs.Pure Tryz.prog 13 [tB,tA] (.tup [eV 0 0,eI 0,eV 0 1,.bool false,eI 0]):=Pure.of_runC follows kM (ie fc) (pf:=pfE) (n:=2000) (by decide +kernel) isV
set_option maxRecDepth 100000 in
theorem q4:Go.Abs.Pure Tryz.prog 16 [tA,tB] (.tup [tA,eI 0]):=Pure.of_runC follows kM (ie fc) (pf:=pfE) (n:=2000) (by decide +kernel) isV
set_option maxRecDepth 100000 in
theorem q5:Go.Abs.Pure Tryz.prog 18 [tA,tB] (.tup [tB,eI 0]):=Pure.of_runC follows kM (ie fc) (pf:=pfE) (n:=2000) (by decide +kernel) isV
set_option maxRecDepth 100000 in
theorem q6:Go.Abs.Pure Tryz.prog 21 [tA,tA] (.tup [tP,eI 0]):=Pure.of_runC follows kM (ie fc) (pf:=pfE) (n:=2000) (by decide +kernel) isV
set_option maxRecDepth 100000 in
theorem q7:Go.Abs.Pure Tryz.prog 25 [tA] (.tup [.sl 1 [eV 0 1,eV 1 0],eI 0]):=Pure.of_runC follows kM (ie fc) (pf:=pfE) (n:=2000) (by decide +kernel) isV
set_option maxRecDepth 100000 in
theorem ws:Go.Abs.Pure Tryz.prog 12 [] (.bool true):=Pure.of_runC follows kM (ie (eR q1 (eR q2 (eR q3 (eR q4 (eR q5 (eR q6 (eR q7 fc)))))))) (pf:=pfE) (n:=2000) (good:=isTrue) (by decide +kernel) tw
end Go.Proofs.YtjgpfclngkcedaaGreat
namespace Go.Proofs.YtjgpfclngkcedaaGreat
open Go Go.Abs
open Nat (reduceEqDiff reduceAdd reduceLeDiff)
attribute [local irreducible] aw ac aP aK ay aA am aB aM aX Go.Abs.Fn aH Go.Abs.Pure ag ax Yl
end Go.Proofs.YtjgpfclngkcedaaGreat
namespace Go.Proofs.YtjgpfclngkcedaaGreat
open Go Go.Abs
def iQ (l:List TaskV):AV:=.sl 4 (l.map bn)
theorem qr {l:List TaskV}:b0 (iQ l)=some (.int .i64 l.length):=by simp [b0,iQ]
theorem mJ {l:List TaskV} {k:Nat} (h:k < l.length):fX 4 (iQ l) (.int .i64 k)=some (.iptr [.int .i64 (l.getD k default).n,.int .i64 (l.getD k default).ins,.int .i64 (l.getD k default).outs,aO (l.getD k default).cases] 0):=by
 simp [fX,iQ,h,List.getD,bn,AV.cells]
theorem lH {H:Hp} {b:Nat} {a c:TaskV} (hb:H b=some [.int .i64 a.n,.int .i64 a.ins,.int .i64 a.outs,aO a.cases,.int .i64 c.n,.int .i64 c.ins,.int .i64 c.outs,aO c.cases]):Snap H (.msl b 8 4 0 2) (iQ [a,c]):=by
 have hr:Row H 4 (.msl b (2 * 4) 4 0 2) ([bn a,bn c].flatMap AV.cells):=Row.box b 2 _ (by simpa [bn,AV.cells] using hb) rfl
 refine Row.snap (elems:=[bn a,bn c]) hr (fun y hy=>?_) (by omega) (fun y hy d hd=>?_)
 ·simp at hy; rcases hy with rfl | rfl <;> rfl
 ·simp only [List.mem_cons,List.not_mem_nil,or_false] at hy
  rcases hy with rfl | rfl <;>
  ·simp only [bn,AV.cells,List.mem_cons,List.not_mem_nil,or_false] at hd
   rcases hd with rfl | rfl | rfl | rfl
   ·exact .int
   ·exact .int
   ·exact .int
   ·exact b7 _
def Ok (t:TaskV):Prop:=Sh t.cases∧∀ c ∈ t.cases,ShC c
attribute [local irreducible] aw ac aP aK ay aA am aB aM aX Go.Abs.Fn aH Go.Abs.Pure ag ax Yl
end Go.Proofs.YtjgpfclngkcedaaGreat
namespace Go.Proofs.YtjgpfclngkcedaaGreat
open Go Go.Abs
def iT (z t:TaskV):Bool:=nH t && decide (aN t=0) && decide (t.n=z.n)
def mt (l:List TaskV):Bool:=l.all (iT (l.getD 0 default))
attribute [local irreducible] aw ac aP aK ay aA am aB aM aX Go.Abs.Fn aH Go.Abs.Pure ag ax Yl
theorem ui (l:List TaskV) (hl:l.length ≤ 100) (hs:∀ t ∈ l,Ok t):Pure Tryz.prog 28 [iQ l] (.bool (mt l)):=by
 refine Pure.of_c2 follows Bn (Nat.le_of_ble_eq_true rfl) ?_
 simp only [b28,cO,cG,cN,cM,cD,cF,cB,aq,aL]
 have one:(iQ l).one=true:=rfl
 (have zz:=@qr; repeat' (first | refine zW ?_ | apply a_n | refine zO ?_ | refine vY ?_ | fail)) <;> (try clear zz)
 refine br (X:=Nat) (fun k=>[(0,iQ l),(5,iQ l),(6,.int .i64 l.length),(7,.int .i64 k)]) (fun k H nx=>k ≤ l.length∧∀ i,i < k→iT (l.getD 0 default) (l.getD i default)=true) (fun k=>l.length - k) 0 ⟨Nat.zero_le _,fun i h=>absurd h (by omega)⟩ ag0 ?_
 rintro k H nx ⟨hk,hz⟩
 by_cases hk2:k < l.length
 rotate_left
 ·(have zz:=and_self; repeat' (first | refine zW ?_ | apply a_n | apply a_x | refine zO ?_ | refine vY ?_ | (refine zGY ?_ ?_ <;> (intro _hg; try (exfalso; omega))) | refine ae rfl ?_ | refine r1Y ?_ | fail)) <;> (try clear zz)
  rw [mt,lR fun i hi=>hz i (by omega)]
  exact .bool _
 have ix:=mJ hk2
 have i0:fX 4 (iQ l) (.int .i64 0)=_:=mJ (k:=0) (by omega)
 obtain ⟨s1,s2⟩:=hs _ (ah hk2)
 have hf:=BE (l.getD k default) s2 s1
 have hc:=vE (l.getD k default) s2 s1
 have hbad:iT (l.getD 0 default) (l.getD k default)=false→mt l=false:=fun h=>ij hk2 h
 have hnext:iT (l.getD 0 default) (l.getD k default)=true→∀ i,i < k + 1→iT (l.getD 0 default) (l.getD i default)=true:=fun h i hi=>by
  rcases Nat.lt_succ_iff_lt_or_eq.1 hi with h' | rfl
  ·exact hz i h'
  ·exact h
 have d1:=bK (l.getD k default)
 generalize l.getD k default=t at *
 generalize l.getD 0 default=z at *
 unfold bn at hf d1 hc
 cases hb:nH t
 ·rw [hb] at hf
  rw [hbad (by simp [iT,hb])]
  (have zz:=aI @ix (aI @af @ab); repeat' (first | refine zW ?_ | refine zM ?_ | apply a_n | apply a_r | refine zO ?_ | refine vY ?_ | refine cY ?_ (hp:=hf) | refine alY ?_ | refine stY ?_ | refine gFY ?_ | refine cTY ?_ | (refine zGY ?_ ?_ <;> (intro _hg; try (exfalso; omega))) | refine ae rfl ?_ | refine r1Y ?_ | fail)) <;> (try clear zz)
  exact .bool _
 rw [hb] at hf
 by_cases h0:aN t=0
 rotate_left
 ·have hne:decide (aN t ≠ 0)=true:=decide_eq_true h0
  rw [hbad (by simp [iT,h0])]
  (have zz:=aI @ix (aI @af (aI @ab @hne)); repeat' (first | refine zW ?_ | refine zM ?_ | apply a_n | apply a_r | refine zO ?_ | refine vY ?_ | refine cY ?_ (hp:=by first | exact hf | exact hc) | refine alY ?_ | refine stY ?_ | refine gTY ?_ | refine gFY ?_ | refine cTY ?_ | (refine zGY ?_ ?_ <;> (intro _hg; try (exfalso; omega))) | refine ae rfl ?_ | refine r1Y ?_ | fail)) <;> (try clear zz)
  exact .bool _
 rw [h0] at hc
 have z0:decide ((0:Int) ≠ 0)=false:=rfl
 by_cases h1:t.n=z.n
 rotate_left
 ·have hne:decide (t.n ≠ z.n)=true:=decide_eq_true h1
  rw [hbad (by simp [iT,h1])]
  (have zz:=aI @ix (aI @i0 (aI @af (aI @ab (aI @hne @z0)))); repeat' (first | refine zW ?_ | refine zM ?_ | apply a_n | apply a_r | refine zO ?_ | refine vY ?_ | refine cY ?_ (hp:=by first | exact hf | exact hc) | refine alY ?_ | refine stY ?_ | refine gTY ?_ | refine cTY ?_ | (refine zGY ?_ ?_ <;> (intro _hg; try (exfalso; omega))) | refine ae rfl ?_ | refine r1Y ?_ | fail)) <;> (try clear zz)
  exact .bool _
 have hne:decide (t.n ≠ z.n)=false:=decide_eq_false (fun h=>h h1)
 (have zz:=aI @ix (aI @i0 (aI @af (aI @ab (aI @hne @z0)))); repeat' (first | refine zW ?_ | refine zM ?_ | apply a_n | refine zO ?_ | refine vY ?_ | refine cY ?_ (hp:=by first | exact hf | exact hc) | refine alY ?_ | refine stY ?_ | refine gTY ?_ | refine cFY ?_ | (refine zGY ?_ ?_ <;> (intro _hg; try (exfalso; omega))) | fail)) <;> (try clear zz)
 exact ⟨k + 1,by omega,⟨by omega,hnext (by simp [iT,hb,h0,h1])⟩,ag0⟩
end Go.Proofs.YtjgpfclngkcedaaGreat
namespace Go.Proofs.YtjgpfclngkcedaaGreat
open Go Go.Abs
def Stg (a b:TaskV):Prop:=∀ c ∈ b.cases,∃ x,cV a c.inp=some x∧∀ f:Nat,f < 2 ^ a.n.toNat→∀ v ∈ ao x f,jK c f v=true
theorem yF {a b:TaskV} (h:Stg a b):oB a b=none:=by
 refine List.findSome?_eq_none_iff.2 fun c hc=>?_
 obtain ⟨x,hx,hv⟩:=h c hc
 unfold ju
 rw [hx]
 refine List.findSome?_eq_none_iff.2 fun f hf=>?_
 rw [Option.map_eq_none_iff,List.find?_eq_none]
 intro v hm
 rw [hv f (List.mem_range.1 hf) v hm]
 exact Bool.false_ne_true
theorem l5 {v w:List Int} {f:Int}:bV v w f=true ↔ ∀ p,p < v.length→qj (p8 f p)=0→w.getD p default=v.getD p default:=by
 unfold bV
 rw [List.all_eq_true]
 refine ⟨fun h p hp h0=>?_,fun h p hp=>?_⟩
 ·have:=h p (List.mem_range.2 hp)
  by_cases e:w.getD p default=v.getD p default
  ·exact e
  ·rw [decide_eq_true h0,decide_eq_true e] at this; cases this
 ·have:=h p (List.mem_range.1 hp)
  by_cases h0:qj (p8 f p)=0
  ·rw [decide_eq_true h0,decide_eq_false (fun k=>k (this h0))]; rfl
  ·rw [decide_eq_false h0]; rfl
theorem qo {c:CaseV} {f:Int} {v:List Int}:jK c f v=true ↔ ∃ w ∈ ao c f,bV w v f=true:=by
 unfold jK; rw [List.any_eq_true]
end Go.Proofs.YtjgpfclngkcedaaGreat
namespace Go.Proofs.YtjgpfclngkcedaaGreat
open Go Go.Abs
theorem ot {c:CaseV} {f:Int} (h:f ≠ 0):ao c f=c.out:=by unfold ao; rw [if_neg (fun k=>h k.1)]
theorem nZ {c:CaseV} {f:Int} (h:1 ≤ c.out.length):1 ≤ (ao c f).length:=by
 unfold ao
 split
 ·rename_i k; exact k.2
 ·exact h
theorem rf {n o:Int} {i:List Int} {X Y:List (List Int)} (h1:1 ≤ X.length∧X.length ≤ 1024) (h2:∀ v ∈ X,aV v n o=0) (h3:eF X) (h4:∀ v ∈ Y,v ∈ X) (h5:eF Y):bg n o (eX i X Y)=0:=by
 refine kQ h1 h2 (kE h3) (fun v hv=>?_) ?_
 ·change v ∈ (if X=Y then [] else Y) at hv
  split at hv
  ·exact absurd hv (by simp)
  ·exact h4 v hv
 ·show ∀ i,i < (if X=Y then [] else Y).length→bu (if X=Y then [] else Y) i=false
  split
  ·intro i hi; exact absurd hi (by simp)
  ·exact kE h5
theorem bH {t:TaskV} (h:aN t=0):(1 ≤ t.n∧t.n ≤ 5∧1 ≤ t.ins∧t.ins ≤ 8∧1 ≤ t.outs∧t.outs ≤ 8)∧1 ≤ t.cases.length∧t.cases.length ≤ 1024:=by
 obtain ⟨c1,c2,c3⟩:=d8 h
 exact ⟨by omega,by omega⟩
theorem pG {t:TaskV} (hp:1 ≤ t.n∧t.n ≤ 5∧1 ≤ t.ins∧t.ins ≤ 8∧1 ≤ t.outs∧t.outs ≤ 8) (hl:1 ≤ t.cases.length∧t.cases.length ≤ 1024) (hs:bv KC t.cases) (hi:t.cases.Pairwise fun c d=>c.inp ≠ d.inp) (hv:∀ c ∈ t.cases,aV c.inp t.n t.ins=0∧bg t.n t.outs c=0):aN t=0:=by
 unfold aN
 rw [if_neg (by omega),if_neg (by omega)]
 have hinps:∀ k,k < (t.cases.map CaseV.inp).length→bu (t.cases.map CaseV.inp) k=false:=by
  refine jB ?_ ?_
  ·unfold bv; rw [List.pairwise_map]; exact hs
  ·rw [List.nodup_iff_pairwise_ne,List.pairwise_map]; exact hi
 refine bG fun k hk=>?_
 have hm:=ah hk
 unfold dz
 rw [hinps k (by rw [List.length_map]; exact hk),(hv _ hm).1,if_neg (by simp),if_neg (by simp),(hv _ hm).2]
theorem pK {t:TaskV} (h:aN t=0):t.cases.Pairwise fun c d=>c.inp ≠ d.inp:=by
 rw [List.pairwise_iff_getElem]
 intro i j hi hj hij e
 have:=fY h j i hij hj
 rw [show t.cases.getD i default=t.cases[i] by simp [List.getD,hi],show t.cases.getD j default=t.cases[j] by simp [List.getD,hj],e,cT] at this
 omega
theorem fG {F:List (List Int)→List (List Int)→List (List Int)} {a b:TaskV} (hb:aN b=0) {x:CaseV}:x ∈ ce F b a.cases ↔ ∃ c ∈ a.cases,∃ d ∈ b.cases,c.inp=d.inp∧x=eX c.inp (F c.out d.out) (F (ao c 0) (ao d 0)):=by
 constructor
 ·intro h
  obtain ⟨c,hc,d,hd,e⟩:=tF h
  exact ⟨c,hc,d,(d4 hd).1,(d4 hd).2.symm,e⟩
 ·rintro ⟨c,hc,d,hd,e,rfl⟩
  refine List.mem_filterMap.2 ⟨c,hc,(m8 ?_).1⟩
  rw [e]; exact gw hb hd
theorem ig {F:List (List Int)→List (List Int)→List (List Int)} {b:TaskV} {c x:CaseV} (h:jJ F b c=some x):x.inp=c.inp:=by
 unfold jJ at h
 rw [Option.map_eq_some_iff] at h
 obtain ⟨d,hd,rfl⟩:=h
 rfl
theorem vU {F:List (List Int)→List (List Int)→List (List Int)} {a b:TaskV} (ha:aN a=0):(ce F b a.cases).Pairwise fun c d=>c.inp ≠ d.inp:=by
 unfold ce
 rw [List.pairwise_filterMap]
 exact (pK ha).imp fun {c d} h x hx y hy=>by rw [ig hx,ig hy]; exact h
theorem oJ {F:List (List Int)→List (List Int)→List (List Int)} {a b:TaskV} (ha:aN a=0):bv KC (ce F b a.cases):=by
 unfold ce bv
 rw [List.pairwise_filterMap]
 exact (jn ha).imp fun {c d} h x hx y hy=>by unfold KC at h ⊢; rw [ig hx,ig hy]; exact h
section
variable {a b:TaskV} (ha:aN a=0) (hb:aN b=0) (hn:b.n=a.n) (fa:Fit30 a) (fb:Fit30 b)
include ha hb
include hn fa fb
end
section
variable {a b:TaskV} (ha:aN a=0) (hb:aN b=0) (hn:b.n=a.n)
include ha hb
include hn
end
end Go.Proofs.YtjgpfclngkcedaaGreat
namespace Go.Proofs.YtjgpfclngkcedaaGreat
open Go Go.Abs
def jc (a b:TaskV):Bool:=eqF (fun c d=>decide (c.inp=d.inp)) a.cases b.cases
theorem u9 {a b:TaskV} (h:jc a b=true):∀ c ∈ a.cases,∃ d ∈ b.cases,c.inp=d.inp:=by
 unfold jc eqF at h
 rw [Bool.and_eq_true,decide_eq_true_iff,List.all_eq_true] at h
 intro c hc
 obtain ⟨i,hi,rfl⟩:=List.getElem_of_mem hc
 have:=h.2 i (List.mem_range.2 hi)
 rw [decide_eq_true_iff,show a.cases.getD i default=a.cases[i] by simp [List.getD,hi]] at this
 exact ⟨_,ah (by omega),this⟩
theorem vV {a b:TaskV} (h:jc a b=true):∀ d ∈ b.cases,∃ c ∈ a.cases,c.inp=d.inp:=by
 unfold jc eqF at h
 rw [Bool.and_eq_true,decide_eq_true_iff,List.all_eq_true] at h
 intro c hc
 obtain ⟨i,hi,rfl⟩:=List.getElem_of_mem hc
 have:=h.2 i (List.mem_range.2 (by omega))
 rw [decide_eq_true_iff,show b.cases.getD i default=b.cases[i] by simp [List.getD,hi]] at this
 exact ⟨_,ah (by omega),this⟩
theorem iq {a b:TaskV} (h:cR a b=0) (hs:Stg a b):pq (fe a b)=.tup [aF [],.int .i64 0,aF [],.bool true,.int .i64 0]:=by rw [jo h (yF hs)]; rfl
attribute [local irreducible] aw ac aP aK ay aA am aB aM aX Go.Abs.Fn aH Go.Abs.Pure ag ax Yl
theorem pj (c d:CaseV) (hc:ShC c) (hd:ShC d):Pure Tryz.prog 84 [.agg [aF c.inp,ar c.out,ar c.calm],.agg [aF d.inp,ar d.out,ar d.calm]] (.bool (decide (c.inp=d.inp))):=by
 refine Pure.of_c2 follows A7 (Nat.le_of_ble_eq_true rfl) ?_
 simp only [b84,cO,cG,cN,cM,cD,cF,cB,aq,aL]
 have h:=gA c.inp d.inp hc.1 hd.1
 (have zz:=and_self; repeat' (first | refine zW ?_ | apply a_n | refine zO ?_ | refine vZ ?_ | refine cZ ?_ (hp:=h) | refine bxZ ?_ | refine ae rfl ?_ | refine r1Z ?_ | fail)) <;> (try clear zz)
 exact .bool _
theorem qh (a b:TaskV) (ha:Ok a) (hb:Ok b):Pure Tryz.prog 30 [bn a,bn b] (.bool (jc a b)):=by
 refine Pure.of_c2 follows Bc (Nat.le_of_ble_eq_true rfl) ?_
 simp only [b30,cO,cG,cN,cM,cD,cF,cB,aq,aL]
 have h:=um a.cases b.cases (fun c d=>decide (c.inp=d.inp)) 84 [] (by simp) ha.1 hb.1 fun c hc d hd=>pj c d (ha.2 c hc) (hb.2 d hd)
 rw [show eqF (fun c d=>decide (c.inp=d.inp)) a.cases b.cases=jc a b from rfl] at h
 rw [show bn a=.agg [.int .i64 a.n,.int .i64 a.ins,.int .i64 a.outs,aO a.cases] from rfl,show bn b=.agg [.int .i64 b.n,.int .i64 b.ins,.int .i64 b.outs,aO b.cases] from rfl]
 (have zz:=aI @af @ab; repeat' (first | refine zW ?_ | apply a_n | refine zO ?_ | refine vZ ?_ | refine cZ ?_ (hp:=h) (hs:=by (first | refine an ?_ rfl | apply aC); (repeat' (first | exact ai | apply aS | apply aE | exact b7 _ | exact Dat.func (by simp))); first | done | fail) | refine bxZ ?_ | refine ae rfl ?_ | refine r1Z ?_ | fail)) <;> (try clear zz)
 exact .bool _
end Go.Proofs.YtjgpfclngkcedaaGreat
namespace Go.Proofs.YtjgpfclngkcedaaGreat
open Go Go.Abs
def pT (a b:TaskV):TaskV:=⟨a.n,min a.ins b.ins,a.outs * b.outs,ce (bE b.outs) b a.cases⟩
def dA (m n:Int) (k:Nat):List Int:=(List.range k).map fun (v:Nat)=>(v:Int) / m
def fA (m:Int) (k:Nat):List Int:=(List.range k).map fun (v:Nat)=>(v:Int) % m
theorem dB {m:Int} {x y:List (List Int)} {u:List Int}:u ∈ bE m x y ↔ ∃ v ∈ x,∃ w ∈ y,bj m v w=u:=by
 unfold bE; rw [ia,i7]
theorem tM {m:Int} {x y:List (List Int)} (hx:1 ≤ x.length) (hy:1 ≤ y.length):1 ≤ (bE m x y).length :=
 List.length_pos_of_mem (dB.2 ⟨_,ah (k:=0) (by omega),_,ah (k:=0) (by omega),rfl⟩)
theorem qZ {v w m o:Int} (h1:0 ≤ v) (h2:v < o) (h3:0 ≤ w) (h4:w < m):0 ≤ v * m + w∧v * m + w < o * m:=by
 have hm:0 ≤ m:=by omega
 have h5:0 ≤ v * m:=Int.mul_nonneg h1 hm
 have h6:(v + 1) * m ≤ o * m:=Int.mul_le_mul_of_nonneg_right (by omega) hm
 rw [Int.add_mul,Int.one_mul] at h6
 omega
theorem uU {n:Int} {v w:List Int} {m o:Int} (hv:(v.length:Int)=n∧∀ z ∈ v,0 ≤ z∧z < o) (hw:(w.length:Int)=n∧∀ z ∈ w,0 ≤ z∧z < m):((bj m v w).length:Int)=n∧∀ z ∈ bj m v w,0 ≤ z∧z < o * m:=by
 refine ⟨by rw [ff]; exact hv.1,fun z hz=>?_⟩
 unfold bj at hz
 obtain ⟨p,hp,rfl⟩:=List.mem_map.1 hz
 rw [List.mem_range] at hp
 have h1:=hv.2 _ (ah hp)
 have h2:=hw.2 _ (ah (l:=w) (k:=p) (by omega))
 exact qZ h1.1 h1.2 h2.1 h2.2
theorem rb {f:Int→Int} {to v w:List Int} {m o:Int} (hv:∀ z ∈ v,0 ≤ z∧z < o) (hw:∀ z ∈ w,0 ≤ z∧z < m) (hl:v.length=w.length) (hto:∀ k:Nat,(k:Int) < o * m→to.getD k default=f k):dg to (bj m v w)=(List.range v.length).map fun p=>f (v.getD p default * m + w.getD p default):=by
 unfold dg bj
 rw [List.map_map]
 refine List.map_congr_left fun p hp=>?_
 rw [List.mem_range] at hp
 have h1:=hv _ (ah hp)
 have h2:=hw _ (ah (l:=w) (k:=p) (by omega))
 obtain ⟨h3,h4⟩:=qZ h1.1 h1.2 h2.1 h2.2
 show to.getD (v.getD p default * m + w.getD p default).toNat default=_
 rw [hto _ (by omega),Int.toNat_of_nonneg h3]
theorem qp (v:List Int):((List.range v.length).map fun p=>v.getD p default)=v:=by
 refine List.ext_getElem (by simp) fun i h1 h2=>?_
 simp [List.getD,h2]
theorem uL {m n:Int} {K k:Nat} (h:k < K):(dA m n K).getD k default=(k:Int) / m:=by simp [dA,List.getD,h]
theorem wY {m:Int} {K k:Nat} (h:k < K):(fA m K).getD k default=(k:Int) % m:=by simp [fA,List.getD,h]
section
variable {v w:List Int} {m o:Int} (hv:∀ z ∈ v,0 ≤ z∧z < o) (hw:∀ z ∈ w,0 ≤ z∧z < m) (hl:v.length=w.length)
include hv hw hl
theorem qV {n:Int}:dg (dA m n (o * m).toNat) (bj m v w)=v:=by
 rw [rb (f:=fun k=>k / m) hv hw hl (fun k hk=>uL (by omega))]
 conv=>rhs; rw [← qp v]
 refine List.map_congr_left fun p hp=>?_
 rw [List.mem_range] at hp
 have h2:=hw _ (ah (l:=w) (k:=p) (by omega))
 rw [Int.add_comm,Int.add_mul_ediv_right _ _ (by omega),Int.ediv_eq_zero_of_lt h2.1 h2.2,Int.zero_add]
theorem oA:dg (fA m (o * m).toNat) (bj m v w)=w:=by
 rw [rb (f:=fun k=>k % m) hv hw hl (fun k hk=>wY (by omega))]
 rw [hl]
 conv=>rhs; rw [← qp w]
 refine List.map_congr_left fun p hp=>?_
 rw [List.mem_range] at hp
 have h2:=hw _ (ah (l:=w) (k:=p) (by omega))
 rw [Int.add_comm,Int.add_mul_emod_self_right,Int.emod_eq_of_lt h2.1 h2.2]
end
def Vec (n o:Int) (v:List Int):Prop:=(v.length:Int)=n∧∀ z ∈ v,0 ≤ z∧z < o
theorem qE {n o m k:Int} {X Y:List (List Int)} (hX:eF X) (hx:∀ v ∈ X,Vec n o v) (hy:∀ v ∈ Y,Vec n m v) (h1:1 ≤ Y.length):gq ((bE m X Y).map (dg (dA m k (o * m).toNat)))=X:=by
 refine mM (gY _) hX fun v=>?_
 rw [ia,List.mem_map]
 constructor
 ·rintro ⟨u,hu,rfl⟩
  obtain ⟨v,hv,w,hw,rfl⟩:=dB.1 hu
  rw [qV (hx v hv).2 (hy w hw).2 (by have:=(hx v hv).1; have:=(hy w hw).1; omega)]
  exact hv
 ·intro hv
  have hw:Y.getD 0 default ∈ Y:=ah (by omega)
  exact ⟨_,dB.2 ⟨v,hv,_,hw,rfl⟩,qV (hx v hv).2 (hy _ hw).2 (by have:=(hx v hv).1; have:=(hy _ hw).1; omega)⟩
theorem oh {n o m:Int} {X Y:List (List Int)} (hY:eF Y) (hx:∀ v ∈ X,Vec n o v) (hy:∀ v ∈ Y,Vec n m v) (h1:1 ≤ X.length):gq ((bE m X Y).map (dg (fA m (o * m).toNat)))=Y:=by
 refine mM (gY _) hY fun v=>?_
 rw [ia,List.mem_map]
 constructor
 ·rintro ⟨u,hu,rfl⟩
  obtain ⟨v,hv,w,hw,rfl⟩:=dB.1 hu
  rw [oA (hx v hv).2 (hy w hw).2 (by have:=(hx v hv).1; have:=(hy w hw).1; omega)]
  exact hw
 ·intro hv
  have hw:X.getD 0 default ∈ X:=ah (by omega)
  exact ⟨_,dB.2 ⟨_,hw,v,hv,rfl⟩,oA (hx _ hw).2 (hy v hv).2 (by have:=(hx _ hw).1; have:=(hy v hv).1; omega)⟩
section
variable {a b:TaskV} (ha:aN a=0) (hb:aN b=0) (hn:b.n=a.n) (fa:Fit30 a) (fb:Fit30 b) (ho:a.outs * b.outs ≤ 8)
include ha
theorem av {c:CaseV} (hc:c ∈ a.cases) (f:Int):∀ v ∈ ao c f,Vec a.n a.outs v:=(cX ha hc).2 f
theorem a1 {c:CaseV} (hc:c ∈ a.cases) (f:Int):1 ≤ (ao c f).length:=nZ (bo (bQ ha hc).2).1.1
include hb hn fa fb ho
omit ho in
theorem yz:Fit30 ⟨a.n,a.ins,a.outs,[]⟩∧Fit (pT a b):=by
 have _:=hn
 refine ⟨⟨fun c hc=>(by cases hc),by simp,fun c hc=>(by cases hc)⟩,⟨fun x hx=>?_,show (ce (bE b.outs) b a.cases).length ≤ _ from Nat.le_trans fK (by have:=fa.len; omega),fun x hx=>?_⟩⟩
 ·obtain ⟨c,hc,d,hd,e,rfl⟩:=(fG hb).1 hx
  have h1:=fa.sh c hc
  have h2:=fa.q c hc
  have h3:=fb.q d hd
  have nn:=gD ha
  obtain ⟨v1,v2⟩:=cX ha hc
  have l1:=c7 (m:=b.outs) h2.1 h3.1
  have l2:=c7 (m:=b.outs) (eG (f:=0) h2) (eG (f:=0) h3)
  exact vw h1.1 (by omega) (jF fun v hv=>by have:=(v1 v hv).1; omega) (by omega) (jF fun v hv=>by have:=(v2 0 v hv).1; omega)
 ·obtain ⟨c,hc,d,hd,e,rfl⟩:=(fG hb).1 hx
  have h2:=fa.q c hc
  have h3:=fb.q d hd
  have l1:=c7 (m:=b.outs) h2.1 h3.1
  have l2:=c7 (m:=b.outs) (eG (f:=0) h2) (eG (f:=0) h3)
  refine ⟨show (bE b.outs c.out d.out).length ≤ _ by omega,?_⟩
  unfold eX
  dsimp only
  split
  ·simp
  ·omega
theorem mV (hs:∀ c ∈ a.cases,∃ d ∈ b.cases,c.inp=d.inp):aN (pT a b)=0∧k9 a b=(pT a b,0):=by
 obtain ⟨pa,la⟩:=bH ha
 obtain ⟨pb,lb⟩:=bH hb
 have hl:=fK (F:=bE b.outs) (b:=b) (l:=a.cases)
 have hpos:1 ≤ (ce (bE b.outs) b a.cases).length:=by
  have hc:a.cases.getD 0 default ∈ a.cases:=ah (by omega)
  obtain ⟨d,hd,e⟩:=hs _ hc
  exact List.length_pos_of_mem ((fG hb).2 ⟨_,hc,d,hd,e,rfl⟩)
 constructor
 ·refine pG ?_ ⟨hpos,by show (ce (bE b.outs) b a.cases).length ≤ _; omega⟩ (oJ ha) (vU ha) fun x hx=>?_
  ·have:=hJ (x:=a.outs) (y:=b.outs) (by omega) (by omega)
   show 1 ≤ a.n∧a.n ≤ 5∧1 ≤ min a.ins b.ins∧min a.ins b.ins ≤ 8∧1 ≤ a.outs * b.outs∧a.outs * b.outs ≤ 8
   omega
  ·obtain ⟨c,hc,d,hd,e,rfl⟩:=(fG hb).1 hx
   obtain ⟨v1,w1⟩:=bQ ha hc
   obtain ⟨v2,w2⟩:=bQ hb hd
   obtain ⟨p1,p2,p3,p4,p5⟩:=bo w1
   obtain ⟨q1,q2,q3,q4,q5⟩:=bo w2
   have b1:=eb ha hc
   have b2:=eb hb hd
   have k1:=fa.q c hc
   have k2:=fb.q d hd
   have l1:=c7 (m:=b.outs) k1.1 k2.1
   show aV c.inp a.n (min a.ins b.ins)=0∧bg a.n (a.outs * b.outs) _=0
   refine ⟨?_,rf ⟨tM p1.1 q1.1,by omega⟩ (fun u hu=>?_) (gY _) (fun u hu=>?_) (gY _)⟩
   ·obtain ⟨g1,g2⟩:=eO v1
    obtain ⟨g3,g4⟩:=eO (e ▸ v2:aV c.inp b.n b.ins=0)
    exact ng g1 fun x hx=>by have:=g2 x hx; have:=g4 x hx; omega
   ·obtain ⟨v,hv,w,hw,rfl⟩:=dB.1 hu
    have h1:=eO (p2 v hv)
    have h2:=eO (q2 w hw)
    rw [hn] at h2
    have h3:=uU h1 h2
    exact ng h3.1 h3.2
   ·obtain ⟨v,hv,w,hw,rfl⟩:=dB.1 hu
    exact dB.2 ⟨v,b1.2.2.2 0 v hv,w,b2.2.2.2 0 w hw,rfl⟩
 ·have hp:cR a b=0:=by simp [cR,ha,hb,hn]
  unfold k9
  rw [if_neg (fun k=>k hp),if_neg (by omega),if_neg (by omega)]
  rfl
end
structure Part (a b t:TaskV) (to:List Int) (S:CaseV→CaseV→CaseV):Prop where
 n:t.n=a.n
 len:(to.length:Int)=a.outs * b.outs
 rng:∀ v ∈ to,0 ≤ v∧v < t.outs
 mem:∀ c ∈ a.cases,∀ d ∈ b.cases,c.inp=d.inp→S c d ∈ t.cases∧(S c d).inp=c.inp
 all:∀ e ∈ t.cases,∃ c ∈ a.cases,∃ d ∈ b.cases,c.inp=d.inp∧S c d=e
 out:∀ c ∈ a.cases,∀ d ∈ b.cases,c.inp=d.inp→gq ((bE b.outs c.out d.out).map (dg to))=(S c d).out
 calm:∀ c ∈ a.cases,∀ d ∈ b.cases,c.inp=d.inp→gq ((bE b.outs (ao c 0) (ao d 0)).map (dg to))=ao (S c d) 0
section
variable {a b t:TaskV} {to:List Int} {S:CaseV→CaseV→CaseV} (ha:aN a=0) (hb:aN b=0) (ht:aN t=0) (hn:b.n=a.n) (fa:Fit30 a) (fb:Fit30 b) (ft:Fit30 t) (ho:a.outs * b.outs ≤ 8) (hs:∀ c ∈ a.cases,∃ d ∈ b.cases,c.inp=d.inp) (P:Part a b t to S)
def lh (to:List Int) (b c d:CaseV) (m:Int):CaseV:=kH to (eX c.inp (bE m c.out d.out) (bE m (ao c 0) (ao d 0)))
include P
theorem io {c d:CaseV} (hc:c ∈ a.cases) (hd:d ∈ b.cases) (e:c.inp=d.inp):(lh to c c d b.outs).inp=c.inp∧(lh to c c d b.outs).out=(S c d).out∧((lh to c c d b.outs).calm=ao (S c d) 0 ∨ (lh to c c d b.outs).calm=[]∧(S c d).out=ao (S c d) 0):=by
 refine ⟨rfl,P.out c hc d hd e,?_⟩
 show gq ((if bE b.outs c.out d.out=bE b.outs (ao c 0) (ao d 0) then [] else bE b.outs (ao c 0) (ao d 0)).map (dg to))=_ ∨ gq ((if bE b.outs c.out d.out=bE b.outs (ao c 0) (ao d 0) then [] else bE b.outs (ao c 0) (ao d 0)).map (dg to))=[]∧_
 split
 ·rename_i h
  refine .inr ⟨rfl,?_⟩
  rw [← P.out c hc d hd e,← P.calm c hc d hd e,h]
 ·exact .inl (P.calm c hc d hd e)
include ht
theorem mE {c d:CaseV} (hc:c ∈ a.cases) (hd:d ∈ b.cases) (e:c.inp=d.inp) (f:Int):ao (lh to c c d b.outs) f=ao (S c d) f:=by
 obtain ⟨-,h2,h3⟩:=io P hc hd e
 have hpos:=nZ (f:=0) (bo (bQ ht (P.mem c hc d hd e).1).2).1.1
 by_cases h0:f=0
 ·subst h0
  rcases h3 with h3 | ⟨h3,h4⟩
  ·rw [← h3] at hpos ⊢
   unfold ao
   rw [if_pos ⟨rfl,hpos⟩]
  ·rw [← h4,← h2]
   unfold ao
   rw [h3,if_neg (by simp)]
 ·rw [ot h0,ot h0,h2]
include ha hb hs
theorem jr {x:CaseV}:x ∈ (j5 (pT a b) t.outs to).cases ↔ ∃ c ∈ a.cases,∃ d ∈ b.cases,c.inp=d.inp∧x=lh to c c d b.outs:=by
 have _:=ha
 have _:=ht
 have _:=hs
 have _:=P
 show x ∈ (ce (bE b.outs) b a.cases).map (kH to) ↔ _
 rw [List.mem_map]
 constructor
 ·rintro ⟨y,hy,rfl⟩
  obtain ⟨c,hc,d,hd,e,rfl⟩:=(fG hb).1 hy
  exact ⟨c,hc,d,hd,e,rfl⟩
 ·rintro ⟨c,hc,d,hd,e,rfl⟩
  exact ⟨_,(fG hb).2 ⟨c,hc,d,hd,e,rfl⟩,rfl⟩
include hn fa fb ho ft
theorem uP:gZ (pT a b) t.outs to=(j5 (pT a b) t.outs to,0):=by
 have _:=ft
 have hc:=(mV ha hb hn fa fb ho hs).1
 obtain ⟨p,l⟩:=bH ht
 unfold gZ
 rw [if_neg (fun k=>k hc),if_neg (by omega),if_neg (fun k=>k P.len),if_neg]
 rw [List.any_eq_true]
 rintro ⟨v,hv,h⟩
 have:=of_decide_eq_true h
 have:=P.rng v hv
 omega
theorem sj:Fit (j5 (pT a b) t.outs to):=by
 have _:=hn
 have _:=fb
 have _:=ho
 refine ⟨fun x hx=>?_,?_,fun x hx=>?_⟩
 ·obtain ⟨c,hc,d,hd,e,rfl⟩:=(jr ha hb ht hs P).1 hx
  obtain ⟨h1,h2,h3⟩:=io P hc hd e
  have hm:=(P.mem c hc d hd e).1
  have h4:=ft.sh _ hm
  have h5:=ft.fit.qa hm (f:=0)
  refine ⟨h1 ▸ (fa.sh c hc).1,h2 ▸ h4.2.1,h2 ▸ h4.2.2.1,?_⟩
  rcases h3 with h3 | ⟨h3,_⟩
  ·rw [h3]; exact ⟨show _ ≤ _ by omega,h5.2⟩
  ·rw [h3]; exact ⟨Nat.zero_le _,fun v hv=>(by cases hv)⟩
 ·show ((ce (bE b.outs) b a.cases).map (kH to)).length ≤ _
  rw [List.length_map]
  exact Nat.le_trans fK (by have:=fa.len; omega)
 ·obtain ⟨c,hc,d,hd,e,rfl⟩:=(jr ha hb ht hs P).1 hx
  obtain ⟨h1,h2,h3⟩:=io P hc hd e
  have hm:=(P.mem c hc d hd e).1
  have h4:=ft.fit.q _ hm
  have h5:=ft.fit.qa hm (f:=0)
  refine ⟨h2 ▸ h4.1,?_⟩
  rcases h3 with h3 | ⟨h3,_⟩
  ·rw [h3]; exact h5.1
  ·rw [h3]; simp
theorem kd:aN (j5 (pT a b) t.outs to)=0:=by
 have _:=ft
 have hc:=(mV ha hb hn fa fb ho hs).1
 obtain ⟨p1,l1⟩:=bH hc
 obtain ⟨p2,l2⟩:=bH ht
 have hl:(j5 (pT a b) t.outs to).cases.length=(pT a b).cases.length:=List.length_map ..
 refine pG ?_ (by omega) ?_ ?_ fun x hx=>?_
 ·show 1 ≤ (pT a b).n∧(pT a b).n ≤ 5∧1 ≤ (pT a b).ins∧(pT a b).ins ≤ 8∧1 ≤ t.outs∧t.outs ≤ 8
  omega
 ·show bv KC ((pT a b).cases.map (kH to))
  unfold bv
  rw [List.pairwise_map]
  exact jn hc
 ·show ((pT a b).cases.map (kH to)).Pairwise _
  rw [List.pairwise_map]
  exact pK hc
 ·have hx0:=hx
  obtain ⟨y,hy,ey⟩:∃ y ∈ (pT a b).cases,kH to y=x:=List.mem_map.1 hx
  obtain ⟨c,hc',d,hd,e,rfl⟩:=(jr ha hb ht hs P).1 hx
  obtain ⟨h1,h2,h3⟩:=io P hc' hd e
  have hm:=(P.mem c hc' d hd e).1
  obtain ⟨v1,w1⟩:=bQ ht hm
  obtain ⟨q1,q2,q3,q4,q5⟩:=bo w1
  have b1:=eb ht hm
  show aV (lh to c c d b.outs).inp (pT a b).n (pT a b).ins=0∧bg a.n t.outs _=0
  refine ⟨by rw [← ey]; exact (bQ hc hy).1,kQ (h2 ▸ q1) (h2 ▸ P.n ▸ q2) (h2 ▸ q3) (fun v hv=>?_) ?_⟩
  ·rw [h2]
   rcases h3 with h3 | ⟨h3,_⟩
   ·rw [h3] at hv; exact b1.2.2.2 0 v hv
   ·rw [h3] at hv; exact absurd hv (by simp)
  ·rcases h3 with h3 | ⟨h3,_⟩
   ·rw [h3]; exact kE (b1.2.2.1 0)
   ·rw [h3]; intro i hi; exact absurd hi (by simp)
theorem re:Stg (j5 (pT a b) t.outs to) t:=by
 intro y hy
 obtain ⟨c,hc,d,hd,e,rfl⟩:=P.all y hy
 have hm:lh to c c d b.outs ∈ (j5 (pT a b) t.outs to).cases:=(jr ha hb ht hs P).2 ⟨c,hc,d,hd,e,rfl⟩
 have hf:=gw (kd ha hb ht hn fa fb ft ho hs P) hm
 rw [(P.mem c hc d hd e).2]
 refine ⟨_,hf,fun f _ v hv=>qo.2 ⟨v,?_,l5.2 fun _ _ _=>rfl⟩⟩
 rw [mE ht P hc hd e] at hv
 exact hv
theorem qQ:Stg t (j5 (pT a b) t.outs to):=by
 have _:=hn
 have _:=fa
 have _:=fb
 have _:=ft
 have _:=ho
 intro y hy
 obtain ⟨c,hc,d,hd,e,rfl⟩:=(jr ha hb ht hs P).1 hy
 obtain ⟨m1,m2⟩:=P.mem c hc d hd e
 refine ⟨S c d,by show cV t c.inp=_; rw [← m2]; exact gw ht m1,fun f _ v hv=>qo.2 ⟨v,?_,l5.2 fun _ _ _=>rfl⟩⟩
 rw [mE ht P hc hd e]
 exact hv
end
section
variable {a b:TaskV} (ha:aN a=0) (hb:aN b=0) (hn:b.n=a.n) (hs:∀ c ∈ a.cases,∃ d ∈ b.cases,c.inp=d.inp) (hs2:∀ d ∈ b.cases,∃ c ∈ a.cases,c.inp=d.inp)
include ha hb hn hs
theorem s0:Part a b a (dA b.outs 0 (a.outs * b.outs).toNat) fun c _=>c:=by
 obtain ⟨p1,-⟩:=bH ha
 obtain ⟨p2,-⟩:=bH hb
 have hm:=hJ (x:=a.outs) (y:=b.outs) (by omega) (by omega)
 refine ⟨rfl,?_,fun v hv=>?_,fun c hc d hd e=>⟨hc,rfl⟩,fun e he=>?_,fun c hc d hd e=>?_,fun c hc d hd e=>?_⟩
 ·unfold dA; rw [List.length_map,List.length_range]; omega
 ·unfold dA at hv
  obtain ⟨k,hk,rfl⟩:=List.mem_map.1 hv
  rw [List.mem_range] at hk
  refine ⟨Int.ediv_nonneg (by omega) (by omega),Int.ediv_lt_of_lt_mul (by omega) (by omega)⟩
 ·obtain ⟨d,hd,h⟩:=hs e he
  exact ⟨e,he,d,hd,h,rfl⟩
 ·have w:=bo (bQ hb hd).2
  exact qE (n:=a.n) (eb ha hc).1 (fun v hv=>(cX ha hc).1 v hv) (fun v hv=>hn ▸ (cX hb hd).1 v hv) w.1.1
 ·exact qE (n:=a.n) ((eb ha hc).2.2.1 0) (av ha hc 0) (fun v hv=>hn ▸ av hb hd 0 v hv) (a1 hb hd 0)
include hs2
omit hs in
theorem rG:Part a b b (fA b.outs (a.outs * b.outs).toNat) fun _ d=>d:=by
 obtain ⟨p1,-⟩:=bH ha
 obtain ⟨p2,-⟩:=bH hb
 have hm:=hJ (x:=a.outs) (y:=b.outs) (by omega) (by omega)
 refine ⟨hn,?_,fun v hv=>?_,fun c hc d hd e=>⟨hd,e.symm⟩,fun e he=>?_,fun c hc d hd e=>?_,fun c hc d hd e=>?_⟩
 ·unfold fA; rw [List.length_map,List.length_range]; omega
 ·unfold fA at hv
  obtain ⟨k,hk,rfl⟩:=List.mem_map.1 hv
  exact ⟨Int.emod_nonneg _ (by omega),Int.emod_lt_of_pos _ (by omega)⟩
 ·obtain ⟨c,hc,h⟩:=hs2 e he
  exact ⟨c,hc,e,he,h,rfl⟩
 ·have w:=bo (bQ ha hc).2
  exact oh (n:=a.n) (eb hb hd).1 (fun v hv=>(cX ha hc).1 v hv) (fun v hv=>hn ▸ (cX hb hd).1 v hv) w.1.1
 ·exact oh (n:=a.n) ((eb hb hd).2.2.1 0) (av ha hc 0) (fun v hv=>hn ▸ av hb hd 0 v hv) (a1 ha hc 0)
end
end Go.Proofs.YtjgpfclngkcedaaGreat
namespace Go.Proofs.YtjgpfclngkcedaaGreat
open Go Go.Abs
theorem uv {m n:Int} {k:Nat}:dA m n (k + 1)=dA m n k ++ [(k:Int) / m]:=by unfold dA; rw [List.range_succ,List.map_append]; rfl
theorem vB {m:Int} {k:Nat}:fA m (k + 1)=fA m k ++ [(k:Int) % m]:=by unfold fA; rw [List.range_succ,List.map_append]; rfl
theorem qx {m n:Int} {k:Nat}:(dA m n k).length=k:=by simp [dA]
theorem sg {m:Int} {k:Nat}:(fA m k).length=k:=by simp [fA]
theorem Fit.ok {t:TaskV} (h:Fit t):Ok t:=⟨h.sh2,h.sh⟩
attribute [local irreducible] aw ac aP aK ay aA am aB aM aX Go.Abs.Fn aH Go.Abs.Pure ag ax Yl
set_option maxHeartbeats 4000000 in
theorem oT (a b:TaskV) (ha:Ok a) (hb:Ok b):Pure Tryz.prog 8 [bn a,bn b] (.bool true):=by
 refine Pure.of_c2 follows is8 (Nat.le_of_ble_eq_true rfl) ?_
 simp only [b8,cO,cG,cN,cM,cD,cF,cB,aq,aL]
 have haw:=ws
 have hr:=ui [a,b] (by simp) (by simp; exact ⟨ha,hb⟩)
 have d1:=bK a
 have d2:=bK b
 cases hR:mt [a,b]
 ·rw [hR] at hr
  unfold bn at d1 d2
  rw [show bn a=.agg [.int .i64 a.n,.int .i64 a.ins,.int .i64 a.outs,aO a.cases] from rfl,show bn b=.agg [.int .i64 b.n,.int .i64 b.ins,.int .i64 b.outs,aO b.cases] from rfl]
  (have zz:=aI @af @ab; repeat' (first | refine zW ?_ | apply a_n | refine zO ?_ | refine vZ ?_ | refine bxZ ?_ | refine blZ ?_ | fail)) <;> (try clear zz)
  refine da ev0 ev0 hr (an (aj (lH au) ai) rfl) ?_
  (have zz:=aI @af @ab; repeat' (first | refine zW ?_ | apply a_n | apply a_r | refine zO ?_ | refine vZ ?_ | refine cZ ?_ (hp:=haw) | refine gFZ ?_ | refine cTZ ?_ | refine ae rfl ?_ | refine r1Z ?_ | fail)) <;> (try clear zz)
  exact .bool _
 rw [hR] at hr
 obtain ⟨⟨fwa,ca⟩,⟨fwb,cb⟩,nb⟩:(nH a=true∧aN a=0)∧(nH b=true∧aN b=0)∧b.n=a.n:=by simpa [mt,iT] using hR
 have fa:=Fit30.of fwa
 have fb:=Fit30.of fwb
 have cs:=qh a b ha hb
 obtain ⟨p1,-⟩:=bH ca
 obtain ⟨p2,-⟩:=bH cb
 have hab:=hJ (x:=a.outs) (y:=b.outs) (by omega) (by omega)
 cases hsc:jc a b
 ·rw [hsc] at cs
  unfold bn at d1 d2 cs
  rw [show bn a=.agg [.int .i64 a.n,.int .i64 a.ins,.int .i64 a.outs,aO a.cases] from rfl,show bn b=.agg [.int .i64 b.n,.int .i64 b.ins,.int .i64 b.outs,aO b.cases] from rfl]
  (have zz:=aI @af @ab; repeat' (first | refine zW ?_ | apply a_n | refine zO ?_ | refine vZ ?_ | refine bxZ ?_ | refine blZ ?_ | fail)) <;> (try clear zz)
  refine da ev0 ev0 hr (an (aj (lH au) ai) rfl) ?_
  (have zz:=aI @af @ab; repeat' (first | refine zW ?_ | apply a_n | apply a_r | refine zO ?_ | refine vZ ?_ | refine cZ ?_ (hp:=by first | exact haw | exact cs) | refine gTZ ?_ | refine gFZ ?_ | refine cTZ ?_ | refine ae rfl ?_ | refine r1Z ?_ | fail)) <;> (try clear zz)
  exact .bool _
 rw [hsc] at cs
 by_cases h8:8 < a.outs * b.outs
 ·have z:decide (8 < a.outs * b.outs)=true:=decide_eq_true h8
  unfold bn at d1 d2 cs
  rw [show bn a=.agg [.int .i64 a.n,.int .i64 a.ins,.int .i64 a.outs,aO a.cases] from rfl,show bn b=.agg [.int .i64 b.n,.int .i64 b.ins,.int .i64 b.outs,aO b.cases] from rfl]
  (have zz:=aI @af @ab; repeat' (first | refine zW ?_ | apply a_n | refine zO ?_ | refine vZ ?_ | refine bxZ ?_ | refine blZ ?_ | fail)) <;> (try clear zz)
  refine da ev0 ev0 hr (an (aj (lH au) ai) rfl) ?_
  (have zz:=aI @af (aI @ab @z); repeat' (first | refine zW ?_ | apply a_n | apply a_r | refine zO ?_ | refine vZ ?_ | refine cZ ?_ (hp:=by first | exact haw | exact cs) | refine gTZ ?_ | refine cTZ ?_ | refine ae rfl ?_ | refine r1Z ?_ | fail)) <;> (try clear zz)
  exact .bool _
 have z:decide (8 < a.outs * b.outs)=false:=decide_eq_false h8
 have ho:a.outs * b.outs ≤ 8:=by omega
 have hs:=u9 hsc
 have hs2:=vV hsc
 have c1:=tO a b fa fb
 obtain ⟨cp,ep⟩:=mV ca cb nb fa fb ho hs
 have fp:=(yz ca cb nb fa fb).2
 rw [ep] at c1
 have kp:=vE (pT a b) fp.sh fp.sh2
 rw [cp] at kp
 have PL:=s0 ca cb nb hs
 have PR:=rG ca cb nb hs2
 have hKL:(dA b.outs 0 (a.outs * b.outs).toNat).length ≤ 1000:=by rw [qx]; omega
 have hKR:(fA b.outs (a.outs * b.outs).toNat).length ≤ 1000:=by rw [sg]; omega
 have r1:=oa (pT a b) a.outs (dA b.outs 0 (a.outs * b.outs).toNat) fp hKL
 have r2:=oa (pT a b) b.outs (fA b.outs (a.outs * b.outs).toNat) fp hKR
 rw [uP ca cb ca nb fa fb fa ho hs PL] at r1
 rw [uP ca cb cb nb fa fb fb ho hs PR] at r2
 have ox:=sj ca cb ca nb fa fb fa ho hs PL
 have oy:=sj ca cb cb nb fa fb fb ho hs PR
 have kx:=kd ca cb ca nb fa fb fa ho hs PL
 have ky:=kd ca cb cb nb fa fb fb ho hs PR
 have t1:=f9 _ a ox.sh ox.sh2 ha.2 ha.1
 have t2':=f9 a _ ha.2 ha.1 ox.sh ox.sh2
 have t3':=f9 _ b oy.sh oy.sh2 hb.2 hb.1
 have t4:=f9 b _ hb.2 hb.1 oy.sh oy.sh2
 have nx:(j5 (pT a b) a.outs (dA b.outs 0 (a.outs * b.outs).toNat)).n=a.n:=rfl
 have ny:(j5 (pT a b) b.outs (fA b.outs (a.outs * b.outs).toNat)).n=a.n:=rfl
 rw [iq (by simp [cR,kx,ca,nx]) (re ca cb ca nb fa fb fa ho hs PL)] at t1
 rw [iq (by simp [cR,kx,ca,nx]) (qQ ca cb ca nb fa fb fa ho hs PL)] at t2'
 rw [iq (by simp [cR,ky,cb,ny,nb]) (re ca cb cb nb fa fb fb ho hs PR)] at t3'
 rw [iq (by simp [cR,ky,cb,ny,nb]) (qQ ca cb cb nb fa fb fb ho hs PR)] at t4
 generalize j5 (pT a b) a.outs (dA b.outs 0 (a.outs * b.outs).toNat)=X at *
 generalize j5 (pT a b) b.outs (fA b.outs (a.outs * b.outs).toNat)=Y at *
 generalize pT a b=P at *
 have dp:=bK P
 have dx:=bK X
 have dy:=bK Y
 clear kx ky ox oy nx ny cp ep fp PL PR hs hs2
 obtain ⟨K,hK⟩:∃ K:Nat,a.outs * b.outs=(K:Int):=⟨(a.outs * b.outs).toNat,by omega⟩
 rw [hK,Int.toNat_natCast] at hKL hKR r1 r2
 unfold bn at d1 d2 cs c1 kp r1 r2 t1 t2' t3' t4 dp dx dy
 rw [show bn a=.agg [.int .i64 a.n,.int .i64 a.ins,.int .i64 a.outs,aO a.cases] from rfl,show bn b=.agg [.int .i64 b.n,.int .i64 b.ins,.int .i64 b.outs,aO b.cases] from rfl]
 refine bI ?_
 (have zz:=aI @af @ab; repeat' (first | apply a_n | refine zO ?_ | refine vZ ?_ | refine bxZ ?_ | fail)) <;> (try clear zz)
 refine bI (bI ?_)
 (have zz:=aI @af @ab; repeat' (first | apply a_n | refine zO ?_ | refine vZ ?_ | refine blZ ?_ | fail)) <;> (try clear zz)
 refine da ev0 ev0 hr (an (aj (lH au) ai) rfl) ?_
 (have zz:=aI @af (aI @ab @z); repeat' (first | apply a_n | refine zO ?_ | refine vZ ?_ | refine cZ ?_ (hp:=cs) | refine gTZ ?_ | refine cFZ ?_ | fail)) <;> (try clear zz)
 refine bI ?_
 (have zz:=aI @af @ab; repeat' (first | apply a_n | refine zO ?_ | refine vZ ?_ | refine cZ ?_ (hp:=c1) | refine alZ ?_ | refine stZ ?_ | fail)) <;> (try clear zz)
 refine bI (bI ?_)
 (have zz:=aI @af @ab; repeat' (first | apply a_n | refine zO ?_ | refine vZ ?_ | (refine zGZ ?_ ?_ <;> (intro _hg; try (exfalso; omega))) | fail)) <;> (try clear zz)
 refine bI ?_
 (have zz:=aI @af @ab; repeat' (first | apply a_n | refine zO ?_ | refine vZ ?_ | fail)) <;> (try clear zz)
 refine ba (fun T H nx=>T 2=.ptr 0 4 0∧T 3=.ptr 1 4 0∧T 5=.ptr 3 4 0∧H 0=some [.int .i64 a.n,.int .i64 a.ins,.int .i64 a.outs,aO a.cases]∧H 1=some [.int .i64 b.n,.int .i64 b.ins,.int .i64 b.outs,aO b.cases]∧H 3=some [.int .i64 P.n,.int .i64 P.ins,.int .i64 P.outs,aO P.cases]∧Row H 1 (T 7) ((dA b.outs 0 K).map (AV.int .i64))∧Row H 1 (T 8) ((fA b.outs K).map (AV.int .i64))) ?_ ?_
 ·(have zz:=aI @af @ab; repeat' (first | refine zW ?_ | apply a_n | refine zO ?_ | refine vZ ?_ | fail)) <;> (try clear zz)
  refine br (X:=Nat × AV × AV) (fun s=>[(2,.ptr 0 4 0),(3,.ptr 1 4 0),(5,.ptr 3 4 0),(7,s.2.1),(8,s.2.2),(66,.int .i64 (a.outs * b.outs)),(67,.int .i64 s.1)]) (fun s H nx=>s.1 ≤ K∧4 ≤ nx∧H 0=some [.int .i64 a.n,.int .i64 a.ins,.int .i64 a.outs,aO a.cases]∧H 1=some [.int .i64 b.n,.int .i64 b.ins,.int .i64 b.outs,aO b.cases]∧H 3=some [.int .i64 P.n,.int .i64 P.ins,.int .i64 P.outs,aO P.cases]∧Row H 1 s.2.1 ((dA b.outs 0 s.1).map (AV.int .i64))∧Row H 1 s.2.2 ((fA b.outs s.1).map (AV.int .i64))∧(∀ i,ef s.2.1=some i→4 ≤ i∧i < nx∧ef s.2.2 ≠ some i)∧∀ i,ef s.2.2=some i→4 ≤ i∧i < nx) (fun s=>K - s.1) (0,.esl,.esl) ⟨Nat.zero_le _,by omega,rfl,rfl,rfl,Row.nil,Row.nil,fun i h=>(by cases h),fun i h=>(by cases h)⟩ (by (iterate 7 refine And.intro rfl ?_); trivial) ?_
  rintro ⟨k,s1,s2⟩ H nx ⟨hk,hnx,g0,g1,g3,hr1,hr2,hb1,hb2⟩
  dsimp only at hk hr1 hr2 hb1 hb2 ⊢
  have zk:decide ((k:Int) < a.outs * b.outs)=decide (k < K):=decide_eq_decide.2 (by omega)
  by_cases hk2:k < K
  rotate_left
  ·obtain rfl:k=K:=by omega
   rw [decide_eq_false hk2] at zk
   (have zz:=@zk; repeat' (first | refine zW ?_ | apply a_n | apply a_x | refine zO ?_ | refine vY ?_ | refine cFY ?_ | fail)) <;> (try clear zz)
   exact ⟨rfl,rfl,rfl,g0,g1,g3,hr1,hr2⟩
  rw [decide_eq_true hk2] at zk
  have tq:aQ .quo false false (.int .i64 (k:Int)) (.int .i64 b.outs)=some (.int .i64 ((k:Int) / b.outs)):=jp (by omega) (by omega) (by omega)
  have tr:aQ .rem false false (.int .i64 (k:Int)) (.int .i64 b.outs)=some (.int .i64 ((k:Int) % b.outs)):=wn (by omega) (by omega)
  have e1:=uv (m:=b.outs) (n:=0) (k:=k)
  have e2:=vB (m:=b.outs) (k:=k)
  have l1:((dA b.outs 0 k).map (AV.int .i64)).length=k:=by rw [List.length_map,qx]
  have l2:((fA b.outs k).map (AV.int .i64)).length=k:=by rw [List.length_map,sg]
  generalize (k:Int) / b.outs=q at *
  generalize (k:Int) % b.outs=r at *
  (have zz:=@zk; repeat' (first | refine zW ?_ | apply a_n | refine zO ?_ | refine vY ?_ | refine cTY ?_ | fail)) <;> (try clear zz)
  refine wg (only 1 [.int .i64 b.n,.int .i64 b.ins,.int .i64 b.outs,aO b.cases]) rfl (qv g1) ?_
  have hS:only 1 [.int .i64 b.n,.int .i64 b.ins,.int .i64 b.outs,aO b.cases] 1=some [.int .i64 b.n,.int .i64 b.ins,.int .i64 b.outs,aO b.cases]:=lG
  (have zz:=aI @hS @tq; repeat' (first | apply a_n | refine zO ?_ | refine nvY ?_ | fail)) <;> (try clear zz)
  refine xF (pv:=[(0,1,.int .i64 q)]) (cs:=[.int .i64 q]) ev0 rfl (by decide) rfl rfl ?_
  (have zz:=aI @hS @tr; repeat' (first | apply a_n | refine zO ?_ | refine nvY ?_ | fail)) <;> (try clear zz)
  refine xF (pv:=[(0,1,.int .i64 r)]) (cs:=[.int .i64 r]) ev0 rfl (by decide) rfl rfl ?_
  refine mS ?_
  refine ma (k:=1) (new:=[.int .i64 q]) rfl ev0 hr1 ev0 iB rfl rfl Nat.one_pos (by omega) (by omega) ?_
  rintro s' H' nx' hrow j1 j2 j3 j4
  have hs1:∀ i,i < 4→ef s1 ≠ some i:=fun i hi h=>by have:=hb1 i h; omega
  have hs2:∀ i,i < 4→ef s2 ≠ some i:=fun i hi h=>by have:=hb2 i h; omega
  refine nT ⟨qv ((j3 1 (by omega) (hs1 1 (by omega))).trans g1),?_⟩
  refine sV ?_
  refine ma (k:=1) (new:=[.int .i64 r]) rfl ev0 (hr2.same fun i hi=>j3 i (hb2 i hi).2 (fun h=>(hb1 i h).2.2 hi)) ev0 iB rfl rfl Nat.one_pos (by omega) (by omega) ?_
  rintro t' H2 nx2 hrow2 i1 i2 i3 i4
  refine nT ?_
  (have zz:=and_self; repeat' (first | apply a_n | refine zO ?_ | refine vY ?_ | refine nvY ?_ | fail)) <;> (try clear zz)
  have hs':∀ i,ef s'=some i→4 ≤ i∧i < nx'∧ef s2 ≠ some i:=fun i h=>by
   rcases j4 i h with h | h
   ·have:=hb1 i h; exact ⟨this.1,by omega,this.2.2⟩
   ·exact ⟨by omega,by omega,fun h2=>by have:=hb2 i h2; omega⟩
  refine ⟨(k + 1,s',t'),by dsimp only; omega,⟨by dsimp only; omega,by omega,?_,?_,?_,?_,?_,fun i h=>?_,fun i h=>?_⟩,ag0⟩
  ·rw [i3 0 (by omega) (hs2 0 (by omega)),j3 0 (by omega) (hs1 0 (by omega))]; exact g0
  ·rw [i3 1 (by omega) (hs2 1 (by omega)),j3 1 (by omega) (hs1 1 (by omega))]; exact g1
  ·rw [i3 3 (by omega) (hs2 3 (by omega)),j3 3 (by omega) (hs1 3 (by omega))]; exact g3
  ·dsimp only
   rw [e1,List.map_append]
   exact hrow.same fun i hi=>i3 i (hs' i hi).2.1 (hs' i hi).2.2
  ·dsimp only
   rw [e2,List.map_append]
   exact hrow2
  ·have:=hs' i h
   refine ⟨this.1,by omega,fun h2=>?_⟩
   rcases i4 i h2 with h3 | h3
   ·exact this.2.2 h3
   ·omega
  ·rcases i4 i h with h3 | h3
   ·have:=hb2 i h3; omega
   ·omega
 rintro T H nx ⟨t2,t3,t5,g0,g1,g3,hr1,hr2⟩
 refine bI ?_
 refine jq H a9 [(2,.iptr [.int .i64 a.n,.int .i64 a.ins,.int .i64 a.outs,aO a.cases] 0),(3,.iptr [.int .i64 b.n,.int .i64 b.ins,.int .i64 b.outs,aO b.cases] 0),(5,.iptr [.int .i64 P.n,.int .i64 P.ins,.int .i64 P.outs,aO P.cases] 0),(7,aF (dA b.outs 0 K)),(8,aF (fA b.outs K))] Fz.all ⟨.inr (by rw [t2]; exact cf g0 rfl (aj (.int _ _) (aj (.int _ _) (aj (.int _ _) (aj (b7 _ _) ai))))),.inr (by rw [t3]; exact cf g1 rfl (aj (.int _ _) (aj (.int _ _) (aj (.int _ _) (aj (b7 _ _) ai))))),.inr (by rw [t5]; exact cf g3 rfl (aj (.int _ _) (aj (.int _ _) (aj (.int _ _) (aj (b7 _ _) ai))))),.inr hr1.snapI,.inr hr2.snapI,trivial⟩ ?_
 clear t2 t3 t5 g0 g1 g3 hr1 hr2
 (have zz:=aI @af @ab; repeat' (first | refine zW ?_ | apply a_n | refine zO ?_ | refine vY ?_ | refine cY ?_ (hp:=by first | exact haw | exact r1 | exact r2 | exact t1 | exact t2' | exact t3' | exact t4 | exact kp) (hs:=by (first | refine an ?_ rfl | apply aC); (repeat' (first | exact ai | apply aS | apply aE | exact d1 | exact d2 | exact dp | exact dx | exact dy | exact aZ _)); first | done | fail) | refine alY ?_ | refine stY ?_ | refine gTY ?_ | (refine zGY ?_ ?_ <;> (intro _hg; try (exfalso; omega))) | refine ae rfl ?_ | refine r1Y ?_ | fail)) <;> (try clear zz)
 all_goals exact .bool _
end Go.Proofs.YtjgpfclngkcedaaGreat
namespace Go.Proofs.YtjgpfclngkcedaaGreat
open Go Go.Abs Go.RowKit
section
variable {H:Type} {enc:TypeId × Value→H} {W:World}
theorem oi:db enc Tryz.prog W 3 (AV.int .i64) (fun n=>(Lit.int .i64 n).wf=true):=uq Tryz.underlying3
theorem oL1:db enc Tryz.prog W 27 aF Sh :=
 (gO Tryz.underlying27 (sz:=1) (by_:=8) (by kernel_rfl) (by kernel_rfl) Nat.one_pos (fun _=>rfl) oi).mono fun l h=>by have:=h.2.2; show _ ≤ _; omega
theorem oL2:db enc Tryz.prog W 41 ar (fun l=>Sh l∧∀ x ∈ l,Sh x) :=
 (gO Tryz.underlying41 (sz:=1) (by_:=24) (by kernel_rfl) (by kernel_rfl) Nat.one_pos (fun _=>rfl) oL1).mono fun l h=>⟨by have:=h.2.2; show _ ≤ _; omega,h.1⟩
set_option maxRecDepth 100000 in
theorem z9:db enc Tryz.prog W 57 dM ShC :=
 (jt Tryz.underlying57 (by kernel_rfl) (cS (off:=0) (off':=1) rfl (by kernel_rfl) oL1 (cS (off:=1) (off':=2) rfl (by kernel_rfl) oL2 (cS (off:=2) (off':=3) rfl (by kernel_rfl) oL2 mw)))).map
  (fun a=>(⟨a.1,a.2.1,a.2.2.1⟩:CaseV)) (by
   rintro ⟨i,o,c,u⟩ ⟨h1,h2,h3,_⟩
   exact ⟨h1,h2.1,h2.2,h3.1,h3.2⟩) (fun _ _=>rfl)
theorem yL:db enc Tryz.prog W 22 aO (fun l=>Sh l∧∀ c ∈ l,ShC c) :=
 (gO Tryz.underlying22 (sz:=3) (by_:=72) (by kernel_rfl) (by kernel_rfl) (by omega) (fun _=>rfl) z9).mono fun l h=>⟨by have:=h.2.2; show _ ≤ _; omega,h.1⟩
set_option maxRecDepth 100000 in
theorem xG:db enc Tryz.prog W 24 bn (fun t=>Sh t.cases∧∀ c ∈ t.cases,ShC c) :=
 (jt Tryz.underlying24 (by kernel_rfl) (cS (off:=0) (off':=1) rfl (by kernel_rfl) oi (cS (off:=1) (off':=2) rfl (by kernel_rfl) oi (cS (off:=2) (off':=3) rfl (by kernel_rfl) oi (cS (off:=3) (off':=4) rfl (by kernel_rfl) yL mw))))).map
  (fun a=>(⟨a.1,a.2.1,a.2.2.1,a.2.2.2.1⟩:TaskV)) (by
   rintro ⟨n,i,o,c,u⟩ ⟨_,_,_,h,_⟩
   exact h) (fun _ _=>rfl)
end
theorem mC {f:FuncId} {xs:List AV} {vs:List Value} (h:Go.Abs.Pure Tryz.prog f xs (.bool true)) (w:World) (hv:bJ (E0 (o7 w)) w xs vs) :
    Calls Tryz.prog f vs.toArray w fun e w'=>e=.returned (.bool true)∧Below w.heap.size w w':=by
 refine (h.2 (o7 w) w vs (fun _ h=>h) hv).mono ?_
 rintro e w' ⟨v,imm',rfl,hb,_,_,_,hr⟩
 cases hr
 exact ⟨rfl,hb⟩
theorem BK:laidOutB Tryz.prog=true:=by kernel_rfl
end Go.Proofs.YtjgpfclngkcedaaGreat
namespace Go.Proofs.YtjgpfclngkcedaaGreat
open Go Go.Abs Go.RowKit Go.ChangeShapes Go.WideShapes Go.ChangeAt
theorem nG {H:Type} {enc:TypeId × Value→H} {P:Program} {f:Func} {s:ChangeSpec} {apart fresh handsOn again:Bool} {W W':World} {args:Array Value} {v:Value} {ds gs:List (DataW H)} {before pa pv:List MemPlace}
    (hW:DataW.Whole enc P f.params.toList s.vars apart W args.toList ds gs before)
    (hres:∀ (b:Nat) (sp:Nat→Bool) (hd:Bool),DataW.TrodAll enc P W' b sp hd f.resultTypes.toList (v.resultList f.resultTypes.size) (s.fn H (ds ++ gs)).results [])
    (hargs:∀ sp:Nat→Bool,(∀ p ∈ before,sp p.block=true)→DataW.TrodAll enc P W' 0 sp true f.params.toList args.toList (s.fn H (ds ++ gs)).args pa)
    (hvars:∀ sp:Nat→Bool,(∀ p ∈ before,sp p.block=true)→DataW.TrodVars enc P W' sp s.vars (s.fn H (ds ++ gs)).vars pv)
    (hps:before=pa ++ pv) (hb:Below W.heap.size W W')
    (hok:∀ (j:Nat) (t:TypeId) (r:Value),f.resultTypes[j]?=some t→(v.resultList f.resultTypes.size)[j]?=some r→Value.okWide P W' .any 0 t r) :
    s.post enc P f apart fresh handsOn again W args v W':=by
 have hold:∀ p ∈ before,(fun b=>decide (b < W.heap.size)) p.block=true:=fun p hp=>by simpa using hW.lt p hp
 have hlt:=fun p hp=>hW.lt p hp
 refine ⟨ds,gs,before,[],pa,pv,hW,hres _ _ _,hargs _ hold,hvars _ hold,World.keptBut_mono (fun p hp=>⟨hp,?_⟩) (hb.frame _),fun _=>?_⟩
 ·rw [hps,List.mem_append] at hp
  exact Or.inr hp
 ·obtain ⟨_,_,_,_,_,hz,hn⟩:=hW
  refine ⟨hok,_,_,([] ++ pa) ++ pv,⟨[] ++ pa,pv,trodAll_append (hargs _ (fun _ _=>rfl)) (hres _ _ _),hvars _ (fun _ _=>rfl),rfl,?_,?_⟩,?_⟩
  ·intro b off hp
   have hp':MemPlace.cell b off ∈ before:=by rw [hps]; simpa using hp
   rw [hb.frozen (hlt _ hp')]
   exact hz b off hp'
  ·intro ha
   have:=hn ha
   rw [hps] at this
   simpa using this
  ·intro p hp _
   rw [hps]
   simpa using hp
theorem u1 {E:Env} {w:World}:bJ E w [] []:=⟨rfl,fun i x y h=>(by cases h)⟩
theorem od {E:Env} {w:World} {x:AV} {y:Value} {xs:List AV} {ys:List Value} (h:Rel E w x y) (hs:bJ E w xs ys):bJ E w (x :: xs) (y :: ys):=by
 refine ⟨by simp [hs.1],fun i a b ha hb=>?_⟩
 cases i with
 | zero=>simp at ha hb; subst ha hb; exact h
 | succ i=>simp at ha hb; exact hs.2 i a b ha hb
theorem own:ownKnob Tryz.prog.godebug=none:=by kernel_rfl
end Go.Proofs.YtjgpfclngkcedaaGreat