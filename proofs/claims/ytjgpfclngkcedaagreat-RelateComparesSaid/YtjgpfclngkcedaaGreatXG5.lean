/- Texts of this claim, one after the other: T21, T11, T22, T40, T41, T42, U2k, U3k, U4k, U5k, U6k, U7k, U8k, U10k, U12k, U13k, T31, T32, T33, T34, T35, T23, T24, T25, T26, A11, T27, T36, T29, T37, T43, T47, T48, T49, T50, T44, T45, T51, T52, T53, T54, T55, T56, T57, T63, T64, T59, T60, T58, T61, T62, T65, T66, A14, T46, T67, T8, T9. -/
import Derived.Test.YtjgpfclngkcedaaGreatXG4
import Derived.Test.YtjgpfclngkcedaaGreatXG3
import Derived.Test.YtjgpfclngkcedaaGreatRows
import Derived.WalkKit
import Derived.ProofKit
import Derived.OpenShut

set_option linter.unusedSimpArgs false
set_option linter.unusedVariables false
namespace Go.Proofs.YtjgpfclngkcedaaGreat
open Go Go.Abs
attribute [local irreducible] ak ab aB av am an ai ao aw aD Go.Abs.Fn au Go.Abs.Pure ae aj Yl
theorem jG (c:CaseV) (faulty:Int):Pure Tryz.prog 54 [.agg [aA c.inp,ax c.out,ax c.calm],.int .i64 faulty] (ax (az c faulty)):=by
  refine Pure.of_c2 follows wu (Nat.le_of_ble_eq_true rfl) ?_
  simp only [b54,cO,cG,cN,cM,cD,cF,cB,al,aC]
  unfold az
  (have zz:=and_self; repeat' (first | refine zW ?_ | apply a_n | apply a_r | refine zO ?_ | refine vZ ?_ | refine bxZ ?_ | refine gTZ ?_ | refine gFZ ?_ | refine cFZ ?_ | (refine zGZ ?_ ?_ <;> (intro _hg; try (exfalso; omega))) | refine ah rfl ?_ | refine r1Z ?_ | fail)) <;> (try clear zz)
  · rw [if_pos (by omega)]; exact aW _ _
  · rw [if_neg (by omega)]; exact aW _ _
  · rw [if_neg (by omega)]; exact aW _ _
def rc (f:Int) (p:Nat):Bool:=decide (f / ((2 ^ p:Nat):Int) % 2=1)
theorem qJ (f:Int) (p:Nat) (h0:0 ≤ f) (h1:f ≤ 9223372036854775807) (hp:p ≤ 60):Pure Tryz.prog 164 [.int .i64 f,.int .i64 p] (.bool (rc f p)):=by
  have hw:=n3 p hp
  have h3:0 < 2 ^ p:=Nat.pow_pos (by omega)
  unfold rc
  generalize 2 ^ p=w at *
  refine Pure.of_c2 follows vq (Nat.le_of_ble_eq_true rfl) ?_
  simp only [s8,cO,cG,cN,cM,cD,cF,cB,al,aC]
  have hq:=qy (tb:=false) (tf:=false) h0 h1 (b:=(w:Int)) (by omega)
  have hr:=qH (k:=.i64) (tb:=false) (tf:=false) (a:=f / (w:Int)) (b:=2) (Int.ediv_nonneg h0 (by omega)) (by omega)
  (have zz:=aI @hq @hr; repeat' (first | refine zW ?_ | apply a_n | refine zO ?_ | refine vZ ?_ | refine cZ ?_ (hp:=hw) | refine ah rfl ?_ | refine r1Z ?_ | fail)) <;> (try clear zz)
  exact a9 rfl
theorem pM {a:Nat}:jp (a:Int)=((a % 2:Nat):Int):=by
  have h:(BitVec.ofInt 64 (a:Int) &&& BitVec.ofInt 64 1).toNat=a % 2:=by
    rw [BitVec.toNat_and]
    have e:(BitVec.ofInt 64 1).toNat=2 ^ 1 - 1:=rfl
    rw [e,Nat.and_two_pow_sub_one_eq_mod]
    simp [BitVec.toNat_ofInt]
  unfold jp
  rw [h,ji (by omega) (by omega)]
theorem qE {f:Int} {p:Nat} (h0:0 ≤ f) (hp:p ≤ 60):rc f p=!decide (jp (ja f p)=0):=by
  obtain ⟨m,rfl⟩:∃ m:Nat,f=m:=⟨f.toNat,by omega⟩
  have e:ja (m:Int) p=((m / 2 ^ p:Nat):Int):=by
    unfold ja
    rw [Nat.min_eq_left (by omega),Int.fdiv_eq_ediv_of_nonneg _ (Int.le_of_lt (Int.pow_pos (by omega)))]
    simp
  rw [e,pM]
  unfold rc
  rw [show (m:Int) / ((2 ^ p:Nat):Int)=((m / 2 ^ p:Nat):Int) from rfl]
  generalize m / 2 ^ p=x
  by_cases h:x % 2=0
  · rw [decide_eq_false (by omega),decide_eq_true (by omega)]; rfl
  · rw [decide_eq_true (by omega),decide_eq_false (by omega)]; rfl
end Go.Proofs.YtjgpfclngkcedaaGreat
namespace Go.Proofs.YtjgpfclngkcedaaGreat
open Go Go.Abs
open Nat (reduceEqDiff reduceAdd reduceLeDiff)
section
variable {t:TaskV} {S:List Nat} (hc:aX t=0) (hp:S.Pairwise (· < ·)) (hS:∀ i ∈ S,i < t.cases.length)
theorem lY (h:aX t=0):(¬ (t.n < 1 ∨ 5 < t.n ∨ t.ins < 1 ∨ 8 < t.ins ∨ t.outs < 1 ∨ 8 < t.outs))∧(1 ≤ t.cases.length∧t.cases.length ≤ 1024)∧∀ k,k < t.cases.length→aO (t.cases.getD k default).inp t.n t.ins=0∧bk t.n t.outs (t.cases.getD k default)=0:=by
  unfold aX at h
  split at h
  · omega
  · rename_i h1
    split at h
    · omega
    · rename_i h2
      refine ⟨h1,by omega,fun k hk=>?_⟩
      have h3:=eH h k hk
      unfold c8 at h3
      split at h3
      · exact absurd h3 ‹_›
      · rename_i h4
        split at h3
        · omega
        · exact ⟨Decidable.byContradiction fun x=>h4 x,h3⟩
end
def vV (w:Int) (i:Nat):Bool:=decide (IntKind.wrap .u16 ((BitVec.ofInt 16 (w.fdiv (2 ^ (min (i % 16) 16))) &&& BitVec.ofInt 16 1).toNat:Int)=1)
def sm (w:Int) (k:Nat):List Nat:=(List.range k).filter (vV w)
attribute [local irreducible] ak ab aB av am an ai ao aw aD Go.Abs.Fn au Go.Abs.Pure ae aj Yl
end Go.Proofs.YtjgpfclngkcedaaGreat
namespace Go.Proofs.YtjgpfclngkcedaaGreat
open Go Go.Abs
open Nat (reduceEqDiff reduceAdd reduceLeDiff)
theorem oC {v:List Int} {n most:Int} (h:aO v n most=0):(v.length:Int)=n∧∀ x ∈ v,0 ≤ x∧x < most:=by
  unfold aO at h
  by_cases c:(v.length:Int) ≠ n
  · rw [if_pos c] at h; exact absurd h (by decide)
  · rw [if_neg c] at h
    refine ⟨by omega,fun x hx=>?_⟩
    by_cases c2:v.any (fun x=>decide (x < 0 ∨ most ≤ x))=true
    · rw [if_pos c2] at h; exact absurd h (by decide)
    · rw [Bool.not_eq_true,List.any_eq_false] at c2
      have:=c2 x hx
      simp only [decide_eq_true_eq] at this
      omega
theorem po {t:TaskV} {k:Nat} (h:aX t=0) (hk:k < t.cases.length) :
    (1 ≤ (t.cases.getD k default).out.length)∧(∀ v ∈ (t.cases.getD k default).out,(v.length:Int)=t.n∧∀ x ∈ v,0 ≤ x∧x < t.outs)∧(∀ v ∈ (t.cases.getD k default).calm,v ∈ (t.cases.getD k default).out):=by
  have h0:=((lY h).2.2 k hk).2
  generalize t.cases.getD k default=c at *
  unfold bk at h0
  split at h0
  · exact absurd h0 (by decide)
  split at h0
  · exact absurd h0 ‹_›
  rename_i g1 g2
  have o0:=eH (Decidable.of_not_not g2)
  have c0:=eH h0
  refine ⟨by omega,fun v hv=>?_,fun v hv=>?_⟩
  · obtain ⟨j,hj,rfl⟩:=List.getElem_of_mem hv
    have:=o0 j hj
    unfold e8 at this
    split at this
    · exact absurd this ‹_›
    · rename_i g3
      have e:=oC (Decidable.of_not_not g3)
      simpa [List.getD,hj] using e
  · obtain ⟨j,hj,rfl⟩:=List.getElem_of_mem hv
    have:=c0 j hj
    unfold fw at this
    split at this
    · rename_i g3; simpa [List.getD,hj] using g3
    · exact absurd this (by decide)
theorem mY {t:TaskV} {k:Nat} {f:Int} (h:aX t=0) (hk:k < t.cases.length):(1 ≤ (az (t.cases.getD k default) f).length)∧∀ v ∈ az (t.cases.getD k default) f,(v.length:Int)=t.n∧∀ x ∈ v,0 ≤ x∧x < t.outs:=by
  obtain ⟨h1,h2,h3⟩:=po h hk
  unfold az
  split
  · rename_i g; exact ⟨by omega,fun v hv=>h2 v (h3 v hv)⟩
  · exact ⟨h1,h2⟩
attribute [local irreducible] ak ab aB av am an ai ao aw aD Go.Abs.Fn au Go.Abs.Pure ae aj Yl
theorem oJ (v outs:List Int) (f:Int) (hv:v.length ≤ 60) (ho:Sh outs) (hl:v.length ≤ outs.length) (h0:0 ≤ f) (h1:f ≤ 9223372036854775807):Pure Tryz.prog 148 [aA v,.int .i64 f,aA outs] (.bool (bh v outs f)):=by
  refine Pure.of_c2 follows uK (Nat.le_of_ble_eq_true rfl) ?_
  simp only [tN,cO,cG,cN,cM,cD,cF,cB,al,aC]
  have ho':outs.length ≤ 17592186044416:=ho
  (have zz:=and_self; repeat' (first | refine zW ?_ | apply a_n | refine zO ?_ | refine vZ ?_ | fail)) <;> (try clear zz)
  refine fU (X:=Nat) (fun k=>[(0,aA v),(1,.int .i64 f),(2,aA outs),(7,.int .i64 k)]) (fun k=>k ≤ v.length∧∀ i,i < k→(decide (jp (ja f i)=0) && decide (outs.getD i default ≠ v.getD i default))=false) (fun k=>v.length - k) 0 ⟨Nat.zero_le _,by simp⟩ ag0 ?_
  rintro k ⟨g1,g2⟩
  by_cases hk:k < v.length
  rotate_left
  · (have zz:=and_self; repeat' (first | refine zW ?_ | apply a_n | apply a_x | refine zO ?_ | refine vZ ?_ | (refine zGZ ?_ ?_ <;> (intro _hg; try (exfalso; omega))) | refine ah rfl ?_ | refine r1Z ?_ | fail)) <;> (try clear zz)
    refine a9 ?_
    symm
    unfold bh
    rw [List.all_eq_true]
    intro i hi
    rw [g2 i (by have:=List.mem_range.1 hi; omega)]
    rfl
  have hh:=qJ f k h0 h1 (by omega)
  rw [qE h0 (by omega)] at hh
  generalize hA:decide (jp (ja f k)=0)=A at *
  cases A
  · (have zz:=@Bool.not_false; repeat' (first | refine zW ?_ | refine zM ?_ | apply a_n | refine zO ?_ | refine vZ ?_ | refine cZ ?_ (hp:=hh) | refine gFZ ?_ | refine cFZ ?_ | (refine zGZ ?_ ?_ <;> (intro _hg; try (exfalso; omega))) | fail)) <;> (try clear zz)
    refine ⟨k + 1,⟨by omega,fun i hi=>?_⟩,by omega,ag0,rfl,rfl⟩
    rcases Nat.lt_succ_iff_lt_or_eq.1 hi with h | rfl
    · exact g2 i h
    · rw [hA]; rfl
  · by_cases hne:outs.getD k default=v.getD k default
    · have hd:decide (outs.getD k default ≠ v.getD k default)=false:=decide_eq_false (fun h=>h hne)
      (have zz:=aI @Bool.not_true @hd; repeat' (first | refine zW ?_ | refine zM ?_ | apply a_n | refine zO ?_ | refine vZ ?_ | refine cZ ?_ (hp:=hh) | refine gTZ ?_ | refine cFZ ?_ | (refine zGZ ?_ ?_ <;> (intro _hg; try (exfalso; omega))) | fail)) <;> (try clear zz)
      refine ⟨k + 1,⟨by omega,fun i hi=>?_⟩,by omega,ag0,rfl,rfl⟩
      rcases Nat.lt_succ_iff_lt_or_eq.1 hi with h | rfl
      · exact g2 i h
      · rw [hA,hd]; rfl
    · have hd:decide (outs.getD k default ≠ v.getD k default)=true:=decide_eq_true hne
      (have zz:=aI @Bool.not_true @hd; repeat' (first | refine zW ?_ | refine zM ?_ | apply a_n | apply a_r | refine zO ?_ | refine vZ ?_ | refine cZ ?_ (hp:=hh) | refine gTZ ?_ | refine cTZ ?_ | (refine zGZ ?_ ?_ <;> (intro _hg; try (exfalso; omega))) | refine ah rfl ?_ | refine r1Z ?_ | fail)) <;> (try clear zz)
      refine a9 ?_
      symm
      unfold bh
      rw [Bool.eq_false_iff,ne_eq,List.all_eq_true]
      intro h
      have:=h k (List.mem_range.2 (by omega))
      rw [hA,hd] at this
      exact absurd this (by decide)
theorem sj (c:CaseV) (outs:List Int) (f:Int) (hc:Sh (az c f)) (hv:∀ v ∈ az c f,v.length ≤ 60∧v.length ≤ outs.length) (ho:Sh outs) (h0:0 ≤ f) (h1:f ≤ 9223372036854775807):Pure Tryz.prog 129 [.agg [aA c.inp,ax c.out,ax c.calm],.int .i64 f,aA outs] (.bool ((az c f).any fun v=>bh v outs f)):=by
  refine Pure.of_c2 follows vh (Nat.le_of_ble_eq_true rfl) ?_
  simp only [uT,cO,cG,cN,cM,cD,cF,cB,al,aC]
  have ha2:=jG c f
  have d3:Dat (.agg [aA c.inp,ax c.out,ax c.calm]):=ce c
  have hc':(az c f).length ≤ 17592186044416:=hc
  generalize hl:az c f=l at *
  (have zz:=and_self; repeat' (first | refine zW ?_ | apply a_n | refine zO ?_ | refine vZ ?_ | refine cZ ?_ (hp:=ha2) | refine bxZ ?_ | fail)) <;> (try clear zz)
  refine gf (fun k=>[(1,.int .i64 f),(2,aA outs),(7,ax l),(8,.int .i64 k)]) l.length (fun k=>bh (l.getD k default) outs f=false) ag0 ?_
  intro k hk hz
  by_cases hk2:k < l.length
  rotate_left
  · (have zz:=and_self; repeat' (first | refine zW ?_ | apply a_n | apply a_x | refine zO ?_ | refine vZ ?_ | (refine zGZ ?_ ?_ <;> (intro _hg; try (exfalso; omega))) | refine ah rfl ?_ | refine r1Z ?_ | fail)) <;> (try clear zz)
    refine a9 ?_
    symm
    rw [List.any_eq_false]
    intro v hv2
    obtain ⟨j,hj,rfl⟩:=List.getElem_of_mem hv2
    have:=hz j (by omega)
    simp only [List.getD,hj,List.getElem?_eq_getElem,Option.getD_some] at this
    rw [this]; decide
  have hm:=aF hk2
  have hg:=oJ (l.getD k default) outs f (hv _ hm).1 ho (hv _ hm).2 h0 h1
  cases hb:bh (l.getD k default) outs f
  · rw [hb] at hg
    (have zz:=and_self; repeat' (first | refine zW ?_ | apply a_n | refine zO ?_ | refine vZ ?_ | refine cZ ?_ (hp:=hg) | refine cFZ ?_ | (refine zGZ ?_ ?_ <;> (intro _hg; try (exfalso; omega))) | fail)) <;> (try clear zz)
    exact ⟨hk2,rfl,ag0,rfl,rfl⟩
  · rw [hb] at hg
    (have zz:=and_self; repeat' (first | refine zW ?_ | apply a_n | apply a_r | refine zO ?_ | refine vZ ?_ | refine cZ ?_ (hp:=hg) | refine cTZ ?_ | (refine zGZ ?_ ?_ <;> (intro _hg; try (exfalso; omega))) | refine ah rfl ?_ | refine r1Z ?_ | fail)) <;> (try clear zz)
    refine a9 ?_
    symm
    rw [List.any_eq_true]
    exact ⟨_,hm,hb⟩
end Go.Proofs.YtjgpfclngkcedaaGreat
namespace Go.Proofs.YtjgpfclngkcedaaGreat
open Go Go.Abs
open Nat (reduceEqDiff reduceAdd reduceLeDiff)
section
variable {α β:Type} [Inhabited α]
theorem cT {l:List α} {f:α→Option β} (h:∀ i,i < l.length→f (l.getD i default)=none):l.findSome? f=none:=by
  rw [List.findSome?_eq_none_iff]
  intro x hx
  obtain ⟨i,hi,rfl⟩:=List.getElem_of_mem hx
  have:=h i hi
  rwa [show l.getD i default=l[i] by simp [List.getD,hi]] at this
theorem ez {l:List α} {f:α→Option β} {k:Nat} {w:β} (hk:k < l.length) (h:∀ i,i < k→f (l.getD i default)=none) (e:f (l.getD k default)=some w):l.findSome? f=some w:=by
  have e1:l=l.take k ++ l.drop k:=(List.take_append_drop k l).symm
  rw [e1,List.findSome?_append,cT (l:=l.take k) (fun i hi=>by
    rw [List.length_take] at hi
    rw [fF (by omega)]; exact h i (by omega)),bt hk,List.findSome?_cons,e]
  rfl
theorem eb {l:List α} {p:α→Bool} (h:∀ i,i < l.length→p (l.getD i default)=false):l.find? p=none:=by
  rw [List.find?_eq_none]
  intro x hx
  obtain ⟨i,hi,rfl⟩:=List.getElem_of_mem hx
  have:=h i hi
  rw [show l.getD i default=l[i] by simp [List.getD,hi]] at this
  rw [this]; decide
theorem mC {l:List α} {p:α→Bool} {k:Nat} (hk:k < l.length) (h:∀ i,i < k→p (l.getD i default)=false) (e:p (l.getD k default)=true):l.find? p=some (l.getD k default):=by
  have e1:l=l.take k ++ l.drop k:=(List.take_append_drop k l).symm
  have e2:(l.take k ++ l.drop k).find? p=some (l.getD k default):=by
    rw [List.find?_append,eb (l:=l.take k) (fun i hi=>by
      rw [List.length_take] at hi
      rw [fF (by omega)]; exact h i (by omega)),bt hk,List.find?_cons_of_pos e]
    rfl
  rwa [← e1] at e2
end
theorem cQ {n i:Nat} (h:i < n):(List.range n).getD i default=i:=by simp [List.getD,h]
def c6 (a b:TaskV):Int:=if aX a ≠ 0 then aX a else if aX b ≠ 0 then aX b else if a.n ≠ b.n then 22 else 0
theorem oe {a b:TaskV} (h:c6 a b=0):aX a=0∧aX b=0∧a.n=b.n:=by
  unfold c6 at h
  split at h
  · exact absurd h ‹_›
  split at h
  · exact absurd h ‹_›
  split at h
  · exact absurd h (by decide)
  rename_i h1 h2 h3
  exact ⟨Decidable.of_not_not h1,Decidable.of_not_not h2,Decidable.of_not_not h3⟩
def dw (t:TaskV) (v:List Int):Option CaseV:=if v ∈ t.cases.map CaseV.inp then some (t.cases.getD (ga t v) default) else none
theorem ly {t:TaskV} {v:List Int} (h:v ∈ t.cases.map CaseV.inp):ga t v < t.cases.length:=by
  unfold ga
  have:=List.findIdx_lt_length_of_exists (xs:=t.cases.map CaseV.inp) (p:=fun x=>decide (x=v)) ⟨v,h,by simp⟩
  rwa [List.length_map] at this
theorem j2 {t:TaskV} {v:List Int} {c:CaseV} (h:dw t v=some c):c ∈ t.cases∧c.inp=v:=by
  unfold dw at h
  split at h
  · rename_i hm
    cases h
    have hl:=ly hm
    refine ⟨aF hl,?_⟩
    rw [← cA hl]
    have hl2:ga t v < (t.cases.map CaseV.inp).length:=by rw [List.length_map]; exact hl
    have h3:(t.cases.map CaseV.inp).getD (ga t v) default=(t.cases.map CaseV.inp)[ga t v]:=by rw [List.getD_eq_getElem?_getD,List.getElem?_eq_getElem hl2]; rfl
    rw [h3]
    exact of_decide_eq_true (List.findIdx_getElem (xs:=t.cases.map CaseV.inp) (p:=fun x=>decide (x=v)) (w:=hl2))
  · cases h
def zC:CaseV:=⟨[],[],[]⟩
def dH (c:CaseV) (f:Int) (v:List Int):Bool:=(az c f).any fun w=>bh w v f
def dX (a:TaskV) (c:CaseV):Option (List Int × Int × List Int):=match dw a c.inp with
  | none=>some (c.inp,0,[])
  | some x=>(List.range (2 ^ a.n.toNat)).findSome? fun (f:Nat)=>((az x (f:Int)).find? fun v=>!dH c (f:Int) v).map fun v=>(c.inp,(f:Int),v)
def iK (a b:TaskV):Option (List Int × Int × List Int):=b.cases.findSome? (dX a)
def bJ (a b:TaskV):List Int × Int × List Int × Bool × Int:=if c6 a b ≠ 0 then ([],0,[],false,c6 a b) else match iK a b with
  | none=>([],0,[],true,0)
  | some w=>(w.1,w.2.1,w.2.2,false,0)
def i0 (r:List Int × Int × List Int × Bool × Int):AV:=.tup [aA r.1,.int .i64 r.2.1,aA r.2.2.1,.bool r.2.2.2.1,.int .i64 r.2.2.2.2]
theorem gr {v w:List Int} {f:Int} (h:v.length=w.length):bh v w f=bh w v f:=by
  unfold bh
  rw [h]
  congr 1
  funext p
  rw [show decide (w.getD p default ≠ v.getD p default)=decide (v.getD p default ≠ w.getD p default) from decide_eq_decide.2 ⟨fun h e=>h e.symm,fun h e=>h e.symm⟩]
theorem pB {l:List (List Int)} {v:List Int} {f:Int} (h:∀ w ∈ l,w.length=v.length):(l.any fun w=>bh v w f)=l.any fun w=>bh w v f:=by
  rw [Bool.eq_iff_iff,List.any_eq_true,List.any_eq_true]
  exact ⟨fun ⟨w,hw,e⟩=>⟨w,hw,by rw [gr (h w hw)]; exact e⟩,fun ⟨w,hw,e⟩=>⟨w,hw,by rw [← gr (h w hw)]; exact e⟩⟩
theorem i6 {H:Hp} {i o:List Int} {f e:Int} {k:Bool} {x y:AV} (hx:Snap H x (aA i)) (hy:Snap H y (aA o)):Snap H (.tup [x,.int .i64 f,y,.bool k,.int .i64 e]) (i0 (i,f,o,k,e)) :=
  eU (ay hx (ay (.int _ _) (ay hy (ay (.bool _) (ay (.int _ _) aG)))))
theorem oQ {a:TaskV} {c x:CaseV} (h:dw a c.inp=some x) (hz:∀ f:Nat,f < 2 ^ a.n.toNat→∀ i,i < (az x f).length→dH c f ((az x f).getD i default)=true):dX a c=none:=by
  unfold dX
  rw [h]
  refine cT fun i hi=>?_
  rw [List.length_range] at hi
  rw [cQ hi,Option.map_eq_none_iff]
  refine eb fun j hj=>?_
  rw [hz i hi j hj]; rfl
theorem pD {a:TaskV} {c x:CaseV} {f k:Nat} (h:dw a c.inp=some x) (hz:∀ g:Nat,g < f→∀ i,i < (az x g).length→dH c g ((az x g).getD i default)=true) (hf:f < 2 ^ a.n.toNat) (hk:k < (az x f).length) (hi:∀ i,i < k→dH c f ((az x f).getD i default)=true) (e:dH c f ((az x f).getD k default)=false):dX a c=some (c.inp,(f:Int),(az x f).getD k default):=by
  unfold dX
  rw [h]
  refine ez (k:=f) (by rw [List.length_range]; exact hf) (fun g hg=>?_) ?_
  · rw [cQ (by omega),Option.map_eq_none_iff]
    refine eb fun j hj=>?_
    rw [hz g hg j hj]; rfl
  · rw [cQ hf,mC hk (fun i h=>by rw [hi i h]; rfl) (by rw [e]; rfl)]
    rfl
attribute [local irreducible] ak ab aB av am an ai ao aw aD Go.Abs.Fn au Go.Abs.Pure ae aj Yl
theorem ot (l:List CaseV) (p:CaseV→Bool) (g:Nat) (caps:List AV) (hd:∀ x ∈ caps,Dat x) (hg:∀ x ∈ l,Pure Tryz.prog g (.agg [aA x.inp,ax x.out,ax x.calm] :: caps) (.bool (p x))) (hl:Sh l):Pure Tryz.prog 100 [bc l,.func g caps] (.int .i64 (if l.any p then (l.findIdx p:Nat) else -1)):=by
  refine Pure.of_c2 follows rm (Nat.le_of_ble_eq_true rfl) ?_
  simp only [se,cO,cG,cN,cM,cD,cF,cB,al,aC]
  have hl':l.length ≤ 17592186044416:=hl
  (have zz:=aI @af (aI @ac @ag); repeat' (first | refine zW ?_ | apply a_n | refine zO ?_ | refine vZ ?_ | fail)) <;> (try clear zz)
  refine fU (X:=Nat) (fun k=>[(0,bc l),(1,.func g caps),(7,.int .i64 l.length),(8,.int .i64 k)]) (fun k=>k ≤ l.length∧∀ i,i < k→p (l.getD i default)=false) (fun k=>l.length - k) 0 ⟨Nat.zero_le _,by simp⟩ ag0 ?_
  rintro k ⟨h1,h2⟩
  by_cases hk:k < l.length
  · have hc:=hg _ (aF hk)
    have d3:=ce (l.getD k default)
    have ix:=aN hk
    have e:l.getD k default=l[k]:=by simp [List.getD,hk]
    unfold gA at d3
    cases hb:p (l.getD k default)
    · rw [hb] at hc
      (have zz:=aI @af (aI @ac (aI @ag @ix)); repeat' (first | refine zW ?_ | apply a_n | refine zO ?_ | refine vZ ?_ | refine cZ ?_ (hp:=hc) (hs:=by (first | refine a7 ?_ rfl | apply ck); (repeat' (first | exact aG | apply dT | apply b4 | exact d3 | exact dB hd)); first | done | fail) | refine cFZ ?_ | (refine zGZ ?_ ?_ <;> (intro _hg; try (exfalso; omega))) | fail)) <;> (try clear zz)
      refine ⟨k + 1,⟨by omega,fun i hi=>?_⟩,by omega,ag0,rfl,rfl⟩
      rcases Nat.lt_succ_iff_lt_or_eq.1 hi with h | rfl
      · exact h2 i h
      · exact hb
    · rw [hb] at hc
      (have zz:=aI @af (aI @ac (aI @ag @ix)); repeat' (first | refine zW ?_ | apply a_n | apply a_r | refine zO ?_ | refine vZ ?_ | refine cZ ?_ (hp:=hc) (hs:=by (first | refine a7 ?_ rfl | apply ck); (repeat' (first | exact aG | apply dT | apply b4 | exact d3 | exact dB hd)); first | done | fail) | refine cTZ ?_ | (refine zGZ ?_ ?_ <;> (intro _hg; try (exfalso; omega))) | refine ah rfl ?_ | refine r1Z ?_ | fail)) <;> (try clear zz)
      refine aS ?_
      rw [e] at hb
      rw [if_pos (List.any_eq_true.2 ⟨l[k],List.getElem_mem hk,hb⟩),(List.findIdx_eq hk).2 ⟨hb,fun j hj=>by have:=h2 j hj; rwa [show l.getD j default=l[j] by simp [List.getD,show j < l.length by omega]] at this⟩]
  · (have zz:=aI @af (aI @ac @ag); repeat' (first | refine zW ?_ | apply a_n | apply a_x | refine zO ?_ | refine vZ ?_ | (refine zGZ ?_ ?_ <;> (intro _hg; try (exfalso; omega))) | refine ah rfl ?_ | refine r1Z ?_ | fail)) <;> (try clear zz)
    refine aS ?_
    rw [if_neg]
    rw [Bool.not_eq_true,List.any_eq_false]
    intro x hx
    obtain ⟨i,hi,e⟩:=List.getElem_of_mem hx
    have:=h2 i (by omega)
    rw [show l.getD i default=x by simp [List.getD,hi,e]] at this
    simp [this]
theorem pX (c:CaseV) (v:List Int) (hc:Sh c.inp) (hv:Sh v):Pure Tryz.prog 101 [.agg [aA c.inp,ax c.out,ax c.calm],.iptr [aA v] 0] (.bool (decide (c.inp=v))):=by
  refine Pure.of_c2 follows rq (Nat.le_of_ble_eq_true rfl) ?_
  simp only [sb,cO,cG,cN,cM,cD,cF,cB,al,aC]
  (have zz:=and_self; repeat' (first | refine zW ?_ | apply a_n | refine zO ?_ | refine vZ ?_ | refine cZ ?_ (hp:=by exact gK _ _ hc hv) | refine bxZ ?_ | refine ah rfl ?_ | refine r1Z ?_ | fail)) <;> (try clear zz)
  exact .bool _
theorem sx {H:Hp}:Snap H (.agg [.esl,.esl,.esl]) (gA zC):=jx (ay (.eslsl 1) (ay (.eslsl 1) (ay (.eslsl 1) aG)))
theorem qC (t:TaskV) (v:List Int) (hs:∀ c ∈ t.cases,ShC c) (hsc:Sh t.cases) (hv:Sh v):Pure Tryz.prog 41 [bi t,aA v] (.tup [gA ((dw t v).getD zC),.bool (dw t v).isSome]):=by
  refine Pure.of_c2 follows vA (Nat.le_of_ble_eq_true rfl) ?_
  simp only [b41,cO,cG,cN,cM,cD,cF,cB,al,aC]
  have hA:=ot t.cases (fun c=>decide (c.inp=v)) 101 [.iptr [aA v] 0] (fun x hx=>by
    simp only [List.mem_singleton] at hx; subst hx
    exact .iptr (DatL.cons (aK _) DatL.nil)) (fun c hc=>pX c v (hs c hc).1 hv) hsc
  have hany:(t.cases.any fun c=>decide (c.inp=v))=decide (v ∈ t.cases.map CaseV.inp):=by
    rw [← og,List.any_map]; rfl
  have hidx:t.cases.findIdx (fun c=>decide (c.inp=v))=ga t v:=by
    unfold ga
    rw [List.findIdx_map]; rfl
  rw [hany,hidx] at hA
  unfold dw
  unfold bi
  by_cases hm:v ∈ t.cases.map CaseV.inp
  · rw [if_pos (decide_eq_true hm)] at hA
    rw [if_pos hm]
    have hl:=ly hm
    have hl':t.cases.length ≤ 17592186044416:=hsc
    have ix:=aN hl
    generalize ga t v=q at *
    (have zz:=aI @af (aI @ac @ag); repeat' (first | refine zW ?_ | apply a_n | refine zO ?_ | refine vZ ?_ | refine alZ ?_ | refine bxZ ?_ | fail)) <;> (try clear zz)
    refine eB ev0 ev0 hA (a7 (by (repeat' (first | exact aG | exact Dat.snap Dat.int | exact Dat.snap Dat.bool | exact Dat.snap Dat.str | exact Dat.snap Dat.esl | exact Dat.snap Dat.nilf | exact Dat.snap (aK _) | exact Dat.snap (aW _) | exact d8 _ _ | apply ay | apply d6 | apply d9 | (apply fo; (focus ((try simp only [bb,ZA,reduceEqDiff,↓reduceIte,reduceAdd,reduceLeDiff]); with_reducible rfl)); (focus rfl))))) rfl) ?_
    have d3:=ce (t.cases.getD q default)
    (have zz:=aI @af (aI @ac (aI @ag @ix)); repeat' (first | refine zW ?_ | apply a_n | refine zO ?_ | refine vZ ?_ | refine stZ ?_ | (refine zGZ ?_ ?_ <;> (intro _hg; try (exfalso; omega))) | refine ah rfl ?_ | refine r2Z ?_ | fail)) <;> (try clear zz)
    exact eU (ay (d3 _) (ay (.bool _) aG))
  · rw [if_neg (by simpa using hm)] at hA
    rw [if_neg hm]
    (have zz:=aI @af (aI @ac @ag); repeat' (first | refine zW ?_ | apply a_n | refine zO ?_ | refine vZ ?_ | refine alZ ?_ | refine bxZ ?_ | fail)) <;> (try clear zz)
    refine eB ev0 ev0 hA (a7 (by (repeat' (first | exact aG | exact Dat.snap Dat.int | exact Dat.snap Dat.bool | exact Dat.snap Dat.str | exact Dat.snap Dat.esl | exact Dat.snap Dat.nilf | exact Dat.snap (aK _) | exact Dat.snap (aW _) | exact d8 _ _ | apply ay | apply d6 | apply d9 | (apply fo; (focus ((try simp only [bb,ZA,reduceEqDiff,↓reduceIte,reduceAdd,reduceLeDiff]); with_reducible rfl)); (focus rfl))))) rfl) ?_
    (have zz:=aI @af (aI @ac @ag); repeat' (first | refine zW ?_ | apply a_n | apply a_r | refine zO ?_ | refine vZ ?_ | refine stZ ?_ | (refine zGZ ?_ ?_ <;> (intro _hg; try (exfalso; omega))) | refine ah rfl ?_ | refine r2Z ?_ | fail)) <;> (try clear zz)
    exact eU (ay sx (ay (.bool _) aG))
theorem rU (c:CaseV):Pure Tryz.prog 61 [.agg [aA c.inp,ax c.out,ax c.calm]] (ax (az c 0)):=by
  refine Pure.of_c2 follows s7 (Nat.le_of_ble_eq_true rfl) ?_
  simp only [b61,cO,cG,cN,cM,cD,cF,cB,al,aC]
  unfold az
  (have zz:=and_self; repeat' (first | refine zW ?_ | apply a_n | apply a_r | refine zO ?_ | refine vZ ?_ | refine bxZ ?_ | (refine zGZ ?_ ?_ <;> (intro _hg; try (exfalso; omega))) | refine ah rfl ?_ | refine r1Z ?_ | fail)) <;> (try clear zz)
  · rw [if_pos (by omega)]; exact aW _ _
  · rw [if_neg (by omega)]; exact aW _ _
theorem jv (c:CaseV) (f:Int):Pure Tryz.prog 43 [.agg [aA c.inp,ax c.out,ax c.calm],.int .i64 f] (ax (az c f)):=by
  refine Pure.of_c2 follows t0 (Nat.le_of_ble_eq_true rfl) ?_
  simp only [b43,cO,cG,cN,cM,cD,cF,cB,al,aC]
  have hc:=rU c
  have d3:=ce c
  unfold gA at d3
  by_cases h:f=0
  · subst h
    (have zz:=and_self; repeat' (first | refine zW ?_ | apply a_n | apply a_r | refine zO ?_ | refine vZ ?_ | refine cZ ?_ (hp:=hc) | refine bxZ ?_ | (refine zGZ ?_ ?_ <;> (intro _hg; try (exfalso; omega))) | refine ah rfl ?_ | refine r1Z ?_ | fail)) <;> (try clear zz)
    exact aW _ _
  · have e:az c f=c.out:=by unfold az; rw [if_neg (fun k=>h k.1)]
    rw [e]
    (have zz:=and_self; repeat' (first | refine zW ?_ | apply a_n | refine zO ?_ | refine vZ ?_ | refine bxZ ?_ | (refine zGZ ?_ ?_ <;> (intro _hg; try (exfalso; omega))) | refine ah rfl ?_ | refine r1Z ?_ | fail)) <;> (try clear zz)
    exact aW _ _
theorem oB (v w:List Int) (f:Int) (hv:Sh v) (hl:v.length ≤ w.length) (hw:Sh w):Pure Tryz.prog 102 [aA w,.iptr [aA v] 0,.iptr [.int .i64 f] 0] (.bool (bh v w f)):=by
  refine Pure.of_c2 follows rD (Nat.le_of_ble_eq_true rfl) ?_
  simp only [sN,cO,cG,cN,cM,cD,cF,cB,al,aC]
  have hv':v.length ≤ 17592186044416:=hv
  have hw':w.length ≤ 17592186044416:=hw
  (have zz:=and_self; repeat' (first | refine zW ?_ | apply a_n | refine zO ?_ | refine vZ ?_ | fail)) <;> (try clear zz)
  refine gf (fun k=>[(0,aA w),(1,.iptr [aA v] 0),(2,.iptr [.int .i64 f] 0),(7,.int .i64 v.length),(8,.int .i64 k)]) v.length (fun i=>(decide (jp (ja f i)=0) && decide (w.getD i default ≠ v.getD i default))=false) ag0 ?_
  intro k hk h2
  have hno:(decide (jp (ja f k)=0) && decide (w.getD k default ≠ v.getD k default))=true→k < v.length→bh v w f=false:=fun h hk=>by
    unfold bh
    rw [Bool.eq_false_iff,ne_eq,List.all_eq_true]
    intro h'
    have:=h' k (List.mem_range.2 hk)
    rw [h] at this
    exact absurd this (by decide)
  by_cases hk2:k < v.length
  rotate_left
  · have e:bh v w f=true:=by
      unfold bh
      rw [List.all_eq_true]
      intro i hi
      rw [h2 i (by have:=List.mem_range.1 hi; omega)]
      rfl
    rw [e]
    (have zz:=and_self; repeat' (first | refine zW ?_ | apply a_n | apply a_x | refine zO ?_ | refine vZ ?_ | (refine zGZ ?_ ?_ <;> (intro _hg; try (exfalso; omega))) | refine ah rfl ?_ | refine r1Z ?_ | fail)) <;> (try clear zz)
    exact .bool _
  by_cases hA:jp (ja f k)=0
  · by_cases hd:v.getD k default=w.getD k default
    · have z:decide (v.getD k default ≠ w.getD k default)=false:=decide_eq_false (fun h=>h hd)
      (have zz:=aI @nq (aI @kS (aI @hA @z)); repeat' (first | refine zW ?_ | apply a_n | refine zO ?_ | refine vZ ?_ | refine gTZ ?_ | refine cFZ ?_ | (refine zGZ ?_ ?_ <;> (intro _hg; try (exfalso; omega))) | fail)) <;> (try clear zz)
      all_goals exact ⟨hk2,by rw [decide_eq_false (p:=w.getD k default ≠ v.getD k default) (fun h=>h hd.symm),Bool.and_false],ag0,rfl,rfl⟩
    · have z:decide (v.getD k default ≠ w.getD k default)=true:=decide_eq_true hd
      rw [hno (by rw [decide_eq_true hA,decide_eq_true (p:=w.getD k default ≠ v.getD k default) (fun h=>hd h.symm)]; rfl) hk2]
      (have zz:=aI @nq (aI @kS (aI @hA @z)); repeat' (first | refine zW ?_ | apply a_n | apply a_r | refine zO ?_ | refine vZ ?_ | refine gTZ ?_ | refine cTZ ?_ | (refine zGZ ?_ ?_ <;> (intro _hg; try (exfalso; omega))) | refine ah rfl ?_ | refine r1Z ?_ | fail)) <;> (try clear zz)
      all_goals exact .bool _
  · have z:decide (jp (ja f k)=0)=false:=decide_eq_false hA
    (have zz:=aI @nq (aI @kS @z); repeat' (first | refine zW ?_ | apply a_n | refine zO ?_ | refine vZ ?_ | refine gFZ ?_ | refine cFZ ?_ | (refine zGZ ?_ ?_ <;> (intro _hg; try (exfalso; omega))) | fail)) <;> (try clear zz)
    all_goals exact ⟨hk2,by rw [z,Bool.false_and],ag0,rfl,rfl⟩
theorem oH (l:List (List Int)) (v:List Int) (f:Int) (hl:Sh l) (hv:v.length ≤ 17592186044416) (hw:∀ w ∈ l,w.length=v.length):Pure Tryz.prog 44 [ax l,.int .i64 f,aA v] (.bool (l.any fun w=>bh w v f)):=by
  refine Pure.of_c2 follows t3 (Nat.le_of_ble_eq_true rfl) ?_
  simp only [b44,cO,cG,cN,cM,cD,cF,cB,al,aC]
  rw [← pB hw]
  have hA:=gj l (fun w=>bh v w f) 102 [.iptr [aA v] 0,.iptr [.int .i64 f] 0] (fun x hx=>by
    simp only [List.mem_cons,List.not_mem_nil,or_false] at hx
    rcases hx with rfl | rfl
    · exact .iptr (DatL.cons (aK _) DatL.nil)
    · exact .iptr (DatL.cons .int DatL.nil)) (fun w hw2=>oB v w f hv (by rw [hw w hw2]; exact Nat.le_refl _) (by show w.length ≤ _; rw [hw w hw2]; exact hv)) hl
  (have zz:=and_self; repeat' (first | refine zW ?_ | apply a_n | refine zO ?_ | refine vZ ?_ | refine bxZ ?_ | fail)) <;> (try clear zz)
  refine eB ev0 ev0 hA (a7 (by (repeat' (first | exact aG | exact Dat.snap Dat.int | exact Dat.snap Dat.bool | exact Dat.snap Dat.str | exact Dat.snap Dat.esl | exact Dat.snap Dat.nilf | exact Dat.snap (aK _) | exact Dat.snap (aW _) | apply ay | apply d6 | apply d9 | (apply fo; (focus ((try simp only [bb,ZA,reduceEqDiff,↓reduceIte,reduceAdd,reduceLeDiff]); with_reducible rfl)); (focus rfl))))) rfl) ?_
  (have zz:=and_self; repeat' (first | apply a_n | refine zO ?_ | refine vZ ?_ | refine ah rfl ?_ | refine r1Z ?_ | fail)) <;> (try clear zz)
  exact .bool _
theorem rV (a b:TaskV) (ha:∀ c ∈ a.cases,ShC c) (ha2:Sh a.cases) (hb:∀ c ∈ b.cases,ShC c) (hb2:Sh b.cases):Pure Tryz.prog 40 [bi a,bi b] (.int .i64 (c6 a b)):=by
  refine Pure.of_c2 follows va (Nat.le_of_ble_eq_true rfl) ?_
  simp only [b40,cO,cG,cN,cM,cD,cF,cB,al,aC]
  have c1:=nV a ha ha2
  have c2:=nV b hb hb2
  have d1:=bo a
  have d2:=bo b
  unfold c6
  generalize aX a=X at *
  generalize aX b=Y at *
  unfold bi at *
  by_cases hX:X=0
  rotate_left
  · rw [if_pos hX]
    (have zz:=aI @af @ac; repeat' (first | refine zW ?_ | apply a_n | apply a_r | refine zO ?_ | refine vZ ?_ | refine cZ ?_ (hp:=c1) | refine bxZ ?_ | (refine zGZ ?_ ?_ <;> (intro _hg; try (exfalso; omega))) | refine ah rfl ?_ | refine r1Z ?_ | fail)) <;> (try clear zz)
    exact .int _ _
  rw [if_neg (fun h=>h hX)]
  by_cases hY:Y=0
  rotate_left
  · rw [if_pos hY]
    (have zz:=aI @af @ac; repeat' (first | refine zW ?_ | apply a_n | apply a_r | refine zO ?_ | refine vZ ?_ | refine cZ ?_ (hp:=by first | exact c1 | exact c2) | refine bxZ ?_ | (refine zGZ ?_ ?_ <;> (intro _hg; try (exfalso; omega))) | refine ah rfl ?_ | refine r1Z ?_ | fail)) <;> (try clear zz)
    exact .int _ _
  rw [if_neg (fun h=>h hY)]
  by_cases hN:a.n=b.n
  · have z:decide (a.n ≠ b.n)=false:=decide_eq_false (fun h=>h hN)
    rw [if_neg (fun h=>h hN)]
    (have zz:=aI @af (aI @ac @z); repeat' (first | refine zW ?_ | apply a_n | refine zO ?_ | refine vZ ?_ | refine cZ ?_ (hp:=by first | exact c1 | exact c2) | refine bxZ ?_ | refine cFZ ?_ | (refine zGZ ?_ ?_ <;> (intro _hg; try (exfalso; omega))) | refine ah rfl ?_ | refine r1Z ?_ | fail)) <;> (try clear zz)
    exact .int _ _
  · have z:decide (a.n ≠ b.n)=true:=decide_eq_true hN
    rw [if_pos hN]
    (have zz:=aI @af (aI @ac @z); repeat' (first | refine zW ?_ | apply a_n | apply a_r | refine zO ?_ | refine vZ ?_ | refine cZ ?_ (hp:=by first | exact c1 | exact c2) | refine bxZ ?_ | refine cTZ ?_ | (refine zGZ ?_ ?_ <;> (intro _hg; try (exfalso; omega))) | refine ah rfl ?_ | refine r1Z ?_ | fail)) <;> (try clear zz)
    exact .int _ _
theorem ux (a b:TaskV) (ha:∀ c ∈ a.cases,ShC c) (ha2:Sh a.cases) (hb:∀ c ∈ b.cases,ShC c) (hb2:Sh b.cases):Pure Tryz.prog 45 [bi a,bi b] (.int .i64 (c6 a b)):=by
  refine Pure.of_c2 follows v7 (Nat.le_of_ble_eq_true rfl) ?_
  simp only [b45,cO,cG,cN,cM,cD,cF,cB,al,aC]
  have c1:=pU a ha ha2
  have c2:=pU b hb hb2
  have d1:=bo a
  have d2:=bo b
  unfold c6
  generalize aX a=X at *
  generalize aX b=Y at *
  unfold bi at *
  by_cases hX:X=0
  rotate_left
  · rw [if_pos hX]
    (have zz:=aI @af @ac; repeat' (first | refine zW ?_ | apply a_n | apply a_r | refine zO ?_ | refine vZ ?_ | refine cZ ?_ (hp:=c1) | refine bxZ ?_ | (refine zGZ ?_ ?_ <;> (intro _hg; try (exfalso; omega))) | refine ah rfl ?_ | refine r1Z ?_ | fail)) <;> (try clear zz)
    exact .int _ _
  rw [if_neg (fun h=>h hX)]
  by_cases hY:Y=0
  rotate_left
  · rw [if_pos hY]
    (have zz:=aI @af @ac; repeat' (first | refine zW ?_ | apply a_n | apply a_r | refine zO ?_ | refine vZ ?_ | refine cZ ?_ (hp:=by first | exact c1 | exact c2) | refine bxZ ?_ | (refine zGZ ?_ ?_ <;> (intro _hg; try (exfalso; omega))) | refine ah rfl ?_ | refine r1Z ?_ | fail)) <;> (try clear zz)
    exact .int _ _
  rw [if_neg (fun h=>h hY)]
  by_cases hN:a.n=b.n
  · have z:decide (a.n ≠ b.n)=false:=decide_eq_false (fun h=>h hN)
    rw [if_neg (fun h=>h hN)]
    (have zz:=aI @af (aI @ac @z); repeat' (first | refine zW ?_ | apply a_n | refine zO ?_ | refine vZ ?_ | refine cZ ?_ (hp:=by first | exact c1 | exact c2) | refine bxZ ?_ | refine cFZ ?_ | (refine zGZ ?_ ?_ <;> (intro _hg; try (exfalso; omega))) | refine ah rfl ?_ | refine r1Z ?_ | fail)) <;> (try clear zz)
    exact .int _ _
  · have z:decide (a.n ≠ b.n)=true:=decide_eq_true hN
    rw [if_pos hN]
    (have zz:=aI @af (aI @ac @z); repeat' (first | refine zW ?_ | apply a_n | apply a_r | refine zO ?_ | refine vZ ?_ | refine cZ ?_ (hp:=by first | exact c1 | exact c2) | refine bxZ ?_ | refine cTZ ?_ | (refine zGZ ?_ ?_ <;> (intro _hg; try (exfalso; omega))) | refine ah rfl ?_ | refine r1Z ?_ | fail)) <;> (try clear zz)
    exact .int _ _
end Go.Proofs.YtjgpfclngkcedaaGreat
namespace Go.Proofs.YtjgpfclngkcedaaGreat
open Go Go.Abs
open Nat (reduceEqDiff reduceAdd reduceLeDiff)
theorem ey {t:TaskV} {c:CaseV} {f:Int} (h:aX t=0) (hc:c ∈ t.cases):∀ v ∈ az c f,(v.length:Int)=t.n∧v.length ≤ 5:=by
  obtain ⟨i,hi,rfl⟩:=List.getElem_of_mem hc
  intro v hv
  have:=(mY (f:=f) h hi).2 v (by rw [show t.cases.getD i default=t.cases[i] by simp [List.getD,hi]]; exact hv)
  have:=i8 h
  omega
theorem gO {c:CaseV} {f:Int} (h:ShC c):Sh (az c f):=by
  obtain ⟨s1,s2,s3,s4,s5⟩:=h
  unfold az
  split
  · exact s4
  · exact s2
theorem jl {a b:TaskV} (h:∀ i,i < b.cases.length→dX a (b.cases.getD i default)=none):iK a b=none:=cT h
theorem kB {a b:TaskV} {k:Nat} {w:List Int × Int × List Int} (hk:k < b.cases.length) (h:∀ i,i < k→dX a (b.cases.getD i default)=none) (e:dX a (b.cases.getD k default)=some w):iK a b=some w:=ez hk h e
theorem gB {a b:TaskV} (h:c6 a b=0) (hw:iK a b=none):bJ a b=([],0,[],true,0):=by
  unfold bJ; rw [if_neg (fun k=>k h),hw]
theorem go {a b:TaskV} {w:List Int × Int × List Int} (h:c6 a b=0) (hw:iK a b=some w):bJ a b=(w.1,w.2.1,w.2.2,false,0):=by
  unfold bJ; rw [if_neg (fun k=>k h),hw]
theorem ta {n:Int} (h:n ≤ 5):2 ^ n.toNat ≤ 32:=by
  have:2 ^ n.toNat ≤ 2 ^ 5:=Nat.pow_le_pow_right (by omega) (by omega)
  omega
attribute [local irreducible] ak ab aB av am an ai ao aw aD Go.Abs.Fn au Go.Abs.Pure ae aj Yl
set_option maxHeartbeats 2000000 in
theorem nD (a b:TaskV) (ha:∀ c ∈ a.cases,ShC c) (ha2:Sh a.cases) (hb:∀ c ∈ b.cases,ShC c) (hb2:Sh b.cases):Pure Tryz.prog 13 [bi a,bi b] (i0 (bJ a b)):=by
  refine Pure.of_c2 follows tM (Nat.le_of_ble_eq_true rfl) ?_
  simp only [b13,cO,cG,cN,cM,cD,cF,cB,al,aC]
  have hp:=rV a b ha ha2 hb hb2
  have d1:=bo a
  have d2:=bo b
  have hb2':b.cases.length ≤ 17592186044416:=hb2
  by_cases he:c6 a b=0
  rotate_left
  · have e:bJ a b=([],0,[],false,c6 a b):=by unfold bJ; rw [if_pos he]
    rw [e]
    generalize c6 a b=C at *
    unfold bi at *
    (have zz:=aI @af @ac; repeat' (first | refine zW ?_ | apply a_n | apply a_r | refine zO ?_ | refine vZ ?_ | refine cZ ?_ (hp:=hp) | refine bxZ ?_ | (refine zGZ ?_ ?_ <;> (intro _hg; try (exfalso; omega))) | refine ah rfl ?_ | refine r5Z ?_ | fail)) <;> (try clear zz)
    exact i6 (.eslsl 1) (.eslsl 1)
  obtain ⟨ca,cb,hn⟩:=oe he
  rw [he] at hp
  have hfind:=fun v hv=>qC a v ha ha2 hv
  have hN5:=(i8 ca)
  have hsh:=vS false false a.n (by omega) hN5.2
  have hp32:=ta hN5.2
  unfold bi at *
  (have zz:=aI @af (aI @ac @ag); repeat' (first | refine zW ?_ | apply a_n | refine zO ?_ | refine vZ ?_ | refine cZ ?_ (hp:=hp) | refine bxZ ?_ | (refine zGZ ?_ ?_ <;> (intro _hg; try (exfalso; omega))) | fail)) <;> (try clear zz)
  refine fM (X:=Nat) (fun k=>[(2,.ptr 0 4 0),(3,.ptr 1 4 0),(24,bc b.cases),(25,.int .i64 b.cases.length),(26,.int .i64 k)]) (fun k H nx=>k ≤ b.cases.length∧(∀ i,i < k→dX a (b.cases.getD i default)=none)∧2 ≤ nx∧H 0=some [.int .i64 a.n,.int .i64 a.ins,.int .i64 a.outs,bc a.cases]∧H 1=some [.int .i64 b.n,.int .i64 b.ins,.int .i64 b.outs,bc b.cases]) (fun k=>b.cases.length - k) 0 ⟨Nat.zero_le _,fun i h=>absurd h (by omega),Nat.le_refl _,rfl,rfl⟩ (by simp (disch:=omega) only [agr,ZG,reduceEqDiff,↓reduceIte,List.length_cons,List.length_nil,reduceAdd]) ?_
  rintro k H nx ⟨hk,hz,hnx,g0,g1⟩
  by_cases hk2:k < b.cases.length
  rotate_left
  · (have zz:=and_self; repeat' (first | refine zW ?_ | apply a_n | apply a_x | refine zO ?_ | refine vZ ?_ | (refine zGZ ?_ ?_ <;> (intro _hg; try (exfalso; omega))) | refine ah rfl ?_ | refine r5Z ?_ | fail)) <;> (try clear zz)
    rw [gB he (jl fun i hi=>hz i (by omega))]
    exact i6 (.eslsl 1) (.eslsl 1)
  have ix:=aN hk2
  have hm:=aF hk2
  have hshc:=hb _ hm
  have hlens:=fun f=>ey (f:=f) cb hm
  have hfi:=hfind (b.cases.getD k default).inp hshc.1
  have hstr:=fun w=>go (w:=w) he
  have hwk:=fun w=>kB (a:=a) (w:=w) hk2 hz
  have hnext:dX a (b.cases.getD k default)=none→∀ i,i < k + 1→dX a (b.cases.getD i default)=none:=fun h i hi=>by
    rcases Nat.lt_succ_iff_lt_or_eq.1 hi with h' | rfl
    · exact hz i h'
    · exact h
  generalize hc:b.cases.getD k default=c at *
  obtain ⟨inp,out,calm⟩:=c
  dsimp only at *
  have hcl:=mh inp hshc.1
  cases hf:dw a inp with
  | none =>
    have hw:dX a ⟨inp,out,calm⟩=some (inp,0,[]):=by unfold dX; rw [hf]
    rw [hf] at hfi
    have hfi':Pure Tryz.prog 41 [.agg [.int .i64 a.n,.int .i64 a.ins,.int .i64 a.outs,bc a.cases],aA inp] (.tup [.agg [aA [],ax [],ax []],.bool false]):=hfi
    (have zz:=aI @g0 (aI @g1 (aI @af (aI @ac @ix))); repeat' (first | refine zW ?_ | apply a_n | refine zO ?_ | refine vY ?_ | refine cY ?_ (hp:=hfi') | refine alY ?_ | refine stY ?_ | refine cTY ?_ | (refine zGY ?_ ?_ <;> (intro _hg; try (exfalso; omega))) | fail)) <;> (try clear zz)
    refine lu ev0 ev0 hcl (ay (aK _ _) aG) ?_
    (have zz:=aI @g0 @g1; repeat' (first | apply a_n | apply a_r | refine zO ?_ | refine vY ?_ | refine ah rfl ?_ | refine r5Y ?_ | fail)) <;> (try clear zz)
    rw [hstr _ (hwk _ hw)]
    exact i6 (aK _ _) (.eslsl 1)
  | some x =>
    obtain ⟨xm,xi⟩:=j2 hf
    have hxs:=ha _ xm
    rw [hf] at hfi
    have hfi':Pure Tryz.prog 41 [.agg [.int .i64 a.n,.int .i64 a.ins,.int .i64 a.outs,bc a.cases],aA inp] (.tup [.agg [aA x.inp,ax x.out,ax x.calm],.bool true]):=hfi
    (have zz:=aI @g0 (aI @g1 (aI @af (aI @ac (aI @ix @hsh)))); repeat' (first | refine zW ?_ | apply a_n | refine zO ?_ | refine vY ?_ | refine cY ?_ (hp:=hfi') | refine alY ?_ | refine stY ?_ | refine cFY ?_ | (refine zGY ?_ ?_ <;> (intro _hg; try (exfalso; omega))) | fail)) <;> (try clear zz)
    refine fM (X:=Nat) (fun f=>[(2,.ptr 0 4 0),(3,.ptr 1 4 0),(24,bc b.cases),(25,.int .i64 b.cases.length),(26,.int .i64 k),(11,.ptr nx 3 0),(12,.ptr (nx + 1) 3 0),(44,.int .i64 (2 ^ a.n.toNat:Nat)),(45,.int .i64 (f:Nat))]) (fun f H' nx'=>f ≤ 2 ^ a.n.toNat∧(∀ g:Nat,g < f→∀ i,i < (az x g).length→dH ⟨inp,out,calm⟩ g ((az x g).getD i default)=true)∧nx'=nx + 2∧H' 0=some [.int .i64 a.n,.int .i64 a.ins,.int .i64 a.outs,bc a.cases]∧H' 1=some [.int .i64 b.n,.int .i64 b.ins,.int .i64 b.outs,bc b.cases]∧H' nx=some [aA inp,ax out,ax calm]∧H' (nx + 1)=some [aA x.inp,ax x.out,ax x.calm]) (fun f=>2 ^ a.n.toNat - f) 0 ⟨Nat.zero_le _,fun g h=>absurd h (by omega),by omega,by rw [aV (by omega),aV (by omega),aV (by omega),aV (by omega),g0],by rw [aV (by omega),aV (by omega),aV (by omega),aV (by omega),g1],by rw [aV (by omega),aV (by omega),bU]; rfl,by rw [bU]; rfl⟩ (by simp (disch:=omega) only [agr,ZG,reduceEqDiff,↓reduceIte,List.length_cons,List.length_nil,reduceAdd,Nat.zero_add]) ?_
    clear g0 g1
    rintro f H1 nx1 ⟨hf1,hfz,rfl,g0,g1,g2,g3⟩
    have hd:decide ((f:Int) < ((2 ^ a.n.toNat:Nat):Int))=decide (f < 2 ^ a.n.toNat):=decide_eq_decide.2 (by omega)
    by_cases hf2:f < 2 ^ a.n.toNat
    rotate_left
    · rw [decide_eq_false hf2] at hd
      (have zz:=@hd; repeat' (first | refine zW ?_ | apply a_n | apply a_x | refine zO ?_ | refine vY ?_ | refine cFY ?_ | fail)) <;> (try clear zz)
      exact ⟨k + 1,by omega,⟨by omega,hnext (oQ hf fun g hg=>hfz g (by omega)),by omega,g0,g1⟩,ag0⟩
    rw [decide_eq_true hf2] at hd
    have hv1:=jv x f
    have hv2:=jv ⟨inp,out,calm⟩ f
    dsimp only at hv2
    have dx:=ce x
    have dc:=ce ⟨inp,out,calm⟩
    unfold gA at dx dc
    dsimp only at dc
    have hLx:=ey (f:=f) ca xm
    have hLs:(az x f).length ≤ 17592186044416:=gO hxs
    have hLc:=hlens f
    have hLcs:=gO (f:=f) hshc
    have hhit:=fun j hj hz e=>pD (a:=a) (c:=⟨inp,out,calm⟩) (x:=x) (f:=f) (k:=j) hf hfz hf2 hj hz e
    have hfnext:(∀ i,i < (az x f).length→dH ⟨inp,out,calm⟩ f ((az x f).getD i default)=true)→∀ g:Nat,g < f + 1→∀ i,i < (az x g).length→dH ⟨inp,out,calm⟩ g ((az x g).getD i default)=true:=fun h g hg=>by
      rcases Nat.lt_succ_iff_lt_or_eq.1 hg with h' | rfl
      · exact hfz g h'
      · exact h
    have hmay:∀ v,dH ⟨inp,out,calm⟩ f v=(az ⟨inp,out,calm⟩ f).any fun w=>bh w v f:=fun v=>rfl
    generalize hL:az x f=L at *
    generalize hM:az ⟨inp,out,calm⟩ f=M at *
    (have zz:=aI @hd (aI @g2 @g3); repeat' (first | refine zW ?_ | apply a_n | refine zO ?_ | refine vY ?_ | refine cY ?_ (hp:=hv1) | refine cTY ?_ | fail)) <;> (try clear zz)
    refine fM (X:=Nat) (fun j=>[(2,.ptr 0 4 0),(3,.ptr 1 4 0),(24,bc b.cases),(25,.int .i64 b.cases.length),(26,.int .i64 k),(11,.ptr nx 3 0),(12,.ptr (nx + 1) 3 0),(44,.int .i64 (2 ^ a.n.toNat:Nat)),(45,.int .i64 (f:Nat)),(14,.int .i64 (f:Nat)),(50,ax L),(51,.int .i64 L.length),(52,.int .i64 j)]) (fun j H' nx'=>j ≤ L.length∧(∀ i,i < j→dH ⟨inp,out,calm⟩ f (L.getD i default)=true)∧nx'=nx + 2∧H'=H1) (fun j=>L.length - j) 0 ⟨Nat.zero_le _,fun i h=>absurd h (by omega),rfl,rfl⟩ ag0 ?_
    rintro j _ _ ⟨hj1,hjz,rfl,rfl⟩
    by_cases hj2:j < L.length
    rotate_left
    · (have zz:=and_self; repeat' (first | refine zW ?_ | apply a_n | apply a_x | refine zO ?_ | refine vZ ?_ | (refine zGZ ?_ ?_ <;> (intro _hg; try (exfalso; omega))) | fail)) <;> (try clear zz)
      exact ⟨f + 1,by omega,⟨by omega,hfnext fun i hi=>hjz i (by omega),rfl,g0,g1,g2,g3⟩,ag0⟩
    have hvm:=aF hj2
    have hag:=oH M (L.getD j default) f hLcs (by have:=hLx _ hvm; omega) (fun w hw=>by have:=hLx _ hvm; have:=hLc w hw; omega)
    rw [← hmay] at hag
    have hcl2:=mh (L.getD j default) (by have:=hLx _ hvm; show _ ≤ _; omega)
    cases hb2:dH ⟨inp,out,calm⟩ f (L.getD j default)
    · rw [hb2] at hag
      (have zz:=aI @g2 @g3; repeat' (first | refine zW ?_ | apply a_n | refine zO ?_ | refine vY ?_ | refine cY ?_ (hp:=by first | exact hv2 | exact hag) | refine cTY ?_ | (refine zGY ?_ ?_ <;> (intro _hg; try (exfalso; omega))) | fail)) <;> (try clear zz)
      refine lu ev0 ev0 hcl (ay (aK _ _) aG) ?_
      (have zz:=and_self; repeat' (first | apply a_n | refine zO ?_ | refine vY ?_ | fail)) <;> (try clear zz)
      refine lu ev0 ev0 hcl2 (ay (aK _ _) aG) ?_
      (have zz:=and_self; repeat' (first | apply a_n | apply a_r | refine zO ?_ | refine vY ?_ | refine ah rfl ?_ | refine r5Y ?_ | fail)) <;> (try clear zz)
      rw [hstr _ (hwk _ (hhit j hj2 hjz hb2))]
      exact i6 (aK _ _) (aK _ _)
    · rw [hb2] at hag
      (have zz:=aI @g2 @g3; repeat' (first | refine zW ?_ | apply a_n | refine zO ?_ | refine vY ?_ | refine cY ?_ (hp:=by first | exact hv2 | exact hag) | refine cFY ?_ | (refine zGY ?_ ?_ <;> (intro _hg; try (exfalso; omega))) | fail)) <;> (try clear zz)
      refine ⟨j + 1,by omega,⟨by omega,fun i hi=>?_,rfl,rfl⟩,ag0⟩
      rcases Nat.lt_succ_iff_lt_or_eq.1 hi with h' | rfl
      · exact hjz i h'
      · exact hb2
end Go.Proofs.YtjgpfclngkcedaaGreat
namespace Go.Proofs.YtjgpfclngkcedaaGreat
open Go Go.Abs
open Nat (reduceEqDiff reduceAdd reduceLeDiff)
def vT (w:List Int × Int × List Int):AV:=.agg [aA w.1,.int .i64 w.2.1,aA w.2.2]
def rb (o:Option (List Int × Int × List Int)):AV:=.tup [vT (o.getD ([],0,[])),.bool o.isSome]
theorem qt {H:Hp}:Snap H (.tup [.agg [.esl,.int .i64 0,.esl],.bool false]) (rb none):=eU (ay (jx (ay (.eslsl 1) (ay (.int _ _) (ay (.eslsl 1) aG)))) (ay (.bool _) aG))
theorem pV {H:Hp} {i o:List Int} {f:Int} {x y:AV} (hx:Snap H x (aA i)) (hy:Snap H y (aA o)):Snap H (.tup [.agg [x,.int .i64 f,y],.bool true]) (rb (some (i,f,o))):=eU (ay (jx (ay hx (ay (.int _ _) (ay hy aG)))) (ay (.bool _) aG))
def oM (n:Int) (x c:CaseV):Option (List Int × Int × List Int):=(List.range (2 ^ n.toNat)).findSome? fun (f:Nat)=>((az x (f:Int)).find? fun v=>!dH c (f:Int) v).map fun v=>(c.inp,(f:Int),v)
theorem pO {a:TaskV} {c x:CaseV} (h:dw a c.inp=some x):dX a c=oM a.n x c:=by unfold dX oM; rw [h]
theorem pm {n:Int} {x c:CaseV} (hz:∀ f:Nat,f < 2 ^ n.toNat→∀ i,i < (az x f).length→dH c f ((az x f).getD i default)=true):oM n x c=none:=by
  refine cT fun i hi=>?_
  rw [List.length_range] at hi
  rw [cQ hi,Option.map_eq_none_iff]
  refine eb fun j hj=>?_
  rw [hz i hi j hj]; rfl
theorem pC {n:Int} {x c:CaseV} {f k:Nat} (hz:∀ g:Nat,g < f→∀ i,i < (az x g).length→dH c g ((az x g).getD i default)=true) (hf:f < 2 ^ n.toNat) (hk:k < (az x f).length) (hi:∀ i,i < k→dH c f ((az x f).getD i default)=true) (e:dH c f ((az x f).getD k default)=false):oM n x c=some (c.inp,(f:Int),(az x f).getD k default):=by
  refine ez (k:=f) (by rw [List.length_range]; exact hf) (fun g hg=>?_) ?_
  · rw [cQ (by omega),Option.map_eq_none_iff]
    refine eb fun j hj=>?_
    rw [hz g hg j hj]; rfl
  · rw [cQ hf,mC hk (fun i h=>by rw [hi i h]; rfl) (by rw [e]; rfl)]
    rfl
attribute [local irreducible] ak ab aB av am an ai ao aw aD Go.Abs.Fn au Go.Abs.Pure ae aj Yl
theorem nj (n:Int) (x c:CaseV) (h1:1 ≤ n) (h5:n ≤ 5) (hx:ShC x) (hc:ShC c) (hxl:∀ f,∀ v ∈ az x f,v.length ≤ 5∧(v.length:Int)=n) (hcl:∀ f,∀ v ∈ az c f,v.length ≤ 5∧(v.length:Int)=n):Pure Tryz.prog 103 [.int .i64 n,.agg [aA x.inp,ax x.out,ax x.calm],.agg [aA c.inp,ax c.out,ax c.calm]] (rb (oM n x c)):=by
  refine Pure.of_c2 follows uy (Nat.le_of_ble_eq_true rfl) ?_
  simp only [sZ,cO,cG,cN,cM,cD,cF,cB,al,aC]
  have hful:=so n.toNat (by omega)
  have hp32:=ta h5
  have hpos:1 ≤ 2 ^ n.toNat:=Nat.pow_pos (by omega)
  rw [show ((n.toNat:Nat):Int)=n by omega] at hful
  generalize hW:2 ^ n.toNat=W at *
  (have zz:=and_self; repeat' (first | refine zW ?_ | apply a_n | refine zO ?_ | refine vZ ?_ | refine alZ ?_ | refine bxZ ?_ | fail)) <;> (try clear zz)
  refine fM (X:=Nat) (fun f=>[(0,.int .i64 n),(4,.ptr 0 3 0),(5,.ptr 1 3 0),(6,.ptr 2 3 0),(8,.int .i64 (f:Nat))]) (fun f H nx=>f ≤ W∧(∀ g:Nat,g < f→∀ i,i < (az x g).length→dH c g ((az x g).getD i default)=true)∧nx=3∧H 0=some [aA x.inp,ax x.out,ax x.calm]∧H 1=some [aA c.inp,ax c.out,ax c.calm]∧H 2=some [.esl,.int .i64 0,.esl]) (fun f=>W - f) 0 ⟨Nat.zero_le _,fun g h=>absurd h (by omega),rfl,rfl,rfl,rfl⟩ (by simp (disch:=omega) only [agr,ZG,reduceEqDiff,↓reduceIte,List.length_cons,List.length_nil,reduceAdd,Nat.zero_add]) ?_
  rintro f H nx ⟨hf1,hfz,rfl,g0,g1,g2⟩
  have hd:decide ((f:Int) ≤ (W:Int) - 1)=decide (f < W):=decide_eq_decide.2 (by omega)
  by_cases hf2:f < W
  rotate_left
  · rw [decide_eq_false hf2] at hd
    (have zz:=aI @hd @g2; repeat' (first | refine zW ?_ | apply a_n | apply a_x | refine zO ?_ | refine vY ?_ | refine cY ?_ (hp:=hful) | refine stY ?_ | refine cFY ?_ | refine ah rfl ?_ | refine r2Y ?_ | fail)) <;> (try clear zz)
    rw [pm fun g hg=>hfz g (by omega)]
    exact qt
  rw [decide_eq_true hf2] at hd
  have hv1:=jG x f
  have dx:=ce x
  have dc:=ce c
  unfold gA at dx dc
  have hLx:=hxl f
  have hLs:(az x f).length ≤ 17592186044416:=gO hx
  have hLc:=hcl f
  have hLcs:=gO (f:=f) hc
  have hhit:=fun j hj hz e=>pC (n:=n) (c:=c) (x:=x) (f:=f) (k:=j) hfz (by rw [hW]; exact hf2) hj hz e
  have hfnext:(∀ i,i < (az x f).length→dH c f ((az x f).getD i default)=true)→∀ g:Nat,g < f + 1→∀ i,i < (az x g).length→dH c g ((az x g).getD i default)=true:=fun h g hg=>by
    rcases Nat.lt_succ_iff_lt_or_eq.1 hg with h' | rfl
    · exact hfz g h'
    · exact h
  have hmay:=fun (v:List Int) (h:∀ w ∈ az c f,w.length ≤ v.length)=>sj c v f hLcs (fun w hw=>by have:=hLc w hw; exact ⟨by omega,h w hw⟩)
  have hmayV:∀ v,((az c f).any fun w=>bh w v f)=dH c f v:=fun v=>rfl
  generalize hL:az x f=L at *
  (have zz:=aI @hd (aI @g0 (aI @g1 @g2)); repeat' (first | refine zW ?_ | apply a_n | refine zO ?_ | refine vY ?_ | refine cY ?_ (hp:=by first | exact hful | exact hv1) | refine cTY ?_ | fail)) <;> (try clear zz)
  refine fM (X:=Nat) (fun j=>[(0,.int .i64 n),(4,.ptr 0 3 0),(5,.ptr 1 3 0),(6,.ptr 2 3 0),(8,.int .i64 (f:Nat)),(9,ax L),(10,.int .i64 j)]) (fun j H' nx'=>j ≤ L.length∧(∀ i,i < j→dH c f (L.getD i default)=true)∧nx'=3∧H'=H) (fun j=>L.length - j) 0 ⟨Nat.zero_le _,fun i h=>absurd h (by omega),rfl,rfl⟩ ag0 ?_
  rintro j _ _ ⟨hj1,hjz,rfl,rfl⟩
  by_cases hj2:j < L.length
  rotate_left
  · (have zz:=and_self; repeat' (first | refine zW ?_ | apply a_n | apply a_x | refine zO ?_ | refine vY ?_ | (refine zGY ?_ ?_ <;> (intro _hg; try (exfalso; omega))) | fail)) <;> (try clear zz)
    exact ⟨f + 1,by omega,⟨by omega,hfnext fun i hi=>hjz i (by omega),rfl,g0,g1,g2⟩,ag0⟩
  have hvm:=aF hj2
  have hag:=hmay (L.getD j default) (fun w hw=>by have:=hLx _ hvm; have:=hLc w hw; omega) (by have:=hLx _ hvm; show _ ≤ _; omega) (by omega) (by omega)
  rw [hmayV] at hag
  cases hb2:dH c f (L.getD j default)
  · rw [hb2] at hag
    (have zz:=aI @g0 (aI @g1 @g2); repeat' (first | refine zW ?_ | refine zM ?_ | apply a_n | apply a_r | refine zO ?_ | refine vY ?_ | refine cY ?_ (hp:=hag) | refine stY ?_ | refine cTY ?_ | (refine zGY ?_ ?_ <;> (intro _hg; try (exfalso; omega))) | refine ah rfl ?_ | refine r2Y ?_ | fail)) <;> (try clear zz)
    rw [hhit j hj2 hjz hb2]
    exact pV (aK _ _) (aK _ _)
  · rw [hb2] at hag
    (have zz:=aI @g0 (aI @g1 @g2); repeat' (first | refine zW ?_ | refine zM ?_ | apply a_n | refine zO ?_ | refine vY ?_ | refine cY ?_ (hp:=hag) | refine cFY ?_ | (refine zGY ?_ ?_ <;> (intro _hg; try (exfalso; omega))) | fail)) <;> (try clear zz)
    refine ⟨j + 1,by omega,⟨by omega,fun i hi=>?_,rfl,rfl⟩,ag0⟩
    rcases Nat.lt_succ_iff_lt_or_eq.1 hi with h' | rfl
    · exact hjz i h'
    · exact hb2
set_option maxHeartbeats 1000000 in
theorem qD (a b:TaskV) (ha:∀ c ∈ a.cases,ShC c) (ha2:Sh a.cases) (hb:∀ c ∈ b.cases,ShC c) (hb2:Sh b.cases) (he:c6 a b=0):Pure Tryz.prog 46 [bi a,bi b] (rb (iK a b)):=by
  refine Pure.of_c2 follows vN (Nat.le_of_ble_eq_true rfl) ?_
  simp only [b46,cO,cG,cN,cM,cD,cF,cB,al,aC]
  obtain ⟨ca,cb,hn⟩:=oe he
  have d1:=bo a
  have d2:=bo b
  have hb2':b.cases.length ≤ 17592186044416:=hb2
  have ha2':a.cases.length ≤ 17592186044416:=ha2
  have hidx:=fun v hv=>sK a v ha ha2 hv
  have hN5:=i8 ca
  have hcmp:=fun x hx c hc hsx hsc=>nj a.n x c hN5.1 hN5.2 hsx hsc (fun f v hv=>by have:=ey (f:=f) ca (c:=x) hx v hv; omega) (fun f v hv=>by have:=ey (f:=f) cb (c:=c) hc v hv; omega)
  unfold bi at *
  (have zz:=aI @af (aI @ac @ag); repeat' (first | refine zW ?_ | apply a_n | refine zO ?_ | refine vZ ?_ | refine alZ ?_ | refine bxZ ?_ | fail)) <;> (try clear zz)
  refine fM (X:=Nat) (fun k=>[(2,.ptr 0 4 0),(3,.ptr 1 4 0),(4,.ptr 2 3 0),(6,.int .i64 k)]) (fun k H nx=>k ≤ b.cases.length∧(∀ i,i < k→dX a (b.cases.getD i default)=none)∧3 ≤ nx∧H 0=some [.int .i64 a.n,.int .i64 a.ins,.int .i64 a.outs,bc a.cases]∧H 1=some [.int .i64 b.n,.int .i64 b.ins,.int .i64 b.outs,bc b.cases]∧H 2=some [.esl,.int .i64 0,.esl]) (fun k=>b.cases.length - k) 0 ⟨Nat.zero_le _,fun i h=>absurd h (by omega),Nat.le_refl _,rfl,rfl,rfl⟩ (by simp (disch:=omega) only [agr,ZG,reduceEqDiff,↓reduceIte,List.length_cons,List.length_nil,reduceAdd]) ?_
  rintro k H nx ⟨hk,hz,hnx,g0,g1,g2⟩
  by_cases hk2:k < b.cases.length
  rotate_left
  · (have zz:=aI @g0 (aI @g1 (aI @g2 @ag)); repeat' (first | refine zW ?_ | apply a_n | apply a_x | refine zO ?_ | refine vY ?_ | refine stY ?_ | (refine zGY ?_ ?_ <;> (intro _hg; try (exfalso; omega))) | refine ah rfl ?_ | refine r2Y ?_ | fail)) <;> (try clear zz)
    rw [jl fun i hi=>hz i (by omega)]
    exact qt
  have ix:=aN hk2
  have hm:=aF hk2
  have hshc:=hb _ hm
  have hwk:=fun w=>kB (a:=a) (w:=w) hk2 hz
  have hnext:dX a (b.cases.getD k default)=none→∀ i,i < k + 1→dX a (b.cases.getD i default)=none:=fun h i hi=>by
    rcases Nat.lt_succ_iff_lt_or_eq.1 hi with h' | rfl
    · exact hz i h'
    · exact h
  have hfi:=hidx (b.cases.getD k default).inp hshc.1
  have hcm:=fun x hx hsx=>hcmp x hx _ hm hsx hshc
  generalize hc:b.cases.getD k default=c at *
  by_cases hmem:c.inp ∈ a.cases.map CaseV.inp
  rotate_left
  · rw [if_neg hmem] at hfi
    have hf:dw a c.inp=none:=by unfold dw; rw [if_neg hmem]
    have hw:dX a c=some (c.inp,0,[]):=by unfold dX; rw [hf]
    rw [hwk _ hw]
    (have zz:=aI @g0 (aI @g1 (aI @g2 (aI @af (aI @ac (aI @ag @ix))))); repeat' (first | refine zW ?_ | refine zM ?_ | apply a_n | apply a_r | refine zO ?_ | refine vY ?_ | refine cY ?_ (hp:=hfi) | refine stY ?_ | (refine zGY ?_ ?_ <;> (intro _hg; try (exfalso; omega))) | refine ah rfl ?_ | refine r2Y ?_ | fail)) <;> (try clear zz)
    exact pV (aK _ _) (.eslsl 1)
  · rw [if_pos hmem] at hfi
    have hf:dw a c.inp=some (a.cases.getD (ga a c.inp) default):=by unfold dw; rw [if_pos hmem]
    have hq:=ly hmem
    have hw:=pO hf
    have hcx:=hcm _ (aF hq) (ha _ (aF hq))
    have iq:=aN hq
    have dx:=ce (a.cases.getD (ga a c.inp) default)
    have dc:=ce c
    unfold gA at dx dc
    generalize a.cases.getD (ga a c.inp) default=x at *
    generalize ga a c.inp=q at *
    cases ho:oM a.n x c with
    | none =>
      rw [ho] at hcx hw
      have hcx':Pure Tryz.prog 103 [.int .i64 a.n,.agg [aA x.inp,ax x.out,ax x.calm],.agg [aA c.inp,ax c.out,ax c.calm]] (.tup [.agg [aA [],.int .i64 0,aA []],.bool false]):=hcx
      (have zz:=aI @g0 (aI @g1 (aI @g2 (aI @af (aI @ac (aI @ag (aI @ix @iq)))))); repeat' (first | refine zW ?_ | refine zM ?_ | apply a_n | refine zO ?_ | refine vY ?_ | refine cY ?_ (hp:=by first | exact hfi | exact hcx') | refine alY ?_ | refine stY ?_ | refine cFY ?_ | (refine zGY ?_ ?_ <;> (intro _hg; try (exfalso; omega))) | fail)) <;> (try clear zz)
      refine ⟨k + 1,by omega,⟨by omega,hnext hw,by omega,?_,?_,?_⟩,ag0⟩
      · rw [aV (by omega),aV (by omega),g0]
      · rw [aV (by omega),aV (by omega),g1]
      · rw [aV (by omega),aV (by omega),g2]
    | some w =>
      rw [ho] at hcx hw
      have hcx':Pure Tryz.prog 103 [.int .i64 a.n,.agg [aA x.inp,ax x.out,ax x.calm],.agg [aA c.inp,ax c.out,ax c.calm]] (.tup [.agg [aA w.1,.int .i64 w.2.1,aA w.2.2],.bool true]):=hcx
      rw [hwk _ hw]
      (have zz:=aI @g0 (aI @g1 (aI @g2 (aI @af (aI @ac (aI @ag (aI @ix @iq)))))); repeat' (first | refine zW ?_ | refine zM ?_ | apply a_n | apply a_r | refine zO ?_ | refine vY ?_ | refine cY ?_ (hp:=by first | exact hfi | exact hcx') | refine alY ?_ | refine stY ?_ | refine cTY ?_ | (refine zGY ?_ ?_ <;> (intro _hg; try (exfalso; omega))) | refine ah rfl ?_ | refine r2Y ?_ | fail)) <;> (try clear zz)
      exact pV (aK _ _) (aK _ _)
theorem oL (a b:TaskV) (ha:∀ c ∈ a.cases,ShC c) (ha2:Sh a.cases) (hb:∀ c ∈ b.cases,ShC c) (hb2:Sh b.cases):Pure Tryz.prog 14 [bi a,bi b] (i0 (bJ a b)):=by
  refine Pure.of_c2 follows ww (Nat.le_of_ble_eq_true rfl) ?_
  simp only [b14,cO,cG,cN,cM,cD,cF,cB,al,aC]
  have hp:=ux a b ha ha2 hb hb2
  have d1:=bo a
  have d2:=bo b
  by_cases he:c6 a b=0
  rotate_left
  · have e:bJ a b=([],0,[],false,c6 a b):=by unfold bJ; rw [if_pos he]
    rw [e]
    generalize c6 a b=C at *
    unfold bi at *
    (have zz:=aI @af @ac; repeat' (first | refine zW ?_ | apply a_n | apply a_r | refine zO ?_ | refine vZ ?_ | refine cZ ?_ (hp:=hp) | refine bxZ ?_ | (refine zGZ ?_ ?_ <;> (intro _hg; try (exfalso; omega))) | refine ah rfl ?_ | refine r5Z ?_ | fail)) <;> (try clear zz)
    exact i6 (.eslsl 1) (.eslsl 1)
  have hw:=qD a b ha ha2 hb hb2 he
  rw [he] at hp
  cases ho:iK a b with
  | none =>
    rw [gB he ho]
    rw [ho] at hw
    have hw':Pure Tryz.prog 46 [bi a,bi b] (.tup [.agg [aA [],.int .i64 0,aA []],.bool false]):=hw
    unfold bi at *
    (have zz:=aI @af @ac; repeat' (first | refine zW ?_ | apply a_n | refine zO ?_ | refine vZ ?_ | refine cZ ?_ (hp:=by first | exact hp | exact hw') | refine alZ ?_ | refine bxZ ?_ | refine stZ ?_ | refine cFZ ?_ | (refine zGZ ?_ ?_ <;> (intro _hg; try (exfalso; omega))) | refine ah rfl ?_ | refine r5Z ?_ | fail)) <;> (try clear zz)
    exact i6 (.eslsl 1) (.eslsl 1)
  | some w =>
    rw [go he ho]
    rw [ho] at hw
    have hw':Pure Tryz.prog 46 [bi a,bi b] (.tup [.agg [aA w.1,.int .i64 w.2.1,aA w.2.2],.bool true]):=hw
    unfold bi at *
    (have zz:=aI @af @ac; repeat' (first | refine zW ?_ | apply a_n | apply a_r | refine zO ?_ | refine vZ ?_ | refine cZ ?_ (hp:=by first | exact hp | exact hw') | refine alZ ?_ | refine bxZ ?_ | refine stZ ?_ | refine cTZ ?_ | (refine zGZ ?_ ?_ <;> (intro _hg; try (exfalso; omega))) | refine ah rfl ?_ | refine r5Z ?_ | fail)) <;> (try clear zz)
    exact i6 (aK _ _) (aK _ _)
end Go.Proofs.YtjgpfclngkcedaaGreat
namespace Go.Proofs.YtjgpfclngkcedaaGreat
open Go Go.Abs
def _root_.List.c3 {α:Type} (l:List α) (f:α→AV):List AV:=l.flatMap fun x=>(f x).cells
structure Cmp3 {α:Type} (P:Program) (f:α→AV) (K:α→α→Int) (G:α→Prop) (g:Nat) (caps:List AV):Prop where
  len:∀ x,(f x).cells.length=3
  agg:∀ x,AV.agg (f x).cells=f x
  ones:∀ x,AV.ones (f x).cells=true
  dat:∀ x,Dat (f x)
  dcaps:∀ x ∈ caps,Dat x
  run:∀ x y,G x→G y→Go.Abs.Pure P g (f x :: f y :: caps) (.int .i64 (K x y))
  ord:Ord K
section
variable {α:Type} {f:α→AV} (h:∀ x,(f x).cells.length=3)
include h
end
section
variable {α:Type} [Inhabited α] {f:α→AV} {K:α→α→Int} {G:α→Prop} {g:Nat} {caps:List AV}
attribute [local irreducible] ak ab aB av am an ai ao aw aD Go.Abs.Fn au Go.Abs.Pure ae aj Yl
end
end Go.Proofs.YtjgpfclngkcedaaGreat
namespace Go.Proofs.YtjgpfclngkcedaaGreat
open Go Go.Abs
section
variable {α:Type} [Inhabited α] {f:α→AV} {K:α→α→Int} {G:α→Prop} {g:Nat} {caps:List AV}
attribute [local irreducible] ak ab aB av am an ai ao aw aD Go.Abs.Fn au Go.Abs.Pure ae aj Yl
end
end Go.Proofs.YtjgpfclngkcedaaGreat
namespace Go.Proofs.YtjgpfclngkcedaaGreat
open Go Go.Abs
open Nat (reduceEqDiff reduceAdd reduceLeDiff)
section
variable {α:Type} [Inhabited α] {f:α→AV} {K:α→α→Int} {G:α→Prop} {g:Nat} {caps:List AV}
attribute [local irreducible] ak ab aB av am an ai ao aw aD Go.Abs.Fn au Go.Abs.Pure ae aj Yl
end
end Go.Proofs.YtjgpfclngkcedaaGreat
namespace Go.Proofs.YtjgpfclngkcedaaGreat
open Go Go.Abs
section
variable {α:Type} [Inhabited α] {f:α→AV} {K:α→α→Int} {G:α→Prop} {g:Nat} {caps:List AV}
attribute [local irreducible] ak ab aB av am an ai ao aw aD Go.Abs.Fn au Go.Abs.Pure ae aj Yl
end
end Go.Proofs.YtjgpfclngkcedaaGreat
namespace Go.Proofs.YtjgpfclngkcedaaGreat
open Go Go.Abs
section
variable {α:Type} [Inhabited α] {f:α→AV} {K:α→α→Int} {G:α→Prop} {g:Nat} {caps:List AV}
attribute [local irreducible] ak ab aB av am an ai ao aw aD Go.Abs.Fn au Go.Abs.Pure ae aj Yl
end
end Go.Proofs.YtjgpfclngkcedaaGreat
namespace Go.Proofs.YtjgpfclngkcedaaGreat
open Go Go.Abs
section
variable {α:Type} [Inhabited α] {f:α→AV} {K:α→α→Int} {G:α→Prop} {g:Nat} {caps:List AV}
attribute [local irreducible] ak ab aB av am an ai ao aw aD Go.Abs.Fn au Go.Abs.Pure ae aj Yl
end
end Go.Proofs.YtjgpfclngkcedaaGreat
namespace Go.Proofs.YtjgpfclngkcedaaGreat
open Go Go.Abs
section
variable {α:Type} [Inhabited α] {f:α→AV} {K:α→α→Int} {G:α→Prop} {g:Nat} {caps:List AV}
attribute [local irreducible] ak ab aB av am an ai ao aw aD Go.Abs.Fn au Go.Abs.Pure ae aj Yl
end
end Go.Proofs.YtjgpfclngkcedaaGreat
namespace Go.Proofs.YtjgpfclngkcedaaGreat
open Go Go.Abs
open Nat (reduceEqDiff reduceAdd reduceLeDiff)
section
variable {α:Type} [Inhabited α] {f:α→AV} {K:α→α→Int} {G:α→Prop} {g:Nat} {caps:List AV}
attribute [local irreducible] ak ab aB av am an ai ao aw aD Go.Abs.Fn au Go.Abs.Pure ae aj Yl
end
end Go.Proofs.YtjgpfclngkcedaaGreat
namespace Go.Proofs.YtjgpfclngkcedaaGreat
open Go Go.Abs
section
variable {α:Type} [Inhabited α] {f:α→AV} {K:α→α→Int} {G:α→Prop} {g:Nat} {caps:List AV}
attribute [local irreducible] ak ab aB av am an ai ao aw aD Go.Abs.Fn au Go.Abs.Pure ae aj Yl
end
end Go.Proofs.YtjgpfclngkcedaaGreat
namespace Go.Proofs.YtjgpfclngkcedaaGreat
open Go Go.Abs
open Nat (reduceEqDiff reduceAdd reduceLeDiff)
section
variable {α:Type} [Inhabited α] {f:α→AV} {K:α→α→Int} {G:α→Prop} {g:Nat} {caps:List AV}
attribute [local irreducible] ak ab aB av am an ai ao aw aD Go.Abs.Fn au Go.Abs.Pure ae aj Yl
end
end Go.Proofs.YtjgpfclngkcedaaGreat
namespace Go.Proofs.YtjgpfclngkcedaaGreat
open Go Go.Abs
open Nat (reduceEqDiff reduceAdd reduceLeDiff)
def uX (l:List Int) (i:Nat):Int:=if l.getD i default < 0 ∨ (l.length:Int) ≤ l.getD i default then 2 else if (l.take i).any (fun x=>decide (x=l.getD i default)) then 7 else 0
def rk (l:List Int):Int:=if l.length < 1 ∨ 5 < l.length then 2 else bg (uX l) l.length
attribute [local irreducible] ak ab aB av am an ai ao aw aD Go.Abs.Fn au Go.Abs.Pure ae aj Yl
end Go.Proofs.YtjgpfclngkcedaaGreat
namespace Go.Proofs.YtjgpfclngkcedaaGreat
open Go Go.Abs
open Nat (reduceEqDiff reduceAdd reduceLeDiff)
section
variable {α:Type} [Inhabited α] {K:α→α→Int}
def iZ (K:α→α→Int) (l:List α):Prop:=l.Pairwise fun x y=>¬ K y x < 0
theorem iZ.of {l:List α} (h:aZ K 0 l.length l):iZ K l:=by
  unfold iZ
  rw [List.pairwise_iff_getElem]
  intro i j hi hj hij
  have:=h i j (Nat.zero_le _) hij hj
  simpa [List.getD,hi,hj] using this
end
attribute [local irreducible] ak ab aB av am an ai ao aw aD Go.Abs.Fn au Go.Abs.Pure ae aj Yl
end Go.Proofs.YtjgpfclngkcedaaGreat
namespace Go.Proofs.YtjgpfclngkcedaaGreat
open Go Go.Abs
open Nat (reduceEqDiff reduceAdd reduceLeDiff)
attribute [local irreducible] ak ab aB av am an ai ao aw aD Go.Abs.Fn au Go.Abs.Pure ae aj Yl
end Go.Proofs.YtjgpfclngkcedaaGreat
namespace Go.Proofs.YtjgpfclngkcedaaGreat
open Go Go.Abs
open Nat (reduceEqDiff reduceAdd reduceLeDiff)
section
variable {P:Program} {T:Tm} {H:Hp} {nx:Nat}
end
attribute [local irreducible] ak ab aB av am an ai ao aw aD Go.Abs.Fn au Go.Abs.Pure ae aj Yl
end Go.Proofs.YtjgpfclngkcedaaGreat
namespace Go.Proofs.YtjgpfclngkcedaaGreat
open Go Go.Abs
attribute [local irreducible] ak ab aB av am an ai ao aw aD Go.Abs.Fn au Go.Abs.Pure ae aj Yl
end Go.Proofs.YtjgpfclngkcedaaGreat
namespace Go.Proofs.YtjgpfclngkcedaaGreat
open Go Go.Abs
attribute [local irreducible] ak ab aB av am an ai ao aw aD Go.Abs.Fn au Go.Abs.Pure ae aj Yl
def dd (l:List Int):Nat→List Int
  | 0=>[]
  | k + 1=>dd l k ++ if k=0 ∨ l.getD k default ≠ l.getD (k - 1) default then [l.getD k default] else []
end Go.Proofs.YtjgpfclngkcedaaGreat
namespace Go.Proofs.YtjgpfclngkcedaaGreat
open Go Go.Abs
def inV (l:List (List Int)) (p v:Nat):Bool:=l.any fun w=>decide (w.getD p default=(v:Int))
def vals (l:List (List Int)) (p o:Nat):List Int:=((List.range o).filter (inV l p)).map Int.ofNat
attribute [local irreducible] ak ab aB av am an ai ao aw aD Go.Abs.Fn au Go.Abs.Pure ae aj Yl
end Go.Proofs.YtjgpfclngkcedaaGreat
namespace Go.Proofs.YtjgpfclngkcedaaGreat
open Go Go.Abs
attribute [local irreducible] ak ab aB av am an ai ao aw aD Go.Abs.Fn au Go.Abs.Pure ae aj Yl
end Go.Proofs.YtjgpfclngkcedaaGreat
namespace Go.Proofs.YtjgpfclngkcedaaGreat
open Go Go.Abs
attribute [local irreducible] ak ab aB av am an ai ao aw aD Go.Abs.Fn au Go.Abs.Pure ae aj Yl
end Go.Proofs.YtjgpfclngkcedaaGreat
namespace Go.Proofs.YtjgpfclngkcedaaGreat
open Go Go.Abs
end Go.Proofs.YtjgpfclngkcedaaGreat
namespace Go.Proofs.YtjgpfclngkcedaaGreat
open Go Go.Abs
structure PlaceV where
  index:Int
  faulty:Int
  proc:Int
  outs:List Int
attribute [local irreducible] ak ab aB av am an ai ao aw aD Go.Abs.Fn au Go.Abs.Pure ae aj Yl
end Go.Proofs.YtjgpfclngkcedaaGreat
namespace Go.Proofs.YtjgpfclngkcedaaGreat
open Go Go.Abs
attribute [local irreducible] ak ab aB av am an ai ao aw aD Go.Abs.Fn au Go.Abs.Pure ae aj Yl
theorem kO (b:Bool):(b == b)=true:=by simp
end Go.Proofs.YtjgpfclngkcedaaGreat
namespace Go.Proofs.YtjgpfclngkcedaaGreat
open Go Go.Abs
attribute [local irreducible] ak ab aB av am an ai ao aw aD Go.Abs.Fn au Go.Abs.Pure ae aj Yl
end Go.Proofs.YtjgpfclngkcedaaGreat
namespace Go.Proofs.YtjgpfclngkcedaaGreat
open Go Go.Abs
section
variable {p:List Int}
end
section
variable {p:List Int} (hp:rk p=0)
include hp
end
section
variable {t:TaskV} {p:List Int} (h:aX t=0) (hp:rk p=0) (hn:(p.length:Int)=t.n)
include h hp hn
end
end Go.Proofs.YtjgpfclngkcedaaGreat
namespace Go.Proofs.YtjgpfclngkcedaaGreat
open Go Go.Abs
open Nat (reduceEqDiff reduceAdd reduceLeDiff)
attribute [local irreducible] ak ab aB av am an ai ao aw aD Go.Abs.Fn au Go.Abs.Pure ae aj Yl
end Go.Proofs.YtjgpfclngkcedaaGreat
namespace Go.Proofs.YtjgpfclngkcedaaGreat
open Go Go.Abs
def q9 (l:List (List Int)):Prop:=l.Pairwise fun x y=>aY x y < 0
theorem q9.nodup {l:List (List Int)} (h:q9 l):l.Nodup:=List.Pairwise.imp (fun {a b} h e=>by subst e; rw [eE] at h; omega) h
theorem q9.of {l:List (List Int)} (hs:iZ aY l) (hn:l.Nodup):q9 l:=by
  have h2:=List.nodup_iff_pairwise_ne.1 hn
  refine List.Pairwise.imp₂ (fun a b h1 h2=>?_) hs h2
  rcases jt a b with h | h | h
  · omega
  · exact absurd (gD h) h2
  · have:=jz a b
    exact absurd (show aY b a < 0 by omega) h1
section
variable {α:Type} [Inhabited α] [DecidableEq α]
end
end Go.Proofs.YtjgpfclngkcedaaGreat
namespace Go.Proofs.YtjgpfclngkcedaaGreat
open Go Go.Abs
open Nat (reduceEqDiff reduceAdd reduceLeDiff)
section
variable {P:Program} {T:Tm} {H:Hp} {nx:Nat}
end
attribute [local irreducible] ak ab aB av am an ai ao aw aD Go.Abs.Fn au Go.Abs.Pure ae aj Yl
section
variable {g:Nat} {caps:List AV} {s:AV}
end
end Go.Proofs.YtjgpfclngkcedaaGreat
namespace Go.Proofs.YtjgpfclngkcedaaGreat
open Go Go.Abs
open Nat (reduceEqDiff reduceAdd reduceLeDiff)
attribute [local irreducible] ak ab aB av am an ai ao aw aD Go.Abs.Fn au Go.Abs.Pure ae aj Yl
end Go.Proofs.YtjgpfclngkcedaaGreat
namespace Go.Proofs.YtjgpfclngkcedaaGreat
open Go Go.Abs
open Nat (reduceEqDiff reduceAdd reduceLeDiff)
attribute [local irreducible] ak ab aB av am an ai ao aw aD Go.Abs.Fn au Go.Abs.Pure ae aj Yl
end Go.Proofs.YtjgpfclngkcedaaGreat
namespace Go.Proofs.YtjgpfclngkcedaaGreat
open Go Go.Abs
open Nat (reduceEqDiff reduceAdd reduceLeDiff)
attribute [local irreducible] ak ab aB av am an ai ao aw aD Go.Abs.Fn au Go.Abs.Pure ae aj Yl
end Go.Proofs.YtjgpfclngkcedaaGreat
namespace Go.Proofs.YtjgpfclngkcedaaGreat
open Go Go.Abs
theorem oG {c:CaseV} {f:Int} (h:ShC c):∀ v ∈ az c f,Sh v:=by
  obtain ⟨s1,s2,s3,s4,s5⟩:=h
  unfold az
  split
  · exact s5
  · exact s3
attribute [local irreducible] ak ab aB av am an ai ao aw aD Go.Abs.Fn au Go.Abs.Pure ae aj Yl
end Go.Proofs.YtjgpfclngkcedaaGreat
namespace Go.Proofs.YtjgpfclngkcedaaGreat
open Go Go.Abs
open Nat (reduceEqDiff reduceAdd reduceLeDiff)
attribute [local irreducible] ak ab aB av am an ai ao aw aD Go.Abs.Fn au Go.Abs.Pure ae aj Yl
end Go.Proofs.YtjgpfclngkcedaaGreat
namespace Go.Proofs.YtjgpfclngkcedaaGreat
open Go Go.Abs
structure Fit (t:TaskV):Prop where
  sh:∀ c ∈ t.cases,ShC c
  len:t.cases.length ≤ 100000
  q:∀ c ∈ t.cases,c.out.length ≤ 100000∧c.calm.length ≤ 100000
structure Fit4 (t:TaskV):Prop where
  fit:Fit t
  q4:∀ c ∈ t.cases,c.out.length ≤ 40000∧c.calm.length ≤ 40000
attribute [local irreducible] ak ab aB av am an ai ao aw aD Go.Abs.Fn au Go.Abs.Pure ae aj Yl
end Go.Proofs.YtjgpfclngkcedaaGreat
namespace Go.Proofs.YtjgpfclngkcedaaGreat
open Go Go.Abs
open Nat (reduceEqDiff reduceAdd reduceLeDiff)
attribute [local irreducible] ak ab aB av am an ai ao aw aD Go.Abs.Fn au Go.Abs.Pure ae aj Yl
end Go.Proofs.YtjgpfclngkcedaaGreat
namespace Go.Proofs.YtjgpfclngkcedaaGreat
open Go Go.Abs
attribute [local irreducible] ak ab aB av am an ai ao aw aD Go.Abs.Fn au Go.Abs.Pure ae aj Yl
end Go.Proofs.YtjgpfclngkcedaaGreat
namespace Go.Proofs.YtjgpfclngkcedaaGreat
open Go Go.Abs
open Nat (reduceEqDiff reduceAdd reduceLeDiff)
structure Fit30 (t:TaskV):Prop where
  sh:∀ c ∈ t.cases,ShC c
  len:t.cases.length ≤ 30
  q:∀ c ∈ t.cases,c.out.length ≤ 30∧c.calm.length ≤ 30
theorem Fit30.of {t:TaskV} (h:gL t=true):Fit30 t:=by
  have hsh:=qO h
  unfold gL at h
  rw [Bool.and_eq_true,decide_eq_true_iff,List.all_eq_true] at h
  refine ⟨hsh.2,h.1,fun c hc=>?_⟩
  have hf:=h.2 c hc
  unfold lC f0 at hf
  simp only [Bool.and_eq_true,decide_eq_true_iff,List.all_eq_true] at hf
  exact ⟨hf.1.2.1,hf.2.1⟩
theorem Fit30.four {t:TaskV} (h:Fit30 t):Fit4 t:=⟨⟨h.sh,by have:=h.len; omega,fun c hc=>by have:=h.q c hc; omega⟩,fun c hc=>by have:=h.q c hc; omega⟩
theorem Fit30.fit {t:TaskV} (h:Fit30 t):Fit t:=h.four.fit
attribute [local irreducible] ak ab aB av am an ai ao aw aD Go.Abs.Fn au Go.Abs.Pure ae aj Yl
end Go.Proofs.YtjgpfclngkcedaaGreat
namespace Go.Proofs.YtjgpfclngkcedaaGreat
open Go Go.Abs
attribute [local irreducible] ak ab aB av am an ai ao aw aD Go.Abs.Fn au Go.Abs.Pure ae aj Yl
end Go.Proofs.YtjgpfclngkcedaaGreat
namespace Go.Proofs.YtjgpfclngkcedaaGreat
open Go Go.Abs
attribute [local irreducible] ak ab aB av am an ai ao aw aD Go.Abs.Fn au Go.Abs.Pure ae aj Yl
end Go.Proofs.YtjgpfclngkcedaaGreat
namespace Go.Proofs.YtjgpfclngkcedaaGreat
open Go Go.Abs
open Nat (reduceEqDiff reduceAdd reduceLeDiff)
attribute [local irreducible] ak ab aB av am an ai ao aw aD Go.Abs.Fn au Go.Abs.Pure ae aj Yl
end Go.Proofs.YtjgpfclngkcedaaGreat
namespace Go.Proofs.YtjgpfclngkcedaaGreat
open Go Go.Abs
attribute [local irreducible] ak ab aB av am an ai ao aw aD Go.Abs.Fn au Go.Abs.Pure ae aj Yl
end Go.Proofs.YtjgpfclngkcedaaGreat
namespace Go.Proofs.YtjgpfclngkcedaaGreat
open Go Go.Abs
structure BoxesM (H:Hp) (bs:List Nat) (l:List (List Int)):Prop where
  len:bs.length=l.length
  at_:∀ i,i < l.length→H (bs.getD i 0)=some ((l.getD i default).map (AV.int .i64))
  nodup:bs.Nodup
theorem BoxesM.same {H H':Hp} {bs:List Nat} {l:List (List Int)} (h:BoxesM H bs l) (hs:∀ b ∈ bs,H' b=H b):BoxesM H' bs l :=
  ⟨h.len,fun i hi=>(hs _ (by have:=h.len; rw [List.getD_eq_getElem?_getD,List.getElem?_eq_getElem (by omega)]; exact List.getElem_mem _)).trans (h.at_ i hi),h.nodup⟩
theorem rN {bs:List Nat} (h:bs.Nodup) {i j:Nat} (hi:i < bs.length) (hj:j < bs.length) (e:bs.getD i 0=bs.getD j 0):i=j:=by
  rw [List.getD_eq_getElem?_getD,List.getD_eq_getElem?_getD,List.getElem?_eq_getElem hi,List.getElem?_eq_getElem hj] at e
  have hp:=List.pairwise_iff_getElem.1 (List.nodup_iff_pairwise_ne.1 h)
  rcases Nat.lt_trichotomy i j with c | c | c
  · exact absurd e (hp i j hi hj c)
  · exact c
  · exact absurd e.symm (hp j i hj hi c)
attribute [local irreducible] ak ab aB av am an ai ao aw aD Go.Abs.Fn au Go.Abs.Pure ae aj Yl
end Go.Proofs.YtjgpfclngkcedaaGreat
namespace Go.Proofs.YtjgpfclngkcedaaGreat
open Go Go.Abs
section
variable {α:Type} [Inhabited α] {g:α→α} {l:List α}
end
theorem BoxesM.set {H:Hp} {bs:List Nat} {l:List (List Int)} {i:Nat} {v:List Int} (h:BoxesM H bs l) (hi:i < l.length):BoxesM (ar H (bs.getD i 0) (v.map (AV.int .i64))) bs (l.set i v):=by
  refine ⟨by rw [List.length_set]; exact h.len,fun j hj=>?_,h.nodup⟩
  rw [List.length_set] at hj
  by_cases e:j=i
  · subst e
    rw [bU]
    simp [List.getD,hj]
  · rw [aV (fun k=>e (rN h.nodup (by have:=h.len; omega) (by have:=h.len; omega) k)),h.at_ j hj]
    simp only [List.getD_eq_getElem?_getD]
    rw [List.getElem?_set_ne (by omega)]
attribute [local irreducible] ak ab aB av am an ai ao aw aD Go.Abs.Fn au Go.Abs.Pure ae aj Yl
end Go.Proofs.YtjgpfclngkcedaaGreat
namespace Go.Proofs.YtjgpfclngkcedaaGreat
open Go Go.Abs
open Nat (reduceEqDiff reduceAdd reduceLeDiff)
attribute [local irreducible] ak ab aB av am an ai ao aw aD Go.Abs.Fn au Go.Abs.Pure ae aj Yl
end Go.Proofs.YtjgpfclngkcedaaGreat
namespace Go.Proofs.YtjgpfclngkcedaaGreat
open Go Go.Abs
open Nat (reduceEqDiff reduceAdd reduceLeDiff)
attribute [local irreducible] ak ab aB av am an ai ao aw aD Go.Abs.Fn au Go.Abs.Pure ae aj Yl
end Go.Proofs.YtjgpfclngkcedaaGreat
namespace Go.Proofs.YtjgpfclngkcedaaGreat
open Go Go.Abs
open Nat (reduceEqDiff reduceAdd reduceLeDiff)
attribute [local irreducible] ak ab aB av am an ai ao aw aD Go.Abs.Fn au Go.Abs.Pure ae aj Yl
end Go.Proofs.YtjgpfclngkcedaaGreat
namespace Go.Proofs.YtjgpfclngkcedaaGreat
open Go Go.Abs
open Nat (reduceEqDiff reduceAdd reduceLeDiff)
attribute [local irreducible] ak ab aB av am an ai ao aw aD Go.Abs.Fn au Go.Abs.Pure ae aj Yl
end Go.Proofs.YtjgpfclngkcedaaGreat
namespace Go.Proofs.YtjgpfclngkcedaaGreat
open Go Go.Abs
open Nat (reduceEqDiff reduceAdd reduceLeDiff)
attribute [local irreducible] ak ab aB av am an ai ao aw aD Go.Abs.Fn au Go.Abs.Pure ae aj Yl
end Go.Proofs.YtjgpfclngkcedaaGreat
namespace Go.Proofs.YtjgpfclngkcedaaGreat
open Go Go.Abs
open Nat (reduceEqDiff reduceAdd reduceLeDiff)
section
attribute [local irreducible] ak ab aB av am an ai ao aw aD Go.Abs.Fn au Go.Abs.Pure ae aj Yl
theorem nA (H:Hp) (nx:Nat):Abs.Fn Tryz.prog 42 [.esl] H nx fun r H' nx'=>(r=.esl ∨ r=.msl nx 0 1 0 0)∧(H'=H∧nx'=nx ∨ H'=ar H nx []∧nx'=nx + 1):=by
  refine Abs.Fn.of_c2 follows rX (Nat.le_of_ble_eq_true rfl) ?_
  simp only [b42,cO,cG,cN,cM,cD,cF,cB,al,aC]
  (have zz:=and_self; repeat' (first | refine zW ?_ | apply a_n | refine zO ?_ | refine vZ ?_ | fail)) <;> (try clear zz)
  refine nr (k:=0) (by ((try simp only [bb,ZA,reduceEqDiff,↓reduceIte,reduceAdd,reduceLeDiff]); (try with_reducible rfl)); rfl) (fun h=>by omega) (fun h=>?_) (fun h=>?_)
  ((all_goals (try have zz:=and_self)); (repeat' (first | refine zW ?_ | apply a_n | apply a_r | refine zO ?_ | refine vZ ?_ | refine b0Z ?_ | refine a0Z ?_ | refine cTZ ?_ | refine cFZ ?_ | refine ah rfl ?_ | refine r1Z ?_ | fail)); (all_goals (try clear zz)))
  all_goals first | exact ⟨.inl rfl,.inl ⟨rfl,rfl⟩⟩ | exact ⟨.inr rfl,.inr ⟨rfl,rfl⟩⟩
theorem nC (H:Hp) (nx:Nat):Abs.Fn Tryz.prog 106 [.esl] H nx fun r H' nx'=>(r=.esl ∨ r=.msl nx 0 1 0 0)∧(H'=H∧nx'=nx ∨ H'=ar H nx []∧nx'=nx + 1):=by
  refine Abs.Fn.of_c2 follows rp (Nat.le_of_ble_eq_true rfl) ?_
  simp only [sG,cO,cG,cN,cM,cD,cF,cB,al,aC]
  (have zz:=and_self; repeat' (first | refine zW ?_ | apply a_n | refine zO ?_ | refine vZ ?_ | fail)) <;> (try clear zz)
  refine nr (k:=0) (by ((try simp only [bb,ZA,reduceEqDiff,↓reduceIte,reduceAdd,reduceLeDiff]); (try with_reducible rfl)); rfl) (fun h=>by omega) (fun h=>?_) (fun h=>?_)
  ((all_goals (try have zz:=and_self)); (repeat' (first | refine zW ?_ | apply a_n | apply a_r | refine zO ?_ | refine vZ ?_ | refine b0Z ?_ | refine a0Z ?_ | refine cTZ ?_ | refine cFZ ?_ | refine ah rfl ?_ | refine r1Z ?_ | fail)); (all_goals (try clear zz)))
  all_goals first | exact ⟨.inl rfl,.inl ⟨rfl,rfl⟩⟩ | exact ⟨.inr rfl,.inr ⟨rfl,rfl⟩⟩
end
def ctC:FuncId→List AV→Nat→Option AV:=fun g args nx=>match Nat.beq g 42 || Nat.beq g 106,args with
  | true,[.esl]=>some (.msl nx 0 1 0 0)
  | _,_=>none
theorem ru {g:Nat} {args:List AV} {H:Hp} {nx:Nat} {R:AV→Hp→Nat→Prop} (h:Abs.Fn Tryz.prog g args H nx fun r' H' nx'=>(r'=.esl ∨ r'=.msl nx 0 1 0 0)∧(H'=H∧nx'=nx ∨ H'=ar H nx []∧nx'=nx + 1)) (hR:R (.msl nx 0 1 0 0) (ar H nx []) (nx + 1)):Abs.Fn Tryz.prog g args H nx R :=
  ⟨h.1,fun E w vs h1 h2 h3 h4=>(h.2 E w vs h1 h2 h3 h4).mono fun e w' ⟨v,E',r',H',nx',k1,k2,k3,k4,k5,k6,a,b⟩=>by
    have hr:Rel E' w' (.msl nx 0 1 0 0) v:=by
      rcases a with rfl | rfl
      · cases k6 with
        | eslnil=>exact .msl0 _ _ _ (.inl rfl)
        | esl a=>exact .msl0 _ _ _ (.inr ⟨a,rfl⟩)
      · exact k6
    rcases b with ⟨rfl,rfl⟩ | ⟨rfl,rfl⟩
    · exact ⟨v,E',_,_,_,k1,k2,k3,k4.virtual (k5 _ (Nat.le_refl _)),fun b hb=>k5 b (by omega),hr,hR⟩
    · exact ⟨v,E',_,_,_,k1,k2,k3,k4,k5,hr,hR⟩⟩
def ctE (q:FuncId→List AV→Option AV):CT:=⟨ctC,q⟩
theorem rO (g:FuncId) (args:List AV) (nx:Nat) (r:AV) (h:ctC g args nx=some r) (H:Hp) (R:AV→Hp→Nat→Prop) (hR:R r (ar H nx []) (nx + 1)):Abs.Fn Tryz.prog g args H nx R:=by
  unfold ctC at h
  split at h
  · rename_i hg
    cases h
    rcases Bool.or_eq_true _ _ |>.mp hg with hg | hg
    · cases Nat.eq_of_beq_eq_true hg
      exact ru (nA H nx) hR
    · cases Nat.eq_of_beq_eq_true hg
      exact ru (nC H nx) hR
  · cases h
theorem fh {q:FuncId→List AV→Option AV} (hq:∀ (g:FuncId) (args:List AV) (r:AV),q g args=some r→Go.Abs.Pure Tryz.prog g args r):CTok Tryz.prog (ctE q):=⟨rO,hq⟩
def sU:List (Nat × F2):=[(12,b12),(13,b13),(15,b15),(16,b16),(18,b18),(20,b20),(21,b21),(23,b23),(25,b25),(27,b27),(33,b33),(39,b39),(40,b40),(41,b41),(42,b42),(43,b43),(44,b44),(47,b47),(48,b48),(49,b49),(50,b50),(51,b51),(56,b56),(57,b57),(58,b58),(59,b59),(60,b60),(61,b61),(62,b62),(63,b63),(64,b64),(68,b68),(69,b69),(71,b71),(72,b72),(73,b73),(74,b74),(75,b75),(77,b77),(78,b78),(79,b79),(83,b83),(86,b86),(87,b87),(88,b88),(96,b96),(100,se),(101,sb),(102,sN),(104,uD),(106,sG),(107,sX),(108,vo),(109,tv),(110,tE),(111,sV),(112,th),(113,r7),(115,sc),(116,sF),(117,r4),(118,sT),(119,tR),(120,uE),(121,ul),(126,tL),(127,sJ),(130,u3),(131,tt),(132,vj),(133,uq),(134,um),(135,uC),(136,t4),(137,tW),(138,sQ),(139,tQ),(140,tZ),(141,rP),(142,sq),(143,rZ),(144,su),(145,tG),(149,uw),(150,uH),(151,te),(152,tp),(153,vw),(154,tk),(155,t7),(156,uA),(157,tT),(158,uY),(159,vE),(160,uZ),(161,uJ),(162,r8),(163,tO),(165,tr),(166,u4),(167,ue),(168,sR),(169,sY)]
theorem iy:fN Tryz.prog (lookup sU) :=
  (aa wj (aa tM (aa uc (aa wc (aa wk (aa wA (aa wi (aa vG (aa v8 (aa wg (aa vO (aa v9 (aa va (aa vA (aa rX (aa t0 (aa t3 (aa v4 (aa wa (aa wq (aa vL (aa we (aa wn (aa vM (aa vX (aa wx (aa wz (aa s7 (aa wl (aa vI (aa u0 (aa uf (aa vU (aa uo (aa uF (aa wh (aa wv (aa vJ (aa vK (aa v6 (aa wy (aa vH (aa vR (aa v5 (aa wD (aa sP (aa rm (aa rq (aa rD (aa tq (aa rp (aa uB (aa ur (aa ti (aa tz (aa uG (aa vt (aa rj (aa rM (aa rA (aa rE (aa vn (aa uN (aa vD (aa uQ (aa tH (aa rh (aa us (aa uM (aa uj (aa ub (aa u1 (aa t8 (aa uO (aa tY (aa s9 (aa ut (aa sW (aa rf (aa rt (aa ri (aa ry (aa uv (aa u2 (aa ua (aa s0 (aa vu (aa tF (aa tg (aa tC (aa uV (aa uR (aa tx (aa tn (aa ve (aa ud (aa rK (aa tU (aa uI (aa vv (aa uz (aa vB (aa ug oE)))))))))))))))))))))))))))))))))))))))))))))))))))))))))))))))))))))))))))))))))))))))))))))))))))))))
def eI (n:Int):AV:=.int .i64 n
def eV (a b:Int):AV:=.sl 1 [eI a,eI b]
def eC (a b:Int) (o:List AV):AV:=.agg [eV a b,.sl 1 o,.esl]
def eT (o:Int) (l:List AV):AV:=.agg [eI 2,eI 2,eI o,.sl 3 l]
def e4:List AV:=[eV 0 0,eV 0 1,eV 1 0,eV 1 1]
def e2:List AV:=[eV 0 0,eV 1 1]
def eP:List AV:=[eV 0 0,eV 1 1,eV 2 2,eV 3 3]
def tA:AV:=eT 2 [eC 0 0 [eV 0 0],eC 0 1 e2,eC 1 0 e2,eC 1 1 [eV 1 1]]
def tB:AV:=eT 2 [eC 0 0 e4,eC 0 1 e4,eC 1 0 e4,eC 1 1 e4]
def tP:AV:=eT 4 [eC 0 0 [eV 0 0],eC 0 1 eP,eC 1 0 eP,eC 1 1 [eV 3 3]]
def pfE:FuncId→Bool:=rg [39,13,16,18,21,25,23,33,87,77]
theorem isV {v:AV} (r:AV) (h:eqA 60 r v=true):r=v:=nH _ _ _ h
set_option maxRecDepth 100000 in
theorem q1:Go.Abs.Pure Tryz.prog 39 [] (.tup [tA,tB]):=Pure.of_runC follows iy (fh dM) (pf:=pfE) (n:=2000) (by decide +kernel) isV
set_option maxRecDepth 100000 in
theorem q2:Go.Abs.Pure Tryz.prog 13 [tA,tB] (.tup [.esl,eI 0,.esl,.bool true,eI 0]):=Pure.of_runC follows iy (fh dM) (pf:=pfE) (n:=2000) (by decide +kernel) isV
set_option maxRecDepth 100000 in
theorem q3:Go.Abs.Pure Tryz.prog 13 [tB,tA] (.tup [eV 0 0,eI 0,eV 0 1,.bool false,eI 0]):=Pure.of_runC follows iy (fh dM) (pf:=pfE) (n:=2000) (by decide +kernel) isV
set_option maxRecDepth 100000 in
theorem q4:Go.Abs.Pure Tryz.prog 16 [tA,tB] (.tup [tA,eI 0]):=Pure.of_runC follows iy (fh dM) (pf:=pfE) (n:=2000) (by decide +kernel) isV
set_option maxRecDepth 100000 in
theorem q5:Go.Abs.Pure Tryz.prog 18 [tA,tB] (.tup [tB,eI 0]):=Pure.of_runC follows iy (fh dM) (pf:=pfE) (n:=2000) (by decide +kernel) isV
set_option maxRecDepth 100000 in
theorem q6:Go.Abs.Pure Tryz.prog 21 [tA,tA] (.tup [tP,eI 0]):=Pure.of_runC follows iy (fh dM) (pf:=pfE) (n:=2000) (by decide +kernel) isV
set_option maxRecDepth 100000 in
theorem q7:Go.Abs.Pure Tryz.prog 25 [tA] (.tup [.sl 1 [eV 0 1,eV 1 0],eI 0]):=Pure.of_runC follows iy (fh dM) (pf:=pfE) (n:=2000) (by decide +kernel) isV
set_option maxRecDepth 100000 in
theorem qM:Go.Abs.Pure Tryz.prog 12 [] (.bool true):=Pure.of_runC follows iy (fh (dD q1 (dD q2 (dD q3 (dD q4 (dD q5 (dD q6 (dD q7 dM)))))))) (pf:=pfE) (n:=2000) (good:=isTrue) (by decide +kernel) pi
end Go.Proofs.YtjgpfclngkcedaaGreat
namespace Go.Proofs.YtjgpfclngkcedaaGreat
open Go Go.Abs
open Nat (reduceEqDiff reduceAdd reduceLeDiff)
attribute [local irreducible] ak ab aB av am an ai ao aw aD Go.Abs.Fn au Go.Abs.Pure ae aj Yl
end Go.Proofs.YtjgpfclngkcedaaGreat
namespace Go.Proofs.YtjgpfclngkcedaaGreat
open Go Go.Abs
def gi (l:List TaskV):AV:=.sl 4 (l.map bi)
theorem mJ {l:List TaskV}:b6 (gi l)=some (.int .i64 l.length):=by simp [b6,gi]
theorem nw {l:List TaskV} {k:Nat} (h:k < l.length):eS 4 (gi l) (.int .i64 k)=some (.iptr [.int .i64 (l.getD k default).n,.int .i64 (l.getD k default).ins,.int .i64 (l.getD k default).outs,bc (l.getD k default).cases] 0):=by
  simp [eS,gi,h,List.getD,bi,AV.cells]
theorem qz {H:Hp} {b:Nat} {a c:TaskV} (hb:H b=some [.int .i64 a.n,.int .i64 a.ins,.int .i64 a.outs,bc a.cases,.int .i64 c.n,.int .i64 c.ins,.int .i64 c.outs,bc c.cases]):Snap H (.msl b 8 4 0 2) (gi [a,c]):=by
  have hr:Row H 4 (.msl b (2 * 4) 4 0 2) ([bi a,bi c].flatMap AV.cells):=Row.box b 2 _ (by simpa [bi,AV.cells] using hb) rfl
  refine Row.snap (elems:=[bi a,bi c]) hr (fun y hy=>?_) (by omega) (fun y hy d hd=>?_)
  · simp at hy; rcases hy with rfl | rfl <;> rfl
  · simp only [List.mem_cons,List.not_mem_nil,or_false] at hy
    rcases hy with rfl | rfl <;>
    · simp only [bi,AV.cells,List.mem_cons,List.not_mem_nil,or_false] at hd
      rcases hd with rfl | rfl | rfl | rfl
      · exact .int
      · exact .int
      · exact .int
      · exact d8 _
def Ok (t:TaskV):Prop:=Sh t.cases∧∀ c ∈ t.cases,ShC c
attribute [local irreducible] ak ab aB av am an ai ao aw aD Go.Abs.Fn au Go.Abs.Pure ae aj Yl
theorem qT (l:List TaskV) (hl:l.length ≤ 100) (hs:∀ t ∈ l,Ok t):Pure Tryz.prog 11 [gi l] (.bool (l.all gL)):=by
  refine Pure.of_c2 follows wm (Nat.le_of_ble_eq_true rfl) ?_
  simp only [b11,cO,cG,cN,cM,cD,cF,cB,al,aC]
  have one:(gi l).one=true:=rfl
  (have zz:=@mJ; repeat' (first | refine zW ?_ | apply a_n | refine zO ?_ | refine vY ?_ | fail)) <;> (try clear zz)
  refine fM (X:=Nat) (fun k=>[(0,gi l),(5,gi l),(6,.int .i64 l.length),(7,.int .i64 k)]) (fun k H nx=>k ≤ l.length∧∀ i,i < k→gL (l.getD i default)=true) (fun k=>l.length - k) 0 ⟨Nat.zero_le _,fun i h=>absurd h (by omega)⟩ ag0 ?_
  rintro k H nx ⟨hk,hz⟩
  by_cases hk2:k < l.length
  rotate_left
  · (have zz:=and_self; repeat' (first | refine zW ?_ | apply a_n | apply a_x | refine zO ?_ | refine vY ?_ | (refine zGY ?_ ?_ <;> (intro _hg; try (exfalso; omega))) | refine ah rfl ?_ | refine r1Y ?_ | fail)) <;> (try clear zz)
    rw [jq fun i hi=>hz i (by omega)]
    exact .bool _
  have ix:=nw hk2
  obtain ⟨s1,s2⟩:=hs _ (aF hk2)
  have hf:=wE (l.getD k default) s2 s1
  have hbad:gL (l.getD k default)=false→l.all gL=false:=fun h=>fG hk2 h
  have hnext:gL (l.getD k default)=true→∀ i,i < k + 1→gL (l.getD i default)=true:=fun h i hi=>by
    rcases Nat.lt_succ_iff_lt_or_eq.1 hi with h' | rfl
    · exact hz i h'
    · exact h
  have d1:=bo (l.getD k default)
  generalize l.getD k default=t at *
  unfold bi at hf d1
  cases hb:gL t
  · rw [hb] at hf
    rw [hbad hb]
    (have zz:=aI @ix (aI @af @ac); repeat' (first | refine zW ?_ | apply a_n | apply a_r | refine zO ?_ | refine vY ?_ | refine cY ?_ (hp:=hf) | refine alY ?_ | refine stY ?_ | refine cTY ?_ | (refine zGY ?_ ?_ <;> (intro _hg; try (exfalso; omega))) | refine ah rfl ?_ | refine r1Y ?_ | fail)) <;> (try clear zz)
    exact .bool _
  · rw [hb] at hf
    (have zz:=aI @ix (aI @af @ac); repeat' (first | refine zW ?_ | apply a_n | refine zO ?_ | refine vY ?_ | refine cY ?_ (hp:=hf) | refine alY ?_ | refine stY ?_ | refine cFY ?_ | (refine zGY ?_ ?_ <;> (intro _hg; try (exfalso; omega))) | fail)) <;> (try clear zz)
    exact ⟨k + 1,by omega,⟨by omega,hnext hb⟩,ag0⟩
theorem lv (a b:TaskV) (ha:Ok a) (hb:Ok b):Pure Tryz.prog 3 [bi a,bi b] (.bool true):=by
  refine Pure.of_c2 follows is3 (Nat.le_of_ble_eq_true rfl) ?_
  simp only [b3,cO,cG,cN,cM,cD,cF,cB,al,aC]
  have haw:=qM
  have hfw:=qT [a,b] (by simp) (by simp; exact ⟨ha,hb⟩)
  have d1:=bo a
  have d2:=bo b
  have c1:=nD a b ha.2 ha.1 hb.2 hb.1
  have c2:=oL a b ha.2 ha.1 hb.2 hb.1
  have hX:Sh (bJ a b).1∧Sh (bJ a b).2.2.1:=by
    unfold bJ
    split
    · exact ⟨Nat.zero_le _,Nat.zero_le _⟩
    · cases hw:iK a b with
      | none=>exact ⟨Nat.zero_le _,Nat.zero_le _⟩
      | some w =>
        obtain ⟨c,hc,e⟩:=List.exists_of_findSome?_eq_some hw
        unfold dX at e
        cases hf:dw a c.inp with
        | none=>rw [hf] at e; cases e; exact ⟨(hb.2 c hc).1,Nat.zero_le _⟩
        | some x =>
          rw [hf] at e
          obtain ⟨f,hf2,e⟩:=List.exists_of_findSome?_eq_some e
          rw [Option.map_eq_some_iff] at e
          obtain ⟨v,hv,rfl⟩:=e
          exact ⟨(hb.2 c hc).1,oG (ha.2 x (j2 hf).1) v (List.mem_of_find?_eq_some hv)⟩
  generalize bJ a b=X at *
  unfold i0 at c1 c2
  have e1:=gK X.1 X.1 hX.1 hX.1
  have e2:=gK X.2.2.1 X.2.2.1 hX.2 hX.2
  rw [decide_eq_true rfl] at e1 e2
  have z1:decide (X.2.1=X.2.1)=true:=decide_eq_true rfl
  have z2:(X.2.2.2.1 == X.2.2.2.1)=true:=kO _
  have z3:decide (X.2.2.2.2=X.2.2.2.2)=true:=decide_eq_true rfl
  unfold bi at d1 d2 c1 c2
  rw [show bi a=.agg [.int .i64 a.n,.int .i64 a.ins,.int .i64 a.outs,bc a.cases] from rfl,show bi b=.agg [.int .i64 b.n,.int .i64 b.ins,.int .i64 b.outs,bc b.cases] from rfl]
  (have zz:=aI @af @ac; repeat' (first | refine zW ?_ | apply a_n | refine zO ?_ | refine vZ ?_ | refine bxZ ?_ | refine blZ ?_ | fail)) <;> (try clear zz)
  refine eB ev0 ev0 hfw (a7 (ay (qz bU) aG) rfl) ?_
  cases hF:[a,b].all gL
  · (have zz:=aI @af @ac; repeat' (first | refine zW ?_ | apply a_n | apply a_r | refine zO ?_ | refine vZ ?_ | refine cZ ?_ (hp:=haw) | refine cTZ ?_ | refine ah rfl ?_ | refine r1Z ?_ | fail)) <;> (try clear zz)
    exact .bool _
  · (have zz:=aI @af (aI @ac (aI @z1 (aI @z2 @z3))); repeat' (first | refine zW ?_ | apply a_n | refine zO ?_ | refine vZ ?_ | refine cZ ?_ (hp:=by first | exact haw | exact c1 | exact c2 | exact e1 | exact e2) | refine gTZ ?_ | (refine zGZ ?_ ?_ <;> (intro _hg; try (exfalso; omega))) | refine cFZ ?_ | refine ah rfl ?_ | refine r1Z ?_ | fail)) <;> (try clear zz)
    all_goals exact .bool _
end Go.Proofs.YtjgpfclngkcedaaGreat
namespace Go.Proofs.YtjgpfclngkcedaaGreat
open Go Go.Abs Go.RowKit
section
variable {H:Type} {enc:TypeId × Value→H} {W:World}
theorem oi:b5 enc Tryz.prog W 3 (AV.int .i64) (fun n=>(Lit.int .i64 n).wf=true):=oq Tryz.underlying3
theorem oL1:b5 enc Tryz.prog W 27 aA Sh :=
  (e6 Tryz.underlying27 (sz:=1) (by_:=8) (by kernel_rfl) (by kernel_rfl) Nat.one_pos (fun _=>rfl) oi).mono fun l h=>by have:=h.2.2; show _ ≤ _; omega
theorem oL2:b5 enc Tryz.prog W 41 ax (fun l=>Sh l∧∀ x ∈ l,Sh x) :=
  (e6 Tryz.underlying41 (sz:=1) (by_:=24) (by kernel_rfl) (by kernel_rfl) Nat.one_pos (fun _=>rfl) oL1).mono fun l h=>⟨by have:=h.2.2; show _ ≤ _; omega,h.1⟩
set_option maxRecDepth 100000 in
theorem sO:b5 enc Tryz.prog W 57 gA ShC :=
  (gz Tryz.underlying57 (by kernel_rfl) (bP (off:=0) (off':=1) rfl (by kernel_rfl) oL1 (bP (off:=1) (off':=2) rfl (by kernel_rfl) oL2 (bP (off:=2) (off':=3) rfl (by kernel_rfl) oL2 jb)))).map
    (fun a=>(⟨a.1,a.2.1,a.2.2.1⟩:CaseV)) (by
      rintro ⟨i,o,c,u⟩ ⟨h1,h2,h3,_⟩
      exact ⟨h1,h2.1,h2.2,h3.1,h3.2⟩) (fun _ _=>rfl)
theorem ss:b5 enc Tryz.prog W 22 bc (fun l=>Sh l∧∀ c ∈ l,ShC c) :=
  (e6 Tryz.underlying22 (sz:=3) (by_:=72) (by kernel_rfl) (by kernel_rfl) (by omega) (fun _=>rfl) sO).mono fun l h=>⟨by have:=h.2.2; show _ ≤ _; omega,h.1⟩
set_option maxRecDepth 100000 in
theorem rJ:b5 enc Tryz.prog W 24 bi (fun t=>Sh t.cases∧∀ c ∈ t.cases,ShC c) :=
  (gz Tryz.underlying24 (by kernel_rfl) (bP (off:=0) (off':=1) rfl (by kernel_rfl) oi (bP (off:=1) (off':=2) rfl (by kernel_rfl) oi (bP (off:=2) (off':=3) rfl (by kernel_rfl) oi (bP (off:=3) (off':=4) rfl (by kernel_rfl) ss jb))))).map
    (fun a=>(⟨a.1,a.2.1,a.2.2.1,a.2.2.2.1⟩:TaskV)) (by
      rintro ⟨n,i,o,c,u⟩ ⟨_,_,_,h,_⟩
      exact h) (fun _ _=>rfl)
end
theorem i4 {f:FuncId} {xs:List AV} {vs:List Value} (h:Go.Abs.Pure Tryz.prog f xs (.bool true)) (w:World) (hv:bj (E0 (kU w)) w xs vs) :
    Calls Tryz.prog f vs.toArray w fun e w'=>e=.returned (.bool true)∧Below w.heap.size w w':=by
  refine (h.2 (kU w) w vs (fun _ h=>h) hv).mono ?_
  rintro e w' ⟨v,imm',rfl,hb,_,_,_,hr⟩
  cases hr
  exact ⟨rfl,hb⟩
theorem wd:laidOutB Tryz.prog=true:=by kernel_rfl
end Go.Proofs.YtjgpfclngkcedaaGreat
namespace Go.Proofs.YtjgpfclngkcedaaGreat
open Go Go.Abs Go.RowKit Go.ChangeShapes Go.WideShapes Go.ChangeAt
theorem kd {H:Type} {enc:TypeId × Value→H} {P:Program} {f:Func} {s:ChangeSpec} {apart fresh handsOn again:Bool} {W W':World} {args:Array Value} {v:Value} {ds gs:List (DataW H)} {before pa pv:List MemPlace}
    (hW:DataW.Whole enc P f.params.toList s.vars apart W args.toList ds gs before)
    (hres:∀ (b:Nat) (sp:Nat→Bool) (hd:Bool),DataW.TrodAll enc P W' b sp hd f.resultTypes.toList (v.resultList f.resultTypes.size) (s.fn H (ds ++ gs)).results [])
    (hargs:∀ sp:Nat→Bool,(∀ p ∈ before,sp p.block=true)→DataW.TrodAll enc P W' 0 sp true f.params.toList args.toList (s.fn H (ds ++ gs)).args pa)
    (hvars:∀ sp:Nat→Bool,(∀ p ∈ before,sp p.block=true)→DataW.TrodVars enc P W' sp s.vars (s.fn H (ds ++ gs)).vars pv)
    (hps:before=pa ++ pv) (hb:Below W.heap.size W W')
    (hok:∀ (j:Nat) (t:TypeId) (r:Value),f.resultTypes[j]?=some t→(v.resultList f.resultTypes.size)[j]?=some r→Value.okWide P W' .any 0 t r) :
    s.post enc P f apart fresh handsOn again W args v W':=by
  have hold:∀ p ∈ before,(fun b=>decide (b < W.heap.size)) p.block=true:=fun p hp=>by simpa using hW.lt p hp
  have hlt:=fun p hp=>hW.lt p hp
  refine ⟨ds,gs,before,[],pa,pv,hW,hres _ _ _,hargs _ hold,hvars _ hold,World.keptBut_mono (fun p hp=>⟨hp,?_⟩) (hb.frame _),fun _=>?_⟩
  · rw [hps,List.mem_append] at hp
    exact Or.inr hp
  · obtain ⟨_,_,_,_,_,hz,hn⟩:=hW
    refine ⟨hok,_,_,([] ++ pa) ++ pv,⟨[] ++ pa,pv,trodAll_append (hargs _ (fun _ _=>rfl)) (hres _ _ _),hvars _ (fun _ _=>rfl),rfl,?_,?_⟩,?_⟩
    · intro b off hp
      have hp':MemPlace.cell b off ∈ before:=by rw [hps]; simpa using hp
      rw [hb.frozen (hlt _ hp')]
      exact hz b off hp'
    · intro ha
      have:=hn ha
      rw [hps] at this
      simpa using this
    · intro p hp _
      rw [hps]
      simpa using hp
theorem qk {E:Env} {w:World}:bj E w [] []:=⟨rfl,fun i x y h=>(by cases h)⟩
theorem kq {E:Env} {w:World} {x:AV} {y:Value} {xs:List AV} {ys:List Value} (h:Rel E w x y) (hs:bj E w xs ys):bj E w (x :: xs) (y :: ys):=by
  refine ⟨by simp [hs.1],fun i a b ha hb=>?_⟩
  cases i with
  | zero=>simp at ha hb; subst ha hb; exact h
  | succ i=>simp at ha hb; exact hs.2 i a b ha hb
theorem own:ownKnob Tryz.prog.godebug=none:=by kernel_rfl
end Go.Proofs.YtjgpfclngkcedaaGreat
