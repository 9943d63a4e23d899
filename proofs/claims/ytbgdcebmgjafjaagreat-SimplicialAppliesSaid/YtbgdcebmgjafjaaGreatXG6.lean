/- Texts of this claim, one after the other: T111, T112, T113, T107, T114, T115, T116, T117, T119, T124, T125, T120, T123, T126, T127, T128, T129, T130, T131, T132, A33, T122, T133, T118, T121. -/
import Derived.Test.YtbgdcebmgjafjaaGreatXG5
import Derived.Test.YtbgdcebmgjafjaaGreatXG4
import Derived.Test.YtbgdcebmgjafjaaGreatXG3
import Derived.Test.YtbgdcebmgjafjaaGreatRows
import Derived.WalkKit
import Derived.ProofKit
import Derived.OpenShut

set_option linter.unusedSimpArgs false
set_option linter.unusedVariables false
namespace Go.Proofs.YtbgdcebmgjafjaaGreat
open Go Go.Abs
def aW (l:List Spx) (s:Spx):Bool:=l.any fun t=>decide (s.length < t.length) && bN s t
def je (c:List Spx) (k:Nat):Int:=if bz (c.getD k default) ≠ 0 then bz (c.getD k default) else if 0 < k∧0 ≤ a8 (c.getD (k - 1) default) (c.getD k default) then 14 else 0
def bC (c:List Spx):Int:=if 4096 < c.length then 5 else if bL (je c) c.length ≠ 0 then bL (je c) c.length else if c.any (aW c)=true then 7 else 0
theorem du {a b:Spx}:bN a b=true ↔ ∀ v ∈ a,v ∈ b:=by
 unfold bN; rw [List.all_eq_true]
 exact ⟨fun h v hv=>of_decide_eq_true (h v hv),fun h v hv=>decide_eq_true (h v hv)⟩
theorem cU {l:List Spx} {s:Spx}:aW l s=true ↔ ∃ t ∈ l,s.length < t.length∧∀ v ∈ s,v ∈ t:=by
 unfold aW; rw [List.any_eq_true]
 constructor
 ·rintro ⟨t,ht,h⟩
  rw [Bool.and_eq_true,decide_eq_true_iff,du] at h
  exact ⟨t,ht,h⟩
 ·rintro ⟨t,ht,h⟩
  exact ⟨t,ht,by rw [Bool.and_eq_true,decide_eq_true_iff,du]; exact h⟩
theorem wy {a b:Spx} (ha:cf aR a) (hb:cf aR b) (h:∀ v ∈ a,v ∈ b) (hne:a ≠ b):a.length < b.length:=by
 have h1:a.length ≤ b.length:=List.Nodup.length_le_of_subset (ha.nodup ku) h
 rcases Nat.lt_or_ge a.length b.length with h2 | h2
 ·exact h2
 ·exfalso
  refine hne (jG ku ha hb fun x=>⟨h x,fun hx=>Decidable.byContradiction fun hn=>?_⟩)
  have h3:(x :: a).length ≤ b.length:=List.Nodup.length_le_of_subset (List.nodup_cons.2 ⟨hn,ha.nodup ku⟩) fun y hy=>by
   rcases List.mem_cons.1 hy with rfl | hy
   ·exact hx
   ·exact h y hy
  rw [List.length_cons] at h3
  omega
theorem qK {c:List Spx} (h:bL (je c) c.length=0):(∀ s ∈ c,bz s=0)∧cf a8 c:=by
 have hz:=eF h
 have h3:∀ k,k < c.length→bz (c.getD k default)=0∧(0 < k→a8 (c.getD (k - 1) default) (c.getD k default) < 0):=fun k hk=>by
  have:=hz k hk
  unfold je at this
  split at this
  ·exact absurd this ‹_›
  rename_i g1
  split at this
  ·exact absurd this (by decide)
  rename_i g2
  exact ⟨Decidable.of_not_not g1,fun h0=>by omega⟩
 constructor
 ·intro s hs
  obtain ⟨i,hi,rfl⟩:=List.getElem_of_mem hs
  have:=(h3 i hi).1
  rwa [show c.getD i default=c[i] by simp [List.getD,hi]] at this
 ·have step:∀ j i,i < j→j < c.length→a8 (c.getD i default) (c.getD j default) < 0:=by
    intro j
    induction j with
    | zero=>intro i h; omega
    | succ j ih =>
     intro i hi hj
     have hs:=(h3 (j + 1) hj).2 (by omega)
     rw [Nat.add_sub_cancel] at hs
     by_cases e:i=j
     ·subst e; exact hs
     ·exact n5.trans (ih i (by omega) (by omega)) hs
  unfold cf
  rw [List.pairwise_iff_getElem]
  intro i j hi hj hij
  have:=step j i hij hj
  simpa [List.getD,hi,hj] using this
theorem kR {c:List Spx} (h:bC c=0):c.length ≤ 4096∧(∀ s ∈ c,bz s=0)∧cf a8 c∧∀ s ∈ c,aW c s=false:=by
 unfold bC at h
 split at h
 ·exact absurd h (by decide)
 split at h
 ·exact absurd h ‹_›
 split at h
 ·exact absurd h (by decide)
 rename_i h1 h2 h3
 have:=qK (Decidable.of_not_not h2)
 refine ⟨by omega,this.1,this.2,fun s hs=>?_⟩
 cases hc:aW c s
 ·rfl
 ·exact absurd (List.any_eq_true.2 ⟨s,hs,hc⟩) h3
theorem vv {l:List Spx} {s:Spx} {p:Spx→Bool} (h0:0 < s.length) (hp:∀ t,p t=true→s.getD 0 default ∈ t):((f4 l l.length (s.getD 0 default)).map fun (n:Nat)=>(n:Int)).any (fun i=>p (l.getD i.toNat default))=l.any p:=by
 rw [Bool.eq_iff_iff,List.any_eq_true,List.any_eq_true]
 constructor
 ·rintro ⟨x,hx,h⟩
  obtain ⟨n,hn,rfl⟩:=List.mem_map.1 hx
  unfold f4 at hn
  obtain ⟨h1,_⟩:=List.mem_filter.1 hn
  rw [Int.toNat_natCast] at h
  exact ⟨_,aQ (List.mem_range.1 h1),h⟩
 ·rintro ⟨t,ht,h⟩
  obtain ⟨i,hi,rfl⟩:=List.getElem_of_mem ht
  have e:l.getD i default=l[i]:=by simp [List.getD,hi]
  refine ⟨(i:Int),List.mem_map.2 ⟨i,List.mem_filter.2 ⟨List.mem_range.2 hi,decide_eq_true ?_⟩,rfl⟩,?_⟩
  ·rw [e]; exact hp _ h
  ·rw [Int.toNat_natCast,e]; exact h
attribute [local irreducible] aE aj bd bb aM aV aB aX bf br Go.Abs.Fn ba Go.Abs.Pure ax aL Yl
theorem sk (l:List Int) (p:Int→Bool) (g:Nat) (caps:List AV) (hd:∀ x ∈ caps,Dat x) (hg:∀ x ∈ l,Pure Tryz.prog g (.int .i64 x :: caps) (.bool (p x))) (hl:Shn l):Pure Tryz.prog 127 [de l,.func g caps] (.int .i64 (if l.any p then (l.findIdx p:Nat) else -1)):=by
 refine Pure.of_c2 follows vW (Nat.le_of_ble_eq_true rfl) ?_
 simp only [w9,cO,cG,cN,cM,cD,cF,cB,ar,aH]
 have hl':l.length ≤ 17592186044416:=hl
 (have zz:=and_self; repeat' (first | refine zW ?_ | apply a_n | refine zO ?_ | refine vZ ?_ | fail)) <;> (try clear zz)
 refine aO (X:=Nat) (fun k=>[(0,de l),(1,.func g caps),(6,de l),(7,.int .i64 l.length),(8,.int .i64 k)]) (fun k H nx=>k ≤ l.length∧∀ i,i < k→p (l.getD i default)=false) (fun k=>l.length - k) 0 ⟨Nat.zero_le _,fun i h=>absurd h (by omega)⟩ ag0 ?_
 rintro k H nx ⟨hk,hz⟩
 by_cases hk2:k < l.length
 rotate_left
 ·rw [jH fun i hi=>hz i (by omega),if_neg (by decide)]
  (have zz:=and_self; repeat' (first | refine zW ?_ | apply a_n | apply a_x | refine zO ?_ | refine vY ?_ | (refine zGY ?_ ?_ <;> (intro _hg; try (exfalso; omega))) | refine ag rfl ?_ | refine r1Y ?_ | fail)) <;> (try clear zz)
  exact bI rfl
 have hc:=hg _ (aw hk2)
 cases hp:p (l.getD k default)
 ·rw [hp] at hc
  (have zz:=and_self; repeat' (first | refine zW ?_ | apply a_n | refine zO ?_ | refine vY ?_ | (refine zGY ?_ ?_ <;> (intro _hg; try (exfalso; omega))) | fail)) <;> (try clear zz)
  refine dQ ev0 ev0 hc (ac (aK (.int _ _) (aq hd))) ?_
  (have zz:=and_self; repeat' (first | apply a_n | refine zO ?_ | refine vY ?_ | refine cFY ?_ | fail)) <;> (try clear zz)
  exact ⟨k + 1,by omega,⟨by omega,fun i hi=>by
   rcases Nat.lt_succ_iff_lt_or_eq.1 hi with h | rfl
   ·exact hz i h
   ·exact hp⟩,ag0⟩
 ·rw [hp] at hc
  obtain ⟨e1,e2⟩:=oE hk2 hz hp
  rw [e1,e2,if_pos rfl]
  (have zz:=and_self; repeat' (first | refine zW ?_ | apply a_n | refine zO ?_ | refine vY ?_ | (refine zGY ?_ ?_ <;> (intro _hg; try (exfalso; omega))) | fail)) <;> (try clear zz)
  refine dQ ev0 ev0 hc (ac (aK (.int _ _) (aq hd))) ?_
  (have zz:=and_self; repeat' (first | refine zW ?_ | apply a_n | apply a_r | refine zO ?_ | refine vY ?_ | refine cTY ?_ | refine ag rfl ?_ | refine r1Y ?_ | fail)) <;> (try clear zz)
  exact .int _ _
theorem n8 (l:List Int) (p:Int→Bool) (g:Nat) (caps:List AV) (hd:∀ x ∈ caps,Dat x) (hg:∀ x ∈ l,Pure Tryz.prog g (.int .i64 x :: caps) (.bool (p x))) (hl:Shn l):Pure Tryz.prog 103 [de l,.func g caps] (.bool (l.any p)):=by
 refine Pure.of_c2 follows v5 (Nat.le_of_ble_eq_true rfl) ?_
 simp only [wR,cO,cG,cN,cM,cD,cF,cB,ar,aH]
 have h:=sk l p g caps hd hg hl
 (have zz:=and_self; repeat' (first | refine zW ?_ | apply a_n | refine zO ?_ | refine vZ ?_ | refine cZ ?_ (hp:=h) (hs:=by (first | refine aa ?_ rfl | apply ac); (repeat' (first | exact ab | apply ah | apply ae | exact gw _ | exact Dat.func hd)); first | done | fail) | refine ag rfl ?_ | refine r1Z ?_ | fail)) <;> (try clear zz)
 cases hA:l.any p
 ·exact bx (by simp)
 ·exact bx (by simp)
def OkS (l:List Spx):Prop:=l.length ≤ 100000∧∀ s ∈ l,cf aR s∧s.length ≤ 1000
theorem qv (l:List Spx) (s:Spx) (i:Nat) (hl:OkS l) (hs:cf aR s∧s.length ≤ 1000) (hi:i < l.length):Pure Tryz.prog 104 [.int .i64 i,.iptr [aG l] 0,.iptr [au s] 0] (.bool (decide (s.length < (l.getD i default).length) && bN s (l.getD i default))):=by
 refine Pure.of_c2 follows v7 (Nat.le_of_ble_eq_true rfl) ?_
 simp only [xj,cO,cG,cN,cM,cD,cF,cB,ar,aH]
 have ix:=ew hi
 obtain ⟨t1,t2⟩:=hl.2 _ (aQ hi)
 have hf:=xc s (l.getD i default) hs.1 t1 (by omega) (by omega)
 generalize l.getD i default=t at *
 by_cases h:s.length < t.length
 ·have z:decide ((s.length:Int) < t.length)=true:=decide_eq_true (by omega)
  rw [decide_eq_true h,Bool.true_and]
  (have zz:=aI @af (aI @ix @z); repeat' (first | refine zW ?_ | refine zM ?_ | apply a_n | refine zO ?_ | refine vZ ?_ | refine cZ ?_ (hp:=hf) (hs:=by (first | refine aa ?_ rfl | apply ac); (repeat' (first | exact ab | apply ah | apply ae | exact am _)); first | done | fail) | refine gTZ ?_ | refine ag rfl ?_ | refine r1Z ?_ | fail)) <;> (try clear zz)
  exact .bool _
 ·have z:decide ((s.length:Int) < t.length)=false:=decide_eq_false (by omega)
  rw [decide_eq_false h,Bool.false_and]
  (have zz:=aI @af (aI @ix @z); repeat' (first | refine zW ?_ | refine zM ?_ | apply a_n | refine zO ?_ | refine vZ ?_ | refine gFZ ?_ | refine ag rfl ?_ | refine r1Z ?_ | fail)) <;> (try clear zz)
  exact .bool _
theorem mL (l:List Spx) (s:Spx) (hl:OkS l) (hs:cf aR s∧s.length ≤ 1000) (h0:0 < s.length):Pure Tryz.prog 70 [aG l,de ((f4 l l.length (s.getD 0 default)).map fun (n:Nat)=>(n:Int)),au s] (.bool (aW l s)):=by
 refine Pure.of_c2 follows zi (Nat.le_of_ble_eq_true rfl) ?_
 simp only [b70,cO,cG,cN,cM,cD,cF,cB,ar,aH]
 have hll:=hl.1
 have h:=n8 ((f4 l l.length (s.getD 0 default)).map fun (n:Nat)=>(n:Int)) (fun i=>decide (s.length < (l.getD i.toNat default).length) && bN s (l.getD i.toNat default)) 104 [.iptr [aG l] 0,.iptr [au s] 0] (DatL.cons (Dat.iptr (DatL.cons (bi _) DatL.nil)) (DatL.cons (Dat.iptr (DatL.cons (am _) DatL.nil)) DatL.nil)) (fun x hx=>by
  obtain ⟨n,hn,rfl⟩:=List.mem_map.1 hx
  have hn2:n < l.length:=List.mem_range.1 (List.mem_filter.1 hn).1
  rw [Int.toNat_natCast]
  exact qv l s n hl hs hn2) (by rw [Shn,List.length_map]; have:=oh (l:=l) (i:=l.length) (v:=s.getD 0 default); omega)
 rw [vv (p:=fun t=>decide (s.length < t.length) && bN s t) h0 (fun t ht=>by
  rw [Bool.and_eq_true,du] at ht
  exact ht.2 _ (aQ h0))] at h
 (have zz:=aI @aJ (aI @az (aI @aD @av)); repeat' (first | refine zW ?_ | apply a_n | refine zO ?_ | refine vZ ?_ | refine bxZ ?_ | fail)) <;> (try clear zz)
 refine dQ (have zz:=aI @aJ (aI @az (aI @aD @av)); evZ) (have zz:=aI @aJ (aI @az (aI @aD @av)); evZ) h (aa (aK (gw _ _) (aK (si (aK (iC rfl rfl (aK (bi _ _) ab)) (aK (iC rfl rfl (aK (am _ _) ab)) ab))) ab)) rfl) ?_
 (have zz:=and_self; repeat' (first | apply a_n | refine zO ?_ | refine vZ ?_ | refine ag rfl ?_ | refine r1Z ?_ | fail)) <;> (try clear zz)
 exact .bool _
end Go.Proofs.YtbgdcebmgjafjaaGreat
namespace Go.Proofs.YtbgdcebmgjafjaaGreat
open Go Go.Abs
theorem rg {H:Hp} {sv:AV} {F:List Nat} (h:Row H 1 sv (F.map u0)):Snap H sv (de (F.map fun (n:Nat)=>(n:Int))):=by
 refine Row.snapI ?_
 rw [List.map_map]; exact h
theorem mh {c:List Spx} {k:Nat}:je c k=if bz (c.getD k default) ≠ 0 then bz (c.getD k default) else if 0 < k∧0 ≤ a8 (c.getD (k - 1) default) (c.getD k default) then 14 else 0:=rfl
theorem ui {c:List Spx} (h1:c.length ≤ 4096) (h:∀ s ∈ c,bz s=0):OkS c:=⟨by omega,fun s hs=>by
 obtain ⟨a1,a2,a3,a4⟩:=cR (h s hs)
 exact ⟨a3,by omega⟩⟩
theorem oo {H:Hp} {b:Nat} {cs:List AV} (h:H b=some cs):Sub (only b cs) H:=fun x c hx=>by
 unfold only at hx
 split at hx
 ·rename_i e; rw [e,h]; exact hx
 ·cases hx
def on2 (b1:Nat) (c1:List AV) (b2:Nat) (c2:List AV):Hp:=fun x=>if x=b1 then some c1 else if x=b2 then some c2 else none
theorem xX {b1 b2:Nat} {c1 c2:List AV}:on2 b1 c1 b2 c2 b1=some c1:=if_pos rfl
theorem x5 {b1 b2:Nat} {c1 c2:List AV} (h:b2 ≠ b1):on2 b1 c1 b2 c2 b2=some c2:=by unfold on2; rw [if_neg h,if_pos rfl]
theorem qU {b1 b2:Nat} {c1 c2:List AV} {H:Hp} (h1:H b1=some c1) (h2:H b2=some c2):Sub (on2 b1 c1 b2 c2) H:=fun x cs h=>by
 unfold on2 at h
 split at h
 ·rename_i e; rw [e,h1]; exact h
 ·split at h
  ·rename_i e; rw [e,h2]; exact h
  ·cases h
theorem pZ {P:Program} {T:Tm} {H:Hp} {nx:Nat} (b1 b2:Nat) {c1 c2:List AV} {K:CP} {m:Nat} {l:List Op2} {C:List (Nat × Nat)} (h1:H b1=some c1) (h2:H b2=some c2) (hne:b2 ≠ b1) (k:∀ S:Hp,S b1=some c1→S b2=some c2→(∀ H':Hp,H' b1=some c1→H' b2=some c2→Sub S H')→aZ P S (C.map fun k=>(l.getD k.1 ⟨none,none,.dead⟩,k.2)) T H nx fun T H nx=>K .normal T H nx):aE P (.mixS m l C) T H nx K :=
 tP (on2 b1 c1 b2 c2) rfl (qU h1 h2) (k _ xX (x5 hne) fun _ a b=>qU a b)
theorem nM {P:Program} {T:Tm} {H:Hp} {nx:Nat} (b:Nat) {c:List AV} {K:CP} {m:Nat} {l:List Op2} {C:List (Nat × Nat)} (h:H b=some c) (k:∀ S:Hp,S b=some c→(∀ H':Hp,H' b=some c→Sub S H')→aZ P S (C.map fun k=>(l.getD k.1 ⟨none,none,.dead⟩,k.2)) T H nx fun T H nx=>K .normal T H nx):aE P (.mixS m l C) T H nx K :=
 tP (only b c) rfl (oo h) (k _ kF fun _ h=>oo h)
attribute [local irreducible] aE aj bd bb aM aV aB aX bf br Go.Abs.Fn ba Go.Abs.Pure ax aL Yl
set_option maxHeartbeats 2000000 in
theorem uB (c:List Spx) (hc:Shn c) (hs:∀ s ∈ c,Shn s):Pure Tryz.prog 29 [dj c] (.int .i64 (bC c)):=by
 refine Pure.of_c2 follows xO (Nat.le_of_ble_eq_true rfl) ?_
 simp only [b29,cO,cG,cN,cM,cD,cF,cB,ar,aH]
 have hc':c.length ≤ 17592186044416:=hc
 by_cases h0:4096 < c.length
 ·rw [show bC c=5 by unfold bC; rw [if_pos h0]]
  (have zz:=aI @ai (aI @aJ @az); repeat' (first | refine zW ?_ | apply a_n | apply a_r | refine zO ?_ | refine vZ ?_ | refine bxZ ?_ | (refine zGZ ?_ ?_ <;> (intro _hg; try (exfalso; omega))) | refine ag rfl ?_ | refine r1Z ?_ | fail)) <;> (try clear zz)
  all_goals exact bI rfl
 rw [show bC c=if bL (je c) c.length ≠ 0 then bL (je c) c.length else if c.any (aW c)=true then 7 else 0 by unfold bC; rw [if_neg h0]]
 refine dJ ?_
 (have zz:=aI @ai (aI @aJ @az); repeat' (first | apply a_n | refine zO ?_ | refine vZ ?_ | refine bxZ ?_ | fail)) <;> (try clear zz)
 refine dJ (dJ ?_)
 (have zz:=aI @ai (aI @aJ @az); repeat' (first | apply a_n | refine zO ?_ | refine vZ ?_ | (refine zGZ ?_ ?_ <;> (intro _hg; try (exfalso; omega))) | fail)) <;> (try clear zz)
 by_cases hz:bL (je c) c.length ≠ 0
 ·rw [if_pos hz]
  (have zz:=aI @ai (aI @aJ @az); repeat' (first | refine zW ?_ | apply a_n | refine zO ?_ | refine vZ ?_ | fail)) <;> (try clear zz)
  refine aO (X:=Nat) (fun k=>[(1,.ptr 0 1 0),(14,aG c),(15,.int .i64 c.length),(16,.int .i64 k)]) (fun k H nx=>k ≤ c.length∧H 0=some [aG c]∧∀ i,i < k→je c i=0) (fun k=>c.length - k) 0 ⟨Nat.zero_le _,rfl,fun i h=>absurd h (by omega)⟩ (by (iterate 4 refine And.intro rfl ?_); trivial) ?_
  rintro k H nx ⟨h1,g0,h2⟩
  by_cases hk:k < c.length
  rotate_left
  ·exact absurd (bX fun i hi=>h2 i (by omega)) hz
  have ix:=ew hk
  have hs1:=hs _ (aQ hk)
  have hp:=i5 (c.getD k default) hs1
  have hsp:=mh (c:=c) (k:=k)
  by_cases he:bz (c.getD k default) ≠ 0
  ·rw [if_pos he] at hsp
   rw [bu hk h2 (by rw [hsp]; exact he),hsp]
   have z:decide (bz (c.getD k default) ≠ 0)=true:=decide_eq_true he
   (have zz:=aI @ai (aI @ix @z); repeat' (first | refine zW ?_ | apply a_n | apply a_r | refine zO ?_ | refine vY ?_ | refine cY ?_ (hp:=hp) (hs:=by (first | refine aa ?_ rfl | apply ac); (repeat' (first | exact ab | apply ah | apply ae | exact am _)); first | done | fail) | refine cTY ?_ | (refine zGY ?_ ?_ <;> (intro _hg; try (exfalso; omega))) | refine ag rfl ?_ | refine r1Y ?_ | fail)) <;> (try clear zz)
   exact .int _ _
  rw [if_neg he] at hsp
  have he:=Decidable.of_not_not he
  rw [he] at hp
  have z:decide ((0:Int) ≠ 0)=false:=rfl
  by_cases hk0:0 < k
  rotate_left
  ·rw [if_neg (fun h=>hk0 h.1)] at hsp
   have zk:decide (0 < (k:Int))=false:=decide_eq_false (by omega)
   (have zz:=aI @ai (aI @ix (aI @z @zk)); repeat' (first | refine zW ?_ | apply a_n | refine zO ?_ | refine vY ?_ | refine cY ?_ (hp:=hp) (hs:=by (first | refine aa ?_ rfl | apply ac); (repeat' (first | exact ab | apply ah | apply ae | exact am _)); first | done | fail) | refine gFY ?_ | refine cFY ?_ | (refine zGY ?_ ?_ <;> (intro _hg; try (exfalso; omega))) | fail)) <;> (try clear zz)
   exact ⟨k + 1,by omega,⟨by omega,g0,fun i hi=>by
    rcases Nat.lt_succ_iff_lt_or_eq.1 hi with h' | rfl
    ·exact h2 i h'
    ·exact hsp⟩,ag0⟩
  have zk:decide (0 < (k:Int))=true:=decide_eq_true (by omega)
  have iy:dI 1 (aG c) (.int .i64 ((k:Int) - 1))=some (.iptr [au (c.getD (k - 1) default)] 0):=by
   have:=ew (l:=c) (k:=k - 1) (by omega)
   rwa [show ((k - 1:Nat):Int)=(k:Int) - 1 by omega] at this
  have hcm:=jk (c.getD (k - 1) default) (c.getD k default) (hs _ (aQ (by omega))) hs1
  by_cases hv:0 ≤ a8 (c.getD (k - 1) default) (c.getD k default)
  ·have z2:decide (0 ≤ a8 (c.getD (k - 1) default) (c.getD k default))=true:=decide_eq_true hv
   rw [if_pos ⟨hk0,hv⟩] at hsp
   rw [bu hk h2 (by rw [hsp]; decide),hsp]
   (have zz:=aI @ai (aI @ix (aI @iy (aI @z (aI @zk (aI @z2 @g0))))); repeat' (first | refine zW ?_ | apply a_n | apply a_r | refine zO ?_ | refine vY ?_ | refine cY ?_ (hp:=by first | exact hp | exact hcm) (hs:=by (first | refine aa ?_ rfl | apply ac); (repeat' (first | exact ab | apply ah | apply ae | exact am _)); first | done | fail) | refine gTY ?_ | refine cTY ?_ | refine cFY ?_ | (refine zGY ?_ ?_ <;> (intro _hg; try (exfalso; omega))) | refine ag rfl ?_ | refine r1Y ?_ | fail)) <;> (try clear zz)
   exact .int _ _
  ·have z2:decide (0 ≤ a8 (c.getD (k - 1) default) (c.getD k default))=false:=decide_eq_false hv
   rw [if_neg (fun h=>hv h.2)] at hsp
   (have zz:=aI @ai (aI @ix (aI @iy (aI @z (aI @zk (aI @z2 @g0))))); repeat' (first | refine zW ?_ | apply a_n | refine zO ?_ | refine vY ?_ | refine cY ?_ (hp:=by first | exact hp | exact hcm) (hs:=by (first | refine aa ?_ rfl | apply ac); (repeat' (first | exact ab | apply ah | apply ae | exact am _)); first | done | fail) | refine gTY ?_ | refine cFY ?_ | (refine zGY ?_ ?_ <;> (intro _hg; try (exfalso; omega))) | fail)) <;> (try clear zz)
   exact ⟨k + 1,by omega,⟨by omega,g0,fun i hi=>by
    rcases Nat.lt_succ_iff_lt_or_eq.1 hi with h' | rfl
    ·exact h2 i h'
    ·exact hsp⟩,ag0⟩
 have hz:=Decidable.of_not_not hz
 rw [if_neg (fun h=>h hz)]
 obtain ⟨a1,a2⟩:=qK hz
 have hall:=eF hz
 have hok:=ui (by omega) a1
 refine aN (fun T H nx=>T 1=.ptr 0 1 0∧H 0=some [aG c]∧1 ≤ nx) ?_ ?_
 ·(have zz:=aI @ai (aI @aJ @az); repeat' (first | refine zW ?_ | apply a_n | refine zO ?_ | refine vZ ?_ | fail)) <;> (try clear zz)
  refine aO (X:=Nat) (fun k=>[(1,.ptr 0 1 0),(14,aG c),(15,.int .i64 c.length),(16,.int .i64 k)]) (fun k H nx=>k ≤ c.length∧H 0=some [aG c]∧1 ≤ nx) (fun k=>c.length - k) 0 ⟨Nat.zero_le _,rfl,by omega⟩ (by (iterate 4 refine And.intro rfl ?_); trivial) ?_
  rintro k H nx ⟨h1,g0,hnx⟩
  by_cases hk:k < c.length
  rotate_left
  ·(have zz:=and_self; repeat' (first | refine zW ?_ | apply a_n | apply a_x | refine zO ?_ | refine vY ?_ | (refine zGY ?_ ?_ <;> (intro _hg; try (exfalso; omega))) | fail)) <;> (try clear zz)
   exact ⟨rfl,g0,hnx⟩
  have ix:=ew hk
  have hs1:=hs _ (aQ hk)
  have hp:=i5 (c.getD k default) hs1
  rw [a1 _ (aQ hk)] at hp
  have z:decide ((0:Int) ≠ 0)=false:=rfl
  by_cases hk0:0 < k
  rotate_left
  ·have zk:decide (0 < (k:Int))=false:=decide_eq_false (by omega)
   (have zz:=aI @ai (aI @ix (aI @z @zk)); repeat' (first | refine zW ?_ | apply a_n | refine zO ?_ | refine vY ?_ | refine cY ?_ (hp:=hp) (hs:=by (first | refine aa ?_ rfl | apply ac); (repeat' (first | exact ab | apply ah | apply ae | exact am _)); first | done | fail) | refine gFY ?_ | refine cFY ?_ | (refine zGY ?_ ?_ <;> (intro _hg; try (exfalso; omega))) | fail)) <;> (try clear zz)
   exact ⟨k + 1,by omega,⟨by omega,g0,hnx⟩,ag0⟩
  have zk:decide (0 < (k:Int))=true:=decide_eq_true (by omega)
  have iy:dI 1 (aG c) (.int .i64 ((k:Int) - 1))=some (.iptr [au (c.getD (k - 1) default)] 0):=by
   have:=ew (l:=c) (k:=k - 1) (by omega)
   rwa [show ((k - 1:Nat):Int)=(k:Int) - 1 by omega] at this
  have hcm:=jk (c.getD (k - 1) default) (c.getD k default) (hs _ (aQ (by omega))) hs1
  have z2:decide (0 ≤ a8 (c.getD (k - 1) default) (c.getD k default))=false:=decide_eq_false (by have:=dF a2 (i:=k - 1) (j:=k) (by omega) hk; omega)
  (have zz:=aI @ai (aI @ix (aI @iy (aI @z (aI @zk (aI @z2 @g0))))); repeat' (first | refine zW ?_ | apply a_n | refine zO ?_ | refine vY ?_ | refine cY ?_ (hp:=by first | exact hp | exact hcm) (hs:=by (first | refine aa ?_ rfl | apply ac); (repeat' (first | exact ab | apply ah | apply ae | exact am _)); first | done | fail) | refine gTY ?_ | refine cFY ?_ | (refine zGY ?_ ?_ <;> (intro _hg; try (exfalso; omega))) | fail)) <;> (try clear zz)
  exact ⟨k + 1,by omega,⟨by omega,g0,hnx⟩,ag0⟩
 rintro T H nx ⟨t1,g0,hnx⟩
 (have zz:=aI @t1 @g0; repeat' (first | refine zW ?_ | apply a_n | refine zO ?_ | refine vY ?_ | fail)) <;> (try clear zz)
 refine ay ev0 (have zz:=@t1; evZ) (j8 c hok.1 (fun s hs=>⟨(hok.2 s hs).1,by have:=(hok.2 s hs).2; omega⟩) _ _) ?_
 rintro _ H1 nx1 ⟨ks,vs,rfl,hinc,hsame,hlt⟩
 have g0':H1 0=some [aG c]:=(hsame 0 (by omega)).trans g0
 (have zz:=aI @t1 (aI @g0' @ai); repeat' (first | refine zW ?_ | apply a_n | refine zO ?_ | refine vY ?_ | fail)) <;> (try clear zz)
 refine aO (X:=Nat) (fun k=>[(1,.ptr 0 1 0),(6,.mp nx),(44,aG c),(45,.int .i64 c.length),(46,.int .i64 k)]) (fun k H' nx'=>k ≤ c.length∧H'=H1∧nx'=nx1∧∀ i,i < k→aW c (c.getD i default)=false) (fun k=>c.length - k) 0 ⟨Nat.zero_le _,rfl,rfl,fun i h=>absurd h (by omega)⟩ (have zz:=@t1; agZ) ?_
 rintro k H' nx' ⟨h1,rfl,rfl,h2⟩
 by_cases hk:k < c.length
 rotate_left
 ·rw [jH fun i hi=>h2 i (by omega),if_neg (by decide)]
  (have zz:=and_self; repeat' (first | refine zW ?_ | apply a_n | apply a_x | refine zO ?_ | refine vY ?_ | (refine zGY ?_ ?_ <;> (intro _hg; try (exfalso; omega))) | refine ag rfl ?_ | refine r1Y ?_ | fail)) <;> (try clear zz)
  exact .int _ _
 have ix:=ew hk
 obtain ⟨p1,p2,p3,p4⟩:=cR (a1 _ (aQ hk))
 have hcv:=mL c (c.getD k default) hok (hok.2 _ (aQ hk)) (by omega)
 have iy:=ix2 (l:=c.getD k default) (k:=0) (by omega)
 rw [show ((0:Nat):Int)=0 from rfl] at iy
 have hks:(c.getD k default).getD 0 default ∈ ks:=(hinc.dom _).2 fun e=>by
  have:k ∈ f4 c c.length ((c.getD k default).getD 0 default):=List.mem_filter.2 ⟨List.mem_range.2 hk,decide_eq_true (aQ (by omega))⟩
  rw [e] at this; cases this
 have hmf:=kN ((c.getD k default).getD 0 default) ks
 rw [if_pos hks] at hmf
 obtain ⟨m1,m2⟩:=fO hks
 have hr:=hinc.row _ m1
 rw [m2] at hr
 have hcb:aW c (c.getD k default)=true→c.any (aW c)=true:=fun h=>List.any_eq_true.2 ⟨_,aQ hk,h⟩
 generalize hsk:c.getD k default=s at *
 (have zz:=@ix; repeat' (first | refine zW ?_ | apply a_n | refine zO ?_ | refine vY ?_ | (refine zGY ?_ ?_ <;> (intro _hg; try (exfalso; omega))) | fail)) <;> (try clear zz)
 refine nM 0 g0' fun S hS0 hsub'=>?_
 have hsub:=hsub' H' g0'
 (have zz:=aI @hS0 @iy; repeat' (first | apply a_n | refine zO ?_ | refine nvY ?_ | fail)) <;> (try clear zz)
 refine qf ?_
 refine nL ev0 hinc.box ev0 (lA _) hmf ?_
 refine tZ ⟨hsub,?_⟩
 rw [show mget .esl false (some (ks.idxOf (s.getD 0 default))) vs=vs.getD (ks.idxOf (s.getD 0 default)) .undef from rfl]
 refine oz ?_
 cases hb:aW c s
 ·rw [hb] at hcv
  refine dQ ev0 ev0 hcv (aa (aK (bi _ _) (aK (rg hr) (aK (am _ _) ab))) rfl) ?_
  (have zz:=and_self; repeat' (first | apply a_n | refine zO ?_ | refine vY ?_ | refine cFY ?_ | fail)) <;> (try clear zz)
  exact ⟨k + 1,by omega,⟨by omega,rfl,rfl,fun i hi=>by
   rcases Nat.lt_succ_iff_lt_or_eq.1 hi with h' | rfl
   ·exact h2 i h'
   ·rw [hsk]; exact hb⟩,ag0⟩
 ·rw [hb] at hcv
  rw [hcb hb,if_pos rfl]
  refine dQ ev0 ev0 hcv (aa (aK (bi _ _) (aK (rg hr) (aK (am _ _) ab))) rfl) ?_
  (have zz:=and_self; repeat' (first | refine zW ?_ | apply a_n | apply a_r | refine zO ?_ | refine vY ?_ | refine cTY ?_ | refine ag rfl ?_ | refine r1Y ?_ | fail)) <;> (try clear zz)
  exact .int _ _
end Go.Proofs.YtbgdcebmgjafjaaGreat
namespace Go.Proofs.YtbgdcebmgjafjaaGreat
open Go Go.Abs
open Nat (reduceEqDiff reduceAdd reduceLeDiff)
theorem sE {c:List Spx} (h1:∀ s ∈ c,cf aR s) (h2:cf a8 c) {i k:Nat} (hi:i < c.length) (hk:k < c.length) (hik:i ≠ k) (h:bN (c.getD i default) (c.getD k default)=true):aW c (c.getD i default)=true:=by
 refine cU.2 ⟨_,aQ hk,wy (h1 _ (aQ hi)) (h1 _ (aQ hk)) (du.1 h) fun e=>?_,du.1 h⟩
 rcases Nat.lt_trichotomy i k with q | q | q
 ·have:=dF h2 q hk; rw [e] at this; exact n5.ord.irr _ this
 ·exact hik q
 ·have:=dF h2 q hi; rw [e] at this; exact n5.ord.irr _ this
theorem uo {c:List Spx} {i:Nat} (h:aW c (c.getD i default)=true):∃ k,k < c.length∧i ≠ k∧bN (c.getD i default) (c.getD k default)=true:=by
 obtain ⟨t,ht,h1,h2⟩:=cU.1 h
 obtain ⟨k,hk,rfl⟩:=List.getElem_of_mem ht
 have e:c.getD k default=c[k]:=by simp [List.getD,hk]
 refine ⟨k,hk,fun hik=>?_,by rw [e]; exact du.2 h2⟩
 subst hik
 rw [e] at h1; omega
attribute [local irreducible] aE aj bd bb aM aV aB aX bf br Go.Abs.Fn ba Go.Abs.Pure ax aL Yl
set_option maxHeartbeats 2000000 in
theorem u7 (c:List Spx) (hc:Shn c) (hs:∀ s ∈ c,Shn s):Pure Tryz.prog 51 [dj c] (.int .i64 (bC c)):=by
 refine Pure.of_c2 follows zv (Nat.le_of_ble_eq_true rfl) ?_
 simp only [b51,cO,cG,cN,cM,cD,cF,cB,ar,aH]
 have hc':c.length ≤ 17592186044416:=hc
 by_cases h0:4096 < c.length
 ·rw [show bC c=5 by unfold bC; rw [if_pos h0]]
  (have zz:=aI @ai (aI @aJ @az); repeat' (first | refine zW ?_ | apply a_n | apply a_r | refine zO ?_ | refine vZ ?_ | refine bxZ ?_ | (refine zGZ ?_ ?_ <;> (intro _hg; try (exfalso; omega))) | refine ag rfl ?_ | refine r1Z ?_ | fail)) <;> (try clear zz)
  all_goals exact bI rfl
 rw [show bC c=if bL (je c) c.length ≠ 0 then bL (je c) c.length else if c.any (aW c)=true then 7 else 0 by unfold bC; rw [if_neg h0]]
 refine dJ ?_
 (have zz:=aI @ai (aI @aJ @az); repeat' (first | apply a_n | refine zO ?_ | refine vZ ?_ | refine bxZ ?_ | fail)) <;> (try clear zz)
 refine dJ ?_
 (have zz:=aI @ai (aI @aJ @az); repeat' (first | apply a_n | refine zO ?_ | refine vZ ?_ | fail)) <;> (try clear zz)
 refine dJ (dJ ?_)
 (have zz:=aI @ai (aI @aJ @az); repeat' (first | apply a_n | refine zO ?_ | refine vZ ?_ | (refine zGZ ?_ ?_ <;> (intro _hg; try (exfalso; omega))) | fail)) <;> (try clear zz)
 by_cases hz:bL (je c) c.length ≠ 0
 ·rw [if_pos hz]
  (have zz:=aI @ai (aI @aJ @az); repeat' (first | refine zW ?_ | apply a_n | refine zO ?_ | refine vZ ?_ | fail)) <;> (try clear zz)
  refine aO (X:=Nat) (fun k=>[(3,aG c),(4,.int .i64 k)]) (fun k H nx=>k ≤ c.length∧∀ i,i < k→je c i=0) (fun k=>c.length - k) 0 ⟨Nat.zero_le _,fun i h=>absurd h (by omega)⟩ ag0 ?_
  rintro k H nx ⟨h1,h2⟩
  by_cases hk:k < c.length
  rotate_left
  ·exact absurd (bX fun i hi=>h2 i (by omega)) hz
  have ix:=ew hk
  have hs1:=hs _ (aQ hk)
  have hp:=ns (c.getD k default) hs1
  have hsp:=mh (c:=c) (k:=k)
  by_cases he:bz (c.getD k default) ≠ 0
  ·rw [if_pos he] at hsp
   rw [bu hk h2 (by rw [hsp]; exact he),hsp]
   have z:decide (bz (c.getD k default) ≠ 0)=true:=decide_eq_true he
   (have zz:=aI @ai (aI @ix @z); repeat' (first | refine zW ?_ | apply a_n | apply a_r | refine zO ?_ | refine vY ?_ | refine cY ?_ (hp:=hp) (hs:=by (first | refine aa ?_ rfl | apply ac); (repeat' (first | exact ab | apply ah | apply ae | exact am _)); first | done | fail) | refine cTY ?_ | (refine zGY ?_ ?_ <;> (intro _hg; try (exfalso; omega))) | refine ag rfl ?_ | refine r1Y ?_ | fail)) <;> (try clear zz)
   exact .int _ _
  rw [if_neg he] at hsp
  have he:=Decidable.of_not_not he
  rw [he] at hp
  have z:decide ((0:Int) ≠ 0)=false:=rfl
  by_cases hk0:0 < k
  rotate_left
  ·rw [if_neg (fun h=>hk0 h.1)] at hsp
   have zk:decide (0 < (k:Int))=false:=decide_eq_false (by omega)
   (have zz:=aI @ai (aI @ix (aI @z @zk)); repeat' (first | refine zW ?_ | refine zM ?_ | apply a_n | refine zO ?_ | refine vY ?_ | refine cY ?_ (hp:=hp) (hs:=by (first | refine aa ?_ rfl | apply ac); (repeat' (first | exact ab | apply ah | apply ae | exact am _)); first | done | fail) | refine gFY ?_ | refine cFY ?_ | (refine zGY ?_ ?_ <;> (intro _hg; try (exfalso; omega))) | fail)) <;> (try clear zz)
   exact ⟨k + 1,by omega,⟨by omega,fun i hi=>by
    rcases Nat.lt_succ_iff_lt_or_eq.1 hi with h' | rfl
    ·exact h2 i h'
    ·exact hsp⟩,ag0⟩
  have zk:decide (0 < (k:Int))=true:=decide_eq_true (by omega)
  have iy:dI 1 (aG c) (.int .i64 ((k:Int) - 1))=some (.iptr [au (c.getD (k - 1) default)] 0):=by
   have:=ew (l:=c) (k:=k - 1) (by omega)
   rwa [show ((k - 1:Nat):Int)=(k:Int) - 1 by omega] at this
  have hcm:=fR (c.getD (k - 1) default) (c.getD k default) (hs _ (aQ (by omega))) hs1
  by_cases hv:0 ≤ a8 (c.getD (k - 1) default) (c.getD k default)
  ·have z2:decide (0 ≤ a8 (c.getD (k - 1) default) (c.getD k default))=true:=decide_eq_true hv
   rw [if_pos ⟨hk0,hv⟩] at hsp
   rw [bu hk h2 (by rw [hsp]; decide),hsp]
   (have zz:=aI @ai (aI @ix (aI @iy (aI @z (aI @zk @z2)))); repeat' (first | refine zW ?_ | refine zM ?_ | apply a_n | apply a_r | refine zO ?_ | refine vY ?_ | refine cY ?_ (hp:=by first | exact hp | exact hcm) (hs:=by (first | refine aa ?_ rfl | apply ac); (repeat' (first | exact ab | apply ah | apply ae | exact am _)); first | done | fail) | refine gTY ?_ | refine cTY ?_ | refine cFY ?_ | (refine zGY ?_ ?_ <;> (intro _hg; try (exfalso; omega))) | refine ag rfl ?_ | refine r1Y ?_ | fail)) <;> (try clear zz)
   exact .int _ _
  ·have z2:decide (0 ≤ a8 (c.getD (k - 1) default) (c.getD k default))=false:=decide_eq_false hv
   rw [if_neg (fun h=>hv h.2)] at hsp
   (have zz:=aI @ai (aI @ix (aI @iy (aI @z (aI @zk @z2)))); repeat' (first | refine zW ?_ | refine zM ?_ | apply a_n | refine zO ?_ | refine vY ?_ | refine cY ?_ (hp:=by first | exact hp | exact hcm) (hs:=by (first | refine aa ?_ rfl | apply ac); (repeat' (first | exact ab | apply ah | apply ae | exact am _)); first | done | fail) | refine gTY ?_ | refine cFY ?_ | (refine zGY ?_ ?_ <;> (intro _hg; try (exfalso; omega))) | fail)) <;> (try clear zz)
   exact ⟨k + 1,by omega,⟨by omega,fun i hi=>by
    rcases Nat.lt_succ_iff_lt_or_eq.1 hi with h' | rfl
    ·exact h2 i h'
    ·exact hsp⟩,ag0⟩
 have hz:=Decidable.of_not_not hz
 rw [if_neg (fun h=>h hz)]
 obtain ⟨a1,a2⟩:=qK hz
 have hok:=ui (by omega) a1
 refine aN (fun T H nx=>T 3=aG c) ?_ ?_
 ·(have zz:=aI @ai (aI @aJ @az); repeat' (first | refine zW ?_ | apply a_n | refine zO ?_ | refine vZ ?_ | fail)) <;> (try clear zz)
  refine aO (X:=Nat) (fun k=>[(3,aG c),(4,.int .i64 k)]) (fun k H nx=>k ≤ c.length) (fun k=>c.length - k) 0 (Nat.zero_le _) ag0 ?_
  rintro k H nx h1
  by_cases hk:k < c.length
  rotate_left
  ·(have zz:=@ai; repeat' (first | refine zW ?_ | apply a_n | apply a_x | refine zO ?_ | refine vY ?_ | (refine zGY ?_ ?_ <;> (intro _hg; try (exfalso; omega))) | fail)) <;> (try clear zz)
   exact rfl
  have ix:=ew hk
  have hs1:=hs _ (aQ hk)
  have hp:=ns (c.getD k default) hs1
  rw [a1 _ (aQ hk)] at hp
  have z:decide ((0:Int) ≠ 0)=false:=rfl
  by_cases hk0:0 < k
  rotate_left
  ·have zk:decide (0 < (k:Int))=false:=decide_eq_false (by omega)
   (have zz:=aI @ai (aI @ix (aI @z @zk)); repeat' (first | refine zW ?_ | refine zM ?_ | apply a_n | refine zO ?_ | refine vY ?_ | refine cY ?_ (hp:=hp) (hs:=by (first | refine aa ?_ rfl | apply ac); (repeat' (first | exact ab | apply ah | apply ae | exact am _)); first | done | fail) | refine gFY ?_ | refine cFY ?_ | (refine zGY ?_ ?_ <;> (intro _hg; try (exfalso; omega))) | fail)) <;> (try clear zz)
   exact ⟨k + 1,by omega,by omega,ag0⟩
  have zk:decide (0 < (k:Int))=true:=decide_eq_true (by omega)
  have iy:dI 1 (aG c) (.int .i64 ((k:Int) - 1))=some (.iptr [au (c.getD (k - 1) default)] 0):=by
   have:=ew (l:=c) (k:=k - 1) (by omega)
   rwa [show ((k - 1:Nat):Int)=(k:Int) - 1 by omega] at this
  have hcm:=fR (c.getD (k - 1) default) (c.getD k default) (hs _ (aQ (by omega))) hs1
  have z2:decide (0 ≤ a8 (c.getD (k - 1) default) (c.getD k default))=false:=decide_eq_false (by have:=dF a2 (i:=k - 1) (j:=k) (by omega) hk; omega)
  (have zz:=aI @ai (aI @ix (aI @iy (aI @z (aI @zk @z2)))); repeat' (first | refine zW ?_ | refine zM ?_ | apply a_n | refine zO ?_ | refine vY ?_ | refine cY ?_ (hp:=by first | exact hp | exact hcm) (hs:=by (first | refine aa ?_ rfl | apply ac); (repeat' (first | exact ab | apply ah | apply ae | exact am _)); first | done | fail) | refine gTY ?_ | refine cFY ?_ | (refine zGY ?_ ?_ <;> (intro _hg; try (exfalso; omega))) | fail)) <;> (try clear zz)
  exact ⟨k + 1,by omega,by omega,ag0⟩
 rintro T H nx t3
 (have zz:=@t3; repeat' (first | refine zW ?_ | apply a_n | refine zO ?_ | refine vY ?_ | fail)) <;> (try clear zz)
 refine aO (X:=Nat) (fun k=>[(3,aG c),(6,.int .i64 k)]) (fun k H' nx'=>k ≤ c.length∧∀ i,i < k→aW c (c.getD i default)=false) (fun k=>c.length - k) 0 ⟨Nat.zero_le _,fun i h=>absurd h (by omega)⟩ (have zz:=@t3; agZ) ?_
 clear t3
 rintro i H1 nx1 ⟨h1,h2⟩
 by_cases hi:i < c.length
 rotate_left
 ·rw [jH fun i hi=>h2 i (by omega),if_neg (by decide)]
  (have zz:=@ai; repeat' (first | refine zW ?_ | apply a_n | apply a_x | refine zO ?_ | refine vY ?_ | (refine zGY ?_ ?_ <;> (intro _hg; try (exfalso; omega))) | refine ag rfl ?_ | refine r1Y ?_ | fail)) <;> (try clear zz)
  exact .int _ _
 (have zz:=@ai; repeat' (first | refine zW ?_ | apply a_n | refine zO ?_ | refine vY ?_ | (refine zGY ?_ ?_ <;> (intro _hg; try (exfalso; omega))) | fail)) <;> (try clear zz)
 refine aO (X:=Nat) (fun k=>[(3,aG c),(6,.int .i64 i),(7,.int .i64 k)]) (fun k H' nx'=>k ≤ c.length∧∀ j,j < k→i ≠ j→bN (c.getD i default) (c.getD j default)=false) (fun k=>c.length - k) 0 ⟨Nat.zero_le _,fun i h=>absurd h (by omega)⟩ ag0 ?_
 rintro k H2 nx2 ⟨k1,k2⟩
 by_cases hk:k < c.length
 rotate_left
 ·(have zz:=@ai; repeat' (first | refine zW ?_ | apply a_n | apply a_x | refine zO ?_ | refine vY ?_ | (refine zGY ?_ ?_ <;> (intro _hg; try (exfalso; omega))) | fail)) <;> (try clear zz)
  refine ⟨i + 1,by omega,⟨by omega,fun j hj=>?_⟩,ag0⟩
  rcases Nat.lt_succ_iff_lt_or_eq.1 hj with h' | rfl
  ·exact h2 j h'
  ·cases hb:aW c (c.getD j default)
   ·rfl
   ·obtain ⟨q,q1,q2,q3⟩:=uo hb
    rw [k2 q (by omega) q2] at q3; cases q3
 have ix:=ew hi
 have iy:=ew hk
 by_cases hik:i=k
 ·have z:decide ((i:Int) ≠ (k:Int))=false:=decide_eq_false (by omega)
  (have zz:=aI @ai @z; repeat' (first | refine zW ?_ | refine zM ?_ | apply a_n | refine zO ?_ | refine vY ?_ | refine gFY ?_ | refine cFY ?_ | (refine zGY ?_ ?_ <;> (intro _hg; try (exfalso; omega))) | fail)) <;> (try clear zz)
  exact ⟨k + 1,by omega,⟨by omega,fun j hj hij=>k2 j (by omega) hij⟩,ag0⟩
 have z:decide ((i:Int) ≠ (k:Int))=true:=decide_eq_true (by omega)
 have hin:=ol (c.getD i default) (c.getD k default) (hs _ (aQ hi)) (hs _ (aQ hk))
 have ht:=sE (fun s hs=>(hok.2 s hs).1) a2 hi hk hik
 cases hb:bN (c.getD i default) (c.getD k default)
 ·rw [hb] at hin
  (have zz:=aI @ai (aI @ix (aI @iy @z)); repeat' (first | refine zW ?_ | refine zM ?_ | apply a_n | refine zO ?_ | refine vY ?_ | refine cY ?_ (hp:=hin) (hs:=by (first | refine aa ?_ rfl | apply ac); (repeat' (first | exact ab | apply ah | apply ae | exact am _)); first | done | fail) | refine gTY ?_ | refine cFY ?_ | (refine zGY ?_ ?_ <;> (intro _hg; try (exfalso; omega))) | fail)) <;> (try clear zz)
  exact ⟨k + 1,by omega,⟨by omega,fun j hj hij=>by
   rcases Nat.lt_succ_iff_lt_or_eq.1 hj with h' | rfl
   ·exact k2 j h' hij
   ·exact hb⟩,ag0⟩
 ·rw [hb] at hin
  rw [if_pos (List.any_eq_true.2 ⟨_,aQ hi,ht hb⟩)]
  (have zz:=aI @ai (aI @ix (aI @iy @z)); repeat' (first | refine zW ?_ | refine zM ?_ | apply a_n | apply a_r | refine zO ?_ | refine vY ?_ | refine cY ?_ (hp:=hin) (hs:=by (first | refine aa ?_ rfl | apply ac); (repeat' (first | exact ab | apply ah | apply ae | exact am _)); first | done | fail) | refine gTY ?_ | refine cTY ?_ | (refine zGY ?_ ?_ <;> (intro _hg; try (exfalso; omega))) | refine ag rfl ?_ | refine r1Y ?_ | fail)) <;> (try clear zz)
  exact .int _ _
theorem wz (a b:Spx) (ha:a.length ≤ 400000) (hb:b.length ≤ 400000):Pure Tryz.prog 90 [au a,au b] (au (er aR a b)):=by
 refine Pure.of_c2 follows Aa (Nat.le_of_ble_eq_true rfl) ?_
 simp only [b90,cO,cG,cN,cM,cD,cF,cB,ar,aH]
 (have zz:=and_self; repeat' (first | refine zW ?_ | apply a_n | refine zO ?_ | refine vZ ?_ | refine b0Z ?_ | fail)) <;> (try clear zz)
 refine dT rfl ev0 Row.nil ev0 tA (nr _) (d7 _) (by omega) (by simp; omega) (by simp; omega) ?_
 rintro s1 H1 nx1 hr1 i1 i2 i3 i4
 rw [List.nil_append] at hr1
 (have zz:=and_self; repeat' (first | refine zW ?_ | apply a_n | refine zO ?_ | refine vZ ?_ | fail)) <;> (try clear zz)
 refine rk (X:=Nat) (fun k=>[(1,au b),(5,au (er aR a (b.take k))),(6,.int .i64 k)]) (fun k H nx=>k ≤ b.length) (fun k=>b.length - k) 0 ⟨H1,a9,Fz.all,Nat.zero_le _,.inl ev0,.inr (by ((try simp only [bW,ZA,reduceEqDiff,↓reduceIte,reduceAdd,reduceLeDiff]); (try with_reducible rfl)); exact qN hr1),.inl rfl,trivial⟩ ?_
 rintro k H nx h1
 by_cases hk:k < b.length
 rotate_left
 ·rw [List.take_of_length_le (by omega)]
  (have zz:=@af; repeat' (first | refine zW ?_ | apply a_n | apply a_x | refine zO ?_ | refine vY ?_ | (refine zGY ?_ ?_ <;> (intro _hg; try (exfalso; omega))) | refine ag rfl ?_ | refine r1Y ?_ | fail)) <;> (try clear zz)
  exact am _ _
 have ix:=ix2 hk
 have hp:=wn (er aR a (b.take k)) (b.getD k default) (by have:=iP (K:=aR) (acc:=a) (l:=b.take k); rw [List.length_take] at this; omega)
 have e:er aR a (b.take (k + 1))=eG aR (er aR a (b.take k)) (b.getD k default):=by rw [bv hk,na]
 (have zz:=aI @af @ix; repeat' (first | refine zW ?_ | apply a_n | refine zO ?_ | refine vY ?_ | refine cY ?_ (hp:=hp) (hs:=by (first | refine aa ?_ rfl | apply ac); (repeat' (first | exact ab | apply ah | apply ae | exact am _ | exact aS _)); first | done | fail) | (refine zGY ?_ ?_ <;> (intro _hg; try (exfalso; omega))) | fail)) <;> (try clear zz)
 exact ⟨k + 1,by omega,_,_,Fz.none,by omega,eN (have zz:=@e; agZ)⟩
end Go.Proofs.YtbgdcebmgjafjaaGreat
namespace Go.Proofs.YtbgdcebmgjafjaaGreat
open Go Go.Abs
structure MapV where
 fr:Spx
 to:Spx
 deriving Inhabited,DecidableEq
abbrev gQ (m:MapV):AV:=.agg [au m.fr,au m.to]
theorem bw (m:MapV):Dat (gQ m):=Dat.agg (DatL.cons (am _) (DatL.cons (am _) DatL.nil))
instance datI_encM {m:MapV}:DatI (gQ m):=⟨bw m⟩
abbrev ShM (m:MapV):Prop:=Shn m.fr∧Shn m.to
def lg (m:MapV) (k:Nat):Int:=if bn (m.fr.getD k default)=false ∨ bn (m.to.getD k default)=false then 2 else if 0 < k∧0 ≤ aR (m.fr.getD (k - 1) default) (m.fr.getD k default) then 14 else 0
def dh (m:MapV):Int:=if 4096 < m.fr.length then 5 else if m.to.length ≠ m.fr.length then 15 else bL (lg m) m.fr.length
theorem jw {m:MapV} (h:dh m=0):m.fr.length ≤ 4096∧m.to.length=m.fr.length∧cf aR m.fr∧(∀ v ∈ m.fr,bn v=true)∧∀ v ∈ m.to,bn v=true:=by
 unfold dh at h
 split at h
 ·exact absurd h (by decide)
 split at h
 ·exact absurd h (by decide)
 rename_i h1 h2
 have h2:=Decidable.of_not_not h2
 have hz:=eF h
 have h3:∀ k,k < m.fr.length→(bn (m.fr.getD k default)=true∧bn (m.to.getD k default)=true)∧(0 < k→aR (m.fr.getD (k - 1) default) (m.fr.getD k default) < 0):=fun k hk=>by
  have:=hz k hk
  unfold lg at this
  split at this
  ·exact absurd this (by decide)
  rename_i g1
  split at this
  ·exact absurd this (by decide)
  rename_i g2
  exact ⟨⟨by cases hr:bn (m.fr.getD k default) with
   | true=>rfl
   | false=>exact absurd (.inl hr) g1,by cases hr:bn (m.to.getD k default) with
   | true=>rfl
   | false=>exact absurd (.inr hr) g1⟩,fun h0=>by omega⟩
 refine ⟨by omega,h2,?_,fun v hv=>?_,fun v hv=>?_⟩
 ·have step:∀ j i,i < j→j < m.fr.length→aR (m.fr.getD i default) (m.fr.getD j default) < 0:=by
    intro j
    induction j with
    | zero=>intro i h; omega
    | succ j ih =>
     intro i hi hj
     have hs:=(h3 (j + 1) hj).2 (by omega)
     rw [Nat.add_sub_cancel] at hs
     by_cases e:i=j
     ·subst e; exact hs
     ·exact ku.trans (ih i (by omega) (by omega)) hs
  unfold cf
  rw [List.pairwise_iff_getElem]
  intro i j hi hj hij
  have:=step j i hij hj
  simpa [List.getD,hi,hj] using this
 ·obtain ⟨i,hi,rfl⟩:=List.getElem_of_mem hv
  have:=(h3 i hi).1.1
  simpa [List.getD,hi] using this
 ·obtain ⟨i,hi,rfl⟩:=List.getElem_of_mem hv
  have:=(h3 i (by omega)).1.2
  simpa [List.getD,hi] using this
def fD (m:MapV) (v:Vtx):Vtx:=m.to.getD (m.fr.idxOf v) default
def uv (m:MapV):Bool:=decide (m.fr.length ≤ 40) && decide (m.to.length ≤ 40)
theorem kT {m:MapV} {k:Nat}:lg m k=if bn (m.fr.getD k default)=false ∨ bn (m.to.getD k default)=false then 2 else if 0 < k∧0 ≤ aR (m.fr.getD (k - 1) default) (m.fr.getD k default) then 14 else 0:=rfl
attribute [local irreducible] aE aj bd bb aM aV aB aX bf br Go.Abs.Fn ba Go.Abs.Pure ax aL Yl
theorem ud (m:MapV) (hm:ShM m):Pure Tryz.prog 34 [gQ m] (.int .i64 (dh m)):=by
 refine Pure.of_c2 follows xK (Nat.le_of_ble_eq_true rfl) ?_
 simp only [b34,cO,cG,cN,cM,cD,cF,cB,ar,aH]
 obtain ⟨hm1,hm2⟩:=hm
 have hm1':m.fr.length ≤ 17592186044416:=hm1
 have hm2':m.to.length ≤ 17592186044416:=hm2
 by_cases h0:4096 < m.fr.length
 ·rw [show dh m=5 by unfold dh; rw [if_pos h0]]
  (have zz:=aI @af (aI @aD @av); repeat' (first | refine zW ?_ | apply a_n | apply a_r | refine zO ?_ | refine vZ ?_ | refine bxZ ?_ | (refine zGZ ?_ ?_ <;> (intro _hg; try (exfalso; omega))) | refine ag rfl ?_ | refine r1Z ?_ | fail)) <;> (try clear zz)
  all_goals exact bI rfl
 by_cases h8:m.to.length ≠ m.fr.length
 ·rw [show dh m=15 by unfold dh; rw [if_neg h0,if_pos h8]]
  have z:decide ((m.to.length:Int) ≠ m.fr.length)=true:=decide_eq_true (by omega)
  (have zz:=aI @af (aI @aD (aI @av @z)); repeat' (first | refine zW ?_ | apply a_n | apply a_r | refine zO ?_ | refine vZ ?_ | refine bxZ ?_ | refine cTZ ?_ | (refine zGZ ?_ ?_ <;> (intro _hg; try (exfalso; omega))) | refine ag rfl ?_ | refine r1Z ?_ | fail)) <;> (try clear zz)
  all_goals exact bI rfl
 rw [show dh m=bL (lg m) m.fr.length by unfold dh; rw [if_neg h0,if_neg h8]]
 have h8':=Decidable.of_not_not h8
 have z:decide ((m.to.length:Int) ≠ m.fr.length)=false:=decide_eq_false (by omega)
 (have zz:=aI @af (aI @aD (aI @av @z)); repeat' (first | refine zW ?_ | apply a_n | refine zO ?_ | refine vZ ?_ | refine bxZ ?_ | refine cFZ ?_ | (refine zGZ ?_ ?_ <;> (intro _hg; try (exfalso; omega))) | fail)) <;> (try clear zz)
 refine aO (X:=Nat) (fun k=>[(1,.ptr 0 2 0),(19,au m.fr),(20,.int .i64 m.fr.length),(21,.int .i64 k)]) (fun k H nx=>k ≤ m.fr.length∧H 0=some [au m.fr,au m.to]∧1 ≤ nx∧∀ i,i < k→lg m i=0) (fun k=>m.fr.length - k) 0 ⟨Nat.zero_le _,rfl,by omega,fun i h=>absurd h (by omega)⟩ (by (iterate 4 refine And.intro rfl ?_); trivial) ?_
 rintro k H nx ⟨h1,g0,hnx,h2⟩
 by_cases hk:k < m.fr.length
 rotate_left
 ·rw [bX fun i hi=>h2 i (by omega)]
  (have zz:=@af; repeat' (first | refine zW ?_ | apply a_n | apply a_x | refine zO ?_ | refine vY ?_ | (refine zGY ?_ ?_ <;> (intro _hg; try (exfalso; omega))) | refine ag rfl ?_ | refine r1Y ?_ | fail)) <;> (try clear zz)
  exact .int _ _
 have ix:=ix2 hk
 have it:=ix2 (l:=m.to) (k:=k) (by omega)
 have hp:=pJ (m.fr.getD k default)
 have hq:=pJ (m.to.getD k default)
 have hs:=kT (m:=m) (k:=k)
 have done:lg m k=0→∀ i,i < k + 1→lg m i=0:=fun h i hi=>by
  rcases Nat.lt_succ_iff_lt_or_eq.1 hi with h' | rfl
  ·exact h2 i h'
  ·exact h
 cases hr:bn (m.fr.getD k default)
 ·rw [hr] at hp
  rw [if_pos (.inl hr)] at hs
  rw [bu hk h2 (by rw [hs]; decide),hs]
  (have zz:=aI @af (aI @ix (aI @it @g0)); repeat' (first | refine zW ?_ | apply a_n | apply a_r | refine zO ?_ | refine vY ?_ | refine cY ?_ (hp:=hp) (hs:=by (first | refine aa ?_ rfl | apply ac); (repeat' (first | exact ab | apply ah | apply ae | exact aS _)); first | done | fail) | refine alY ?_ | refine stY ?_ | refine gFY ?_ | refine cTY ?_ | (refine zGY ?_ ?_ <;> (intro _hg; try (exfalso; omega))) | refine ag rfl ?_ | refine r1Y ?_ | fail)) <;> (try clear zz)
  exact .int _ _
 rw [hr] at hp
 cases hr2:bn (m.to.getD k default)
 ·rw [hr2] at hq
  rw [if_pos (.inr hr2)] at hs
  rw [bu hk h2 (by rw [hs]; decide),hs]
  (have zz:=aI @af (aI @ix (aI @it @g0)); repeat' (first | refine zW ?_ | apply a_n | apply a_r | refine zO ?_ | refine vY ?_ | refine cY ?_ (hp:=by first | exact hp | exact hq) (hs:=by (first | refine aa ?_ rfl | apply ac); (repeat' (first | exact ab | apply ah | apply ae | exact aS _)); first | done | fail) | refine alY ?_ | refine stY ?_ | refine gTY ?_ | refine cTY ?_ | (refine zGY ?_ ?_ <;> (intro _hg; try (exfalso; omega))) | refine ag rfl ?_ | refine r1Y ?_ | fail)) <;> (try clear zz)
  exact .int _ _
 rw [hr2] at hq
 rw [if_neg (by rw [hr,hr2]; rintro (h | h) <;> cases h)] at hs
 have gk:∀ {cs:List AV},ak H nx cs 0=some [au m.fr,au m.to]:=fun {cs}=>by rw [ap (by omega)]; exact g0
 by_cases hk0:0 < k
 rotate_left
 ·rw [if_neg (fun h=>hk0 h.1)] at hs
  have zk:decide (0 < (k:Int))=false:=decide_eq_false (by omega)
  (have zz:=aI @af (aI @ix (aI @it (aI @zk @g0))); repeat' (first | refine zW ?_ | refine zM ?_ | apply a_n | refine zO ?_ | refine vY ?_ | refine cY ?_ (hp:=by first | exact hp | exact hq) (hs:=by (first | refine aa ?_ rfl | apply ac); (repeat' (first | exact ab | apply ah | apply ae | exact aS _)); first | done | fail) | refine alY ?_ | refine stY ?_ | refine gTY ?_ | refine gFY ?_ | refine cFY ?_ | (refine zGY ?_ ?_ <;> (intro _hg; try (exfalso; omega))) | fail)) <;> (try clear zz)
  exact ⟨k + 1,by omega,⟨by omega,by (repeat rw [ap (by omega)]); exact g0,by omega,done hs⟩,ag0⟩
 have zk:decide (0 < (k:Int))=true:=decide_eq_true (by omega)
 have iy:dI 2 (au m.fr) (.int .i64 ((k:Int) - 1))=some (.iptr [.int .i64 (m.fr.getD (k - 1) default).color,.int .i64 (m.fr.getD (k - 1) default).label] 0):=by
  have:=ix2 (l:=m.fr) (k:=k - 1) (by omega)
  rwa [show ((k - 1:Nat):Int)=(k:Int) - 1 by omega] at this
 have hc:=mo (m.fr.getD (k - 1) default) (m.fr.getD k default)
 by_cases hv:0 ≤ aR (m.fr.getD (k - 1) default) (m.fr.getD k default)
 ·have z:decide (0 ≤ aR (m.fr.getD (k - 1) default) (m.fr.getD k default))=true:=decide_eq_true hv
  rw [if_pos ⟨hk0,hv⟩] at hs
  rw [bu hk h2 (by rw [hs]; decide),hs]
  (have zz:=aI @af (aI @ix (aI @it (aI @iy (aI @zk (aI @z @g0))))); repeat' (first | refine zW ?_ | refine zM ?_ | apply a_n | apply a_r | refine zO ?_ | refine vY ?_ | refine cY ?_ (hp:=by first | exact hp | exact hq | exact hc) (hs:=by (first | refine aa ?_ rfl | apply ac); (repeat' (first | exact ab | apply ah | apply ae | exact aS _)); first | done | fail) | refine alY ?_ | refine stY ?_ | refine gTY ?_ | refine cTY ?_ | refine cFY ?_ | (refine zGY ?_ ?_ <;> (intro _hg; try (exfalso; omega))) | refine ag rfl ?_ | refine r1Y ?_ | fail)) <;> (try clear zz)
  exact .int _ _
 ·have z:decide (0 ≤ aR (m.fr.getD (k - 1) default) (m.fr.getD k default))=false:=decide_eq_false hv
  rw [if_neg (fun h=>hv h.2)] at hs
  (have zz:=aI @af (aI @ix (aI @it (aI @iy (aI @zk (aI @z @g0))))); repeat' (first | refine zW ?_ | refine zM ?_ | apply a_n | refine zO ?_ | refine vY ?_ | refine cY ?_ (hp:=by first | exact hp | exact hq | exact hc) (hs:=by (first | refine aa ?_ rfl | apply ac); (repeat' (first | exact ab | apply ah | apply ae | exact aS _)); first | done | fail) | refine alY ?_ | refine stY ?_ | refine gTY ?_ | refine cFY ?_ | (refine zGY ?_ ?_ <;> (intro _hg; try (exfalso; omega))) | fail)) <;> (try clear zz)
  exact ⟨k + 1,by omega,⟨by omega,by (repeat rw [ap (by omega)]); exact g0,by omega,done hs⟩,ag0⟩
theorem qY (m:MapV) (hm:ShM m):Pure Tryz.prog 50 [gQ m] (.int .i64 (dh m)):=by
 refine Pure.of_c2 follows zT (Nat.le_of_ble_eq_true rfl) ?_
 simp only [b50,cO,cG,cN,cM,cD,cF,cB,ar,aH]
 obtain ⟨hm1,hm2⟩:=hm
 have hm1':m.fr.length ≤ 17592186044416:=hm1
 have hm2':m.to.length ≤ 17592186044416:=hm2
 by_cases h0:4096 < m.fr.length
 ·rw [show dh m=5 by unfold dh; rw [if_pos h0]]
  (have zz:=aI @af (aI @aD @av); repeat' (first | refine zW ?_ | apply a_n | apply a_r | refine zO ?_ | refine vZ ?_ | refine bxZ ?_ | (refine zGZ ?_ ?_ <;> (intro _hg; try (exfalso; omega))) | refine ag rfl ?_ | refine r1Z ?_ | fail)) <;> (try clear zz)
  all_goals exact bI rfl
 by_cases h8:m.to.length ≠ m.fr.length
 ·rw [show dh m=15 by unfold dh; rw [if_neg h0,if_pos h8]]
  have z:decide ((m.to.length:Int) ≠ m.fr.length)=true:=decide_eq_true (by omega)
  (have zz:=aI @af (aI @aD (aI @av @z)); repeat' (first | refine zW ?_ | apply a_n | apply a_r | refine zO ?_ | refine vZ ?_ | refine bxZ ?_ | refine cTZ ?_ | (refine zGZ ?_ ?_ <;> (intro _hg; try (exfalso; omega))) | refine ag rfl ?_ | refine r1Z ?_ | fail)) <;> (try clear zz)
  all_goals exact bI rfl
 rw [show dh m=bL (lg m) m.fr.length by unfold dh; rw [if_neg h0,if_neg h8]]
 have h8':=Decidable.of_not_not h8
 have z:decide ((m.to.length:Int) ≠ m.fr.length)=false:=decide_eq_false (by omega)
 (have zz:=aI @af (aI @aD (aI @av @z)); repeat' (first | refine zW ?_ | apply a_n | refine zO ?_ | refine vZ ?_ | refine bxZ ?_ | refine cFZ ?_ | (refine zGZ ?_ ?_ <;> (intro _hg; try (exfalso; omega))) | fail)) <;> (try clear zz)
 refine aO (X:=Nat) (fun k=>[(1,.ptr 0 2 0),(3,.int .i64 k)]) (fun k H nx=>k ≤ m.fr.length∧H 0=some [au m.fr,au m.to]∧1 ≤ nx∧∀ i,i < k→lg m i=0) (fun k=>m.fr.length - k) 0 ⟨Nat.zero_le _,rfl,by omega,fun i h=>absurd h (by omega)⟩ (by (iterate 2 refine And.intro rfl ?_); trivial) ?_
 rintro k H nx ⟨h1,g0,hnx,h2⟩
 by_cases hk:k < m.fr.length
 rotate_left
 ·rw [bX fun i hi=>h2 i (by omega)]
  (have zz:=aI @af @g0; repeat' (first | refine zW ?_ | apply a_n | apply a_x | refine zO ?_ | refine vY ?_ | (refine zGY ?_ ?_ <;> (intro _hg; try (exfalso; omega))) | refine ag rfl ?_ | refine r1Y ?_ | fail)) <;> (try clear zz)
  exact .int _ _
 have ix:=ix2 hk
 have it:=ix2 (l:=m.to) (k:=k) (by omega)
 have hp:=jA (m.fr.getD k default)
 have hq:=jA (m.to.getD k default)
 have hs:=kT (m:=m) (k:=k)
 have done:lg m k=0→∀ i,i < k + 1→lg m i=0:=fun h i hi=>by
  rcases Nat.lt_succ_iff_lt_or_eq.1 hi with h' | rfl
  ·exact h2 i h'
  ·exact h
 cases hr:bn (m.fr.getD k default)
 ·rw [hr] at hp
  rw [if_pos (.inl hr)] at hs
  rw [bu hk h2 (by rw [hs]; decide),hs]
  (have zz:=aI @af (aI @ix (aI @it @g0)); repeat' (first | refine zW ?_ | apply a_n | apply a_r | refine zO ?_ | refine vY ?_ | refine cY ?_ (hp:=hp) (hs:=by (first | refine aa ?_ rfl | apply ac); (repeat' (first | exact ab | apply ah | apply ae | exact aS _)); first | done | fail) | refine gFY ?_ | refine cTY ?_ | (refine zGY ?_ ?_ <;> (intro _hg; try (exfalso; omega))) | refine ag rfl ?_ | refine r1Y ?_ | fail)) <;> (try clear zz)
  exact .int _ _
 rw [hr] at hp
 cases hr2:bn (m.to.getD k default)
 ·rw [hr2] at hq
  rw [if_pos (.inr hr2)] at hs
  rw [bu hk h2 (by rw [hs]; decide),hs]
  (have zz:=aI @af (aI @ix (aI @it @g0)); repeat' (first | refine zW ?_ | apply a_n | apply a_r | refine zO ?_ | refine vY ?_ | refine cY ?_ (hp:=by first | exact hp | exact hq) (hs:=by (first | refine aa ?_ rfl | apply ac); (repeat' (first | exact ab | apply ah | apply ae | exact aS _)); first | done | fail) | refine gTY ?_ | refine cTY ?_ | (refine zGY ?_ ?_ <;> (intro _hg; try (exfalso; omega))) | refine ag rfl ?_ | refine r1Y ?_ | fail)) <;> (try clear zz)
  exact .int _ _
 rw [hr2] at hq
 rw [if_neg (by rw [hr,hr2]; rintro (h | h) <;> cases h)] at hs
 by_cases hk0:0 < k
 rotate_left
 ·rw [if_neg (fun h=>hk0 h.1)] at hs
  have zk:decide (0 < (k:Int))=false:=decide_eq_false (by omega)
  (have zz:=aI @af (aI @ix (aI @it (aI @zk @g0))); repeat' (first | refine zW ?_ | refine zM ?_ | apply a_n | refine zO ?_ | refine vY ?_ | refine cY ?_ (hp:=by first | exact hp | exact hq) (hs:=by (first | refine aa ?_ rfl | apply ac); (repeat' (first | exact ab | apply ah | apply ae | exact aS _)); first | done | fail) | refine gTY ?_ | refine gFY ?_ | refine cFY ?_ | (refine zGY ?_ ?_ <;> (intro _hg; try (exfalso; omega))) | fail)) <;> (try clear zz)
  exact ⟨k + 1,by omega,⟨by omega,g0,by omega,done hs⟩,ag0⟩
 have zk:decide (0 < (k:Int))=true:=decide_eq_true (by omega)
 have iy:dI 2 (au m.fr) (.int .i64 ((k:Int) - 1))=some (.iptr [.int .i64 (m.fr.getD (k - 1) default).color,.int .i64 (m.fr.getD (k - 1) default).label] 0):=by
  have:=ix2 (l:=m.fr) (k:=k - 1) (by omega)
  rwa [show ((k - 1:Nat):Int)=(k:Int) - 1 by omega] at this
 have hc:=fU (m.fr.getD (k - 1) default) (m.fr.getD k default)
 by_cases hv:0 ≤ aR (m.fr.getD (k - 1) default) (m.fr.getD k default)
 ·have z:decide (0 ≤ aR (m.fr.getD (k - 1) default) (m.fr.getD k default))=true:=decide_eq_true hv
  rw [if_pos ⟨hk0,hv⟩] at hs
  rw [bu hk h2 (by rw [hs]; decide),hs]
  (have zz:=aI @af (aI @ix (aI @it (aI @iy (aI @zk (aI @z @g0))))); repeat' (first | refine zW ?_ | refine zM ?_ | apply a_n | apply a_r | refine zO ?_ | refine vY ?_ | refine cY ?_ (hp:=by first | exact hp | exact hq | exact hc) (hs:=by (first | refine aa ?_ rfl | apply ac); (repeat' (first | exact ab | apply ah | apply ae | exact aS _)); first | done | fail) | refine gTY ?_ | refine cTY ?_ | refine cFY ?_ | (refine zGY ?_ ?_ <;> (intro _hg; try (exfalso; omega))) | refine ag rfl ?_ | refine r1Y ?_ | fail)) <;> (try clear zz)
  exact .int _ _
 ·have z:decide (0 ≤ aR (m.fr.getD (k - 1) default) (m.fr.getD k default))=false:=decide_eq_false hv
  rw [if_neg (fun h=>hv h.2)] at hs
  (have zz:=aI @af (aI @ix (aI @it (aI @iy (aI @zk (aI @z @g0))))); repeat' (first | refine zW ?_ | refine zM ?_ | apply a_n | refine zO ?_ | refine vY ?_ | refine cY ?_ (hp:=by first | exact hp | exact hq | exact hc) (hs:=by (first | refine aa ?_ rfl | apply ac); (repeat' (first | exact ab | apply ah | apply ae | exact aS _)); first | done | fail) | refine gTY ?_ | refine cFY ?_ | (refine zGY ?_ ?_ <;> (intro _hg; try (exfalso; omega))) | fail)) <;> (try clear zz)
  exact ⟨k + 1,by omega,⟨by omega,g0,by omega,done hs⟩,ag0⟩
theorem xe (m:MapV) (hm:ShM m):Pure Tryz.prog 9 [gQ m] (.bool (uv m)):=by
 refine Pure.of_c2 follows is9 (Nat.le_of_ble_eq_true rfl) ?_
 simp only [b9,cO,cG,cN,cM,cD,cF,cB,ar,aH]
 unfold uv
 (have zz:=aI @af (aI @aD @av); repeat' (first | refine zW ?_ | apply a_n | refine zO ?_ | refine vZ ?_ | refine bxZ ?_ | refine gTZ ?_ | refine gFZ ?_ | (refine zGZ ?_ ?_ <;> (intro _hg; try (exfalso; omega))) | refine ag rfl ?_ | refine r1Z ?_ | fail)) <;> (try clear zz)
 all_goals (refine bx ?_; rw [Bool.eq_iff_iff]; simp only [Bool.and_eq_true,decide_eq_true_iff,Bool.false_eq_true,false_iff]; omega)
theorem wT {l:Spx} {v:Vtx} {k:Nat} (hk:k < l.length) (h:∀ i,i < k→l.getD i default ≠ v) (hv:l.getD k default=v):v ∈ l∧l.idxOf v=k:=by
 have e:l.getD k default=l[k]:=by simp [List.getD,hk]
 have hm:v ∈ l:=by rw [← hv,e]; exact List.getElem_mem hk
 refine ⟨hm,?_⟩
 have h1:l.idxOf v ≤ k:=by
  by_cases hlt:l.idxOf v ≤ k
  ·exact hlt
  ·exfalso
   have:=List.not_of_lt_findIdx (xs:=l) (p:=(· == v)) (i:=k) (by simp only [List.idxOf] at hlt; omega)
   rw [← e,hv] at this; simp at this
 have h2:k ≤ l.idxOf v:=by
  by_cases hlt:k ≤ l.idxOf v
  ·exact hlt
  ·exfalso
   have hi:=List.idxOf_lt_length_iff.2 hm
   have:=h (l.idxOf v) (by omega)
   apply this
   simp [List.getD,hi]
 omega
theorem oK (m:MapV) (v:Vtx) (hm:ShM m):Pure Tryz.prog 56 [gQ m,bl v] (.int .i64 (if v ∈ m.fr then (m.fr.idxOf v:Nat) else -1)):=by
 refine Pure.of_c2 follows Af (Nat.le_of_ble_eq_true rfl) ?_
 simp only [b56,cO,cG,cN,cM,cD,cF,cB,ar,aH]
 have hm1':m.fr.length ≤ 17592186044416:=hm.1
 (have zz:=aI @af (aI @aD @av); repeat' (first | refine zW ?_ | apply a_n | refine zO ?_ | refine vZ ?_ | refine bxZ ?_ | fail)) <;> (try clear zz)
 refine aO (X:=Nat) (fun k=>[(2,.ptr 0 2 0),(3,.ptr 1 2 0),(5,.int .i64 k)]) (fun k H nx=>k ≤ m.fr.length∧H 0=some [au m.fr,au m.to]∧H 1=some [.int .i64 v.color,.int .i64 v.label]∧∀ i,i < k→m.fr.getD i default ≠ v) (fun k=>m.fr.length - k) 0 ⟨Nat.zero_le _,rfl,rfl,fun i h=>absurd h (by omega)⟩ (by (iterate 3 refine And.intro rfl ?_); trivial) ?_
 rintro k H nx ⟨h1,g0,g1,h2⟩
 by_cases hk:k < m.fr.length
 rotate_left
 ·(have zz:=aI @af @g0; repeat' (first | refine zW ?_ | apply a_n | apply a_x | refine zO ?_ | refine vY ?_ | (refine zGY ?_ ?_ <;> (intro _hg; try (exfalso; omega))) | refine ag rfl ?_ | refine r1Y ?_ | fail)) <;> (try clear zz)
  refine bI ?_
  rw [if_neg]
  intro hmem
  obtain ⟨i,hi,e⟩:=List.getElem_of_mem hmem
  exact h2 i (by omega) (by simp [List.getD,hi,e])
 have ix:=ix2 hk
 have hd:=fW (m.fr.getD k default) v
 by_cases he:m.fr.getD k default=v
 ·rw [decide_eq_true he] at hd
  obtain ⟨e1,e2⟩:=wT hk h2 he
  rw [if_pos e1,e2]
  (have zz:=aI @af (aI @ix (aI @g0 (aI @g1 (aI @acq @hd)))); repeat' (first | refine zW ?_ | apply a_n | apply a_r | refine zO ?_ | refine vY ?_ | refine cTY ?_ | (refine zGY ?_ ?_ <;> (intro _hg; try (exfalso; omega))) | refine ag rfl ?_ | refine r1Y ?_ | fail)) <;> (try clear zz)
  exact .int _ _
 ·rw [decide_eq_false he] at hd
  (have zz:=aI @af (aI @ix (aI @g0 (aI @g1 (aI @acq @hd)))); repeat' (first | refine zW ?_ | apply a_n | refine zO ?_ | refine vY ?_ | refine cFY ?_ | (refine zGY ?_ ?_ <;> (intro _hg; try (exfalso; omega))) | fail)) <;> (try clear zz)
  exact ⟨k + 1,by omega,⟨by omega,g0,g1,fun i hi=>by
   rcases Nat.lt_succ_iff_lt_or_eq.1 hi with h' | rfl
   ·exact h2 i h'
   ·exact he⟩,ag0⟩
def bG (m:MapV) (l:Spx):Bool:=l.all fun v=>decide (v ∈ m.fr)
theorem pH (m:MapV) (l:Spx) (hm:ShM m) (hl:Shn l):Pure Tryz.prog 52 [gQ m,au l] (.bool (bG m l)):=by
 refine Pure.of_c2 follows Ao (Nat.le_of_ble_eq_true rfl) ?_
 simp only [b52,cO,cG,cN,cM,cD,cF,cB,ar,aH]
 have hl':l.length ≤ 17592186044416:=hl
 (have zz:=aI @af (aI @aD @av); repeat' (first | refine zW ?_ | apply a_n | refine zO ?_ | refine vZ ?_ | refine bxZ ?_ | fail)) <;> (try clear zz)
 refine aO (X:=Nat) (fun k=>[(1,au l),(2,.ptr 0 2 0),(5,.int .i64 k)]) (fun k H nx=>k ≤ l.length∧H 0=some [au m.fr,au m.to]∧∀ i,i < k→decide (l.getD i default ∈ m.fr)=true) (fun k=>l.length - k) 0 ⟨Nat.zero_le _,rfl,fun i h=>absurd h (by omega)⟩ (by (iterate 3 refine And.intro rfl ?_); trivial) ?_
 rintro k H nx ⟨h1,g0,h2⟩
 by_cases hk:k < l.length
 rotate_left
 ·(have zz:=aI @af @g0; repeat' (first | refine zW ?_ | apply a_n | apply a_x | refine zO ?_ | refine vY ?_ | (refine zGY ?_ ?_ <;> (intro _hg; try (exfalso; omega))) | refine ag rfl ?_ | refine r1Y ?_ | fail)) <;> (try clear zz)
  exact bx (fo fun i hi=>h2 i (by omega)).symm
 have ix:=ix2 hk
 have hc:=oK m (l.getD k default) hm
 cases hd:decide (l.getD k default ∈ m.fr)
 ·rw [if_neg (of_decide_eq_false hd)] at hc
  rw [show bG m l=false from eC hk hd]
  (have zz:=aI @af (aI @ix @g0); repeat' (first | refine zW ?_ | refine zM ?_ | apply a_n | apply a_r | refine zO ?_ | refine vY ?_ | refine cY ?_ (hp:=hc) (hs:=by (first | refine aa ?_ rfl | apply ac); (repeat' (first | exact ab | apply ah | apply ae | exact bw _ | exact aS _)); first | done | fail) | (refine zGY ?_ ?_ <;> (intro _hg; try (exfalso; omega))) | refine ag rfl ?_ | refine r1Y ?_ | fail)) <;> (try clear zz)
  exact .bool _
 ·rw [if_pos (of_decide_eq_true hd)] at hc
  have z:decide (((m.fr.idxOf (l.getD k default):Nat):Int) < 0)=false:=decide_eq_false (by omega)
  (have zz:=aI @af (aI @ix (aI @g0 @z)); repeat' (first | refine zW ?_ | refine zM ?_ | apply a_n | refine zO ?_ | refine vY ?_ | refine cY ?_ (hp:=hc) (hs:=by (first | refine aa ?_ rfl | apply ac); (repeat' (first | exact ab | apply ah | apply ae | exact bw _ | exact aS _)); first | done | fail) | refine cFY ?_ | (refine zGY ?_ ?_ <;> (intro _hg; try (exfalso; omega))) | fail)) <;> (try clear zz)
  exact ⟨k + 1,by omega,⟨by omega,g0,fun i hi=>by
   rcases Nat.lt_succ_iff_lt_or_eq.1 hi with h' | rfl
   ·exact h2 i h'
   ·exact hd⟩,ag0⟩
end Go.Proofs.YtbgdcebmgjafjaaGreat
namespace Go.Proofs.YtbgdcebmgjafjaaGreat
open Go Go.Abs
def b4 (m:MapV) (l:Spx):Spx:=db aR (l.map (fD m))
theorem uj {m:MapV} {v:Vtx} (h:m.to.length=m.fr.length) (hv:v ∈ m.fr):fD m v ∈ m.to:=by
 have:=(fO hv).1
 exact aQ (by omega)
theorem u4 {l:Spx} {v:Vtx} (h:v ∈ l):eG aR l v=l:=by unfold eG; rw [if_pos h]
def cp (c:List Spx):Spx:=c.foldl (er aR) []
theorem pt {c:List Spx} {s:Spx}:cp (c ++ [s])=er aR (cp c) s:=by unfold cp; rw [List.foldl_append]; rfl
theorem hZ {n:Nat}:∀ (c:List Spx) (acc:Spx),(∀ s ∈ c,s.length ≤ n)→(c.foldl (er aR) acc).length ≤ acc.length + c.length * n
 | [],acc,_=>by simp
 | s :: c,acc,h=>by
  rw [List.foldl_cons]
  have h1:=hZ c (er aR acc s) fun s hs=>h s (List.mem_cons_of_mem _ hs)
  have h2:=iP (K:=aR) (acc:=acc) (l:=s)
  have h3:=h s List.mem_cons_self
  rw [List.length_cons,Nat.add_mul,Nat.one_mul]; omega
theorem ma {v:Vtx}:∀ (c:List Spx) (acc:Spx),v ∈ c.foldl (er aR) acc ↔ v ∈ acc ∨ ∃ s ∈ c,v ∈ s
 | [],acc=>by simp
 | s :: c,acc=>by
  rw [List.foldl_cons,ma c,lR]
  simp only [List.mem_cons,exists_eq_or_imp,or_assoc]
attribute [local irreducible] aE aj bd bb aM aV aB aX bf br Go.Abs.Fn ba Go.Abs.Pure ax aL Yl
theorem rO (c:List Spx) (hc:c.length ≤ 5000) (hs:∀ s ∈ c,s.length ≤ 10):Pure Tryz.prog 53 [dj c] (au (cp c)):=by
 refine Pure.of_c2 follows Ag (Nat.le_of_ble_eq_true rfl) ?_
 simp only [b53,cO,cG,cN,cM,cD,cF,cB,ar,aH]
 (have zz:=aI @ai (aI @aJ @az); repeat' (first | refine zW ?_ | apply a_n | refine zO ?_ | refine vZ ?_ | refine bxZ ?_ | fail)) <;> (try clear zz)
 refine rk (X:=Nat) (fun k=>[(1,.iptr [aG c] 0),(3,au (cp (c.take k))),(4,.int .i64 k)]) (fun k H nx=>k ≤ c.length) (fun k=>c.length - k) 0 ⟨_,a9,Fz.all,Nat.zero_le _,.inr (iC rfl rfl (aK (bi _ _) ab)),.inr (.eslsl 2),.inl rfl,trivial⟩ ?_
 rintro k H nx h1
 by_cases hk:k < c.length
 rotate_left
 ·rw [List.take_of_length_le (by omega)]
  (have zz:=@ai; repeat' (first | refine zW ?_ | apply a_n | apply a_x | refine zO ?_ | refine vY ?_ | (refine zGY ?_ ?_ <;> (intro _hg; try (exfalso; omega))) | refine ag rfl ?_ | refine r1Y ?_ | fail)) <;> (try clear zz)
  exact am _ _
 have ix:=ew hk
 have hp:=wz (cp (c.take k)) (c.getD k default) (by
  have:=hZ (n:=10) (c.take k) [] fun s hs'=>hs s (List.mem_of_mem_take hs')
  rw [List.length_take] at this
  unfold cp
  simp only [List.length_nil] at this
  omega) (by have:=hs _ (aQ hk); omega)
 have e:cp (c.take (k + 1))=er aR (cp (c.take k)) (c.getD k default):=by rw [bv hk,pt]
 (have zz:=aI @ai @ix; repeat' (first | refine zW ?_ | apply a_n | refine zO ?_ | refine vY ?_ | refine cY ?_ (hp:=hp) (hs:=by (first | refine aa ?_ rfl | apply ac); (repeat' (first | exact ab | apply ah | apply ae | exact am _)); first | done | fail) | (refine zGY ?_ ?_ <;> (intro _hg; try (exfalso; omega))) | fail)) <;> (try clear zz)
 exact ⟨k + 1,by omega,_,_,Fz.none,by omega,eN (have zz:=@e; agZ)⟩
theorem vT (m:MapV) (l:Spx) (hm:ShM m) (hlen:m.to.length=m.fr.length) (hl:l.length ≤ 100000) (ht:bG m l=true):Pure Tryz.prog 61 [gQ m,au l] (au (b4 m l)):=by
 refine Pure.of_c2 follows zH (Nat.le_of_ble_eq_true rfl) ?_
 simp only [b61,cO,cG,cN,cM,cD,cF,cB,ar,aH]
 (have zz:=aI @af (aI @aD @av); repeat' (first | refine zW ?_ | apply a_n | refine zO ?_ | refine vZ ?_ | refine bxZ ?_ | fail)) <;> (try clear zz)
 refine rk (X:=Nat) (fun k=>[(1,au l),(2,.iptr [au m.fr,au m.to] 0),(5,au (b4 m (l.take k))),(6,.int .i64 k)]) (fun k H nx=>k ≤ l.length) (fun k=>l.length - k) 0 ⟨_,a9,Fz.all,Nat.zero_le _,.inl rfl,.inr (iC rfl rfl (aK (am _ _) (aK (am _ _) ab))),.inr (.eslsl 2),.inl rfl,trivial⟩ ?_
 rintro k H nx h1
 by_cases hk:k < l.length
 rotate_left
 ·rw [List.take_of_length_le (by omega)]
  (have zz:=@af; repeat' (first | refine zW ?_ | apply a_n | apply a_x | refine zO ?_ | refine vY ?_ | (refine zGY ?_ ?_ <;> (intro _hg; try (exfalso; omega))) | refine ag rfl ?_ | refine r1Y ?_ | fail)) <;> (try clear zz)
  exact am _ _
 have ix:=ix2 hk
 have hv:l.getD k default ∈ m.fr:=of_decide_eq_true (List.all_eq_true.1 ht _ (aQ hk))
 have hi:=oK m (l.getD k default) hm
 rw [if_pos hv] at hi
 have it:=ix2 (l:=m.to) (k:=m.fr.idxOf (l.getD k default)) (by have:=(fO hv).1; omega)
 rw [show m.to.getD (m.fr.idxOf (l.getD k default)) default=fD m (l.getD k default) from rfl] at it
 have hls:(b4 m (l.take k)).length ≤ 100000:=by
  unfold b4
  have:=go (K:=aR) (l:=(l.take k).map (fD m))
  rw [List.length_map,List.length_take] at this
  omega
 have hh:=uO (b4 m (l.take k)) (fD m (l.getD k default)) (show _ ≤ _ by omega)
 have hp:=wn (b4 m (l.take k)) (fD m (l.getD k default)) (by omega)
 have e:b4 m (l.take (k + 1))=eG aR (b4 m (l.take k)) (fD m (l.getD k default)):=by
  unfold b4; rw [bv hk,List.map_append]; exact mE
 generalize fD m (l.getD k default)=w at *
 by_cases hw:w ∈ b4 m (l.take k)
 ·rw [decide_eq_true hw] at hh
  rw [u4 hw] at e
  (have zz:=aI @af (aI @ix @it); repeat' (first | refine zW ?_ | apply a_n | refine zO ?_ | refine vY ?_ | refine cY ?_ (hp:=by first | exact hi | exact hh) (hs:=by (first | refine aa ?_ rfl | apply ac); (repeat' (first | exact ab | apply ah | apply ae | exact bw _ | exact aS _ | exact am _)); first | done | fail) | refine alY ?_ | refine stY ?_ | refine cFY ?_ | (refine zGY ?_ ?_ <;> (intro _hg; try (exfalso; omega))) | fail)) <;> (try clear zz)
  exact ⟨k + 1,by omega,_,_,Fz.none,by omega,eN (have zz:=@e; agZ)⟩
 ·rw [decide_eq_false hw] at hh
  (have zz:=aI @af (aI @ix @it); repeat' (first | refine zW ?_ | apply a_n | refine zO ?_ | refine vY ?_ | refine cY ?_ (hp:=by first | exact hi | exact hh | exact hp) (hs:=by (first | refine aa ?_ rfl | apply ac); (repeat' (first | exact ab | apply ah | apply ae | exact bw _ | exact aS _ | exact am _)); first | done | fail) | refine alY ?_ | refine stY ?_ | refine cTY ?_ | (refine zGY ?_ ?_ <;> (intro _hg; try (exfalso; omega))) | fail)) <;> (try clear zz)
  exact ⟨k + 1,by omega,_,_,Fz.none,by omega,eN (have zz:=@e; agZ)⟩
theorem sL (m:MapV) (c:List Spx) (hm:ShM m) (hlen:m.to.length=m.fr.length) (hc:c.length ≤ 5000) (hs:∀ s ∈ c,s.length ≤ 1000∧bG m s=true):Pure Tryz.prog 54 [gQ m,dj c] (aG (c.map (b4 m))):=by
 refine Pure.of_c2 follows z6 (Nat.le_of_ble_eq_true rfl) ?_
 simp only [b54,cO,cG,cN,cM,cD,cF,cB,ar,aH]
 (have zz:=aI @ai (aI @aD (aI @av (aI @aJ @az))); repeat' (first | refine zW ?_ | apply a_n | refine zO ?_ | refine vZ ?_ | refine bxZ ?_ | fail)) <;> (try clear zz)
 refine aO (X:=AV × Nat) (fun x=>[(2,.ptr 0 2 0),(3,.ptr 1 1 0),(5,x.1),(6,.int .i64 x.2)]) (fun x H nx=>x.2 ≤ c.length∧H 0=some [au m.fr,au m.to]∧H 1=some [aG c]∧Row H 1 x.1 (((c.take x.2).map (b4 m)).map au)∧(∀ b,eM x.1=some b→2 ≤ b∧b < nx)∧2 ≤ nx) (fun x=>c.length - x.2) (.esl,0) ⟨Nat.zero_le _,rfl,rfl,Row.nil,fun b h=>(by cases h),by omega⟩ (by (iterate 4 refine And.intro rfl ?_); trivial) ?_
 rintro ⟨sv,k⟩ H nx ⟨h1,g0,g1,hrow,hbd,hnx⟩
 dsimp only at h1 hrow hbd ⊢
 by_cases hk:k < c.length
 rotate_left
 ·rw [List.take_of_length_le (by omega)] at hrow
  (have zz:=aI @ai @g1; repeat' (first | refine zW ?_ | apply a_n | apply a_x | refine zO ?_ | refine vY ?_ | (refine zGY ?_ ?_ <;> (intro _hg; try (exfalso; omega))) | refine ag rfl ?_ | refine r1Y ?_ | fail)) <;> (try clear zz)
  exact gG hrow
 have ix:=ew hk
 obtain ⟨q1,q2⟩:=hs _ (aQ hk)
 have ho:=vT m (c.getD k default) hm hlen (by omega) q2
 have hl:(((c.take k).map (b4 m)).map au).length=k:=by rw [List.length_map,List.length_map,List.length_take]; omega
 have e:(c.take (k + 1)).map (b4 m)=(c.take k).map (b4 m) ++ [b4 m (c.getD k default)]:=by rw [bv hk,List.map_append]; rfl
 generalize b4 m (c.getD k default)=w at *
 (have zz:=aI @ai (aI @g0 (aI @g1 (aI @ix (aI @aD @av)))); repeat' (first | refine zW ?_ | refine zM ?_ | apply a_n | refine zO ?_ | refine vY ?_ | refine cY ?_ (hp:=ho) (hs:=by (first | refine aa ?_ rfl | apply ac); (repeat' (first | exact ab | apply ah | apply ae | exact bw _ | exact am _)); first | done | fail) | refine blY ?_ | (refine zGY ?_ ?_ <;> (intro _hg; try (exfalso; omega))) | fail)) <;> (try clear zz)
 refine dT rfl ev0 (hrow.same fun b hb=>?_) ev0 dC rfl rfl Nat.one_pos (by omega) (by omega) ?_
 ·have:=hbd b hb; rw [ap (by omega)]
 rintro s2 H2 nx2 hr2 i1 i2 i3 i4
 (have zz:=and_self; repeat' (first | apply a_n | refine zO ?_ | refine vY ?_ | fail)) <;> (try clear zz)
 refine ⟨(s2,k + 1),by dsimp only; omega,⟨by dsimp only; omega,?_,?_,?_,fun b hb=>?_,by omega⟩,ag0⟩
 ·rw [i3 0 (by omega) (fun h=>by have:=hbd 0 h; omega),ap (by omega)]; exact g0
 ·rw [i3 1 (by omega) (fun h=>by have:=hbd 1 h; omega),ap (by omega)]; exact g1
 ·dsimp only
  rw [e,List.map_append]; exact hr2
 ·rcases i4 b hb with h | h
  ·have:=hbd b h; omega
  ·omega
end Go.Proofs.YtbgdcebmgjafjaaGreat
namespace Go.Proofs.YtbgdcebmgjafjaaGreat
open Go Go.Abs
open Nat (reduceEqDiff reduceAdd reduceLeDiff)
theorem uc {l:Spx} (ha:cf aR l) {k:Nat} (hk:k < l.length):l.getD k default ∉ l.take k:=fun hm=>by
 obtain ⟨i,hi,e⟩:=List.getElem_of_mem hm
 rw [List.length_take] at hi
 rw [List.getElem_take] at e
 have:=dF ha (i:=i) (j:=k) (by omega) hk
 rw [show l.getD i default=l[i] by simp [List.getD,show i < l.length by omega],e] at this
 exact ku.ord.irr _ this
theorem sZ {m:MapV} {v:Vtx} (h:m.to.length=m.fr.length) (hv:v ∈ m.fr):(m.to.map bl).getD (m.fr.idxOf v) .undef=bl (fD m v):=by
 have:=(fO hv).1
 unfold fD
 simp [List.getD,show m.fr.idxOf v < m.to.length by omega]
theorem ql {H:Hp} {B n len:Nat} {C:List AV} {l:Spx} (hB:H B=some C) (hn:C.length=n) (hf:len * 2 ≤ n) (hl:l.length=len) (ht:C.take (len * 2)=cX l):Snap H (.msl B n 2 0 len) (au l):=by
 refine .msl B n 2 0 len C (l.map bl) hB hn (by omega) (by simp [hl]) (fun y hy=>?_) (fun i j y a c hy hc ha=>?_)
 ·obtain ⟨v,_,rfl⟩:=List.mem_map.1 hy; rfl
 ·have hi:i < l.length:=by
    have:=(List.getElem?_eq_some_iff.1 hy).1
    simpa using this
  have hy':y=bl (l.getD i default):=by
   rw [List.getElem?_map,List.getElem?_eq_getElem hi] at hy
   simp at hy
   rw [← hy]; simp [List.getD,hi]
  subst hy'
  have hj:j < 2:=(List.getElem?_eq_some_iff.1 hc).1
  have h1:C[0 + i * 2 + j]?=(cX l)[i * 2 + j]?:=by
   rw [← ht,List.getElem?_take,if_pos (by omega)]; congr 1; omega
  have h2:(cX l)[i * 2 + j]?=(((cX l).drop (i * 2)).take 2)[j]?:=by
   rw [List.getElem?_take,if_pos hj,List.getElem?_drop]
  rw [h1,h2,rdX hi] at ha
  have:[AV.int .i64 (l.getD i default).color,AV.int .i64 (l.getD i default).label][j]?=some c:=hc
  rw [this] at ha
  cases ha
  match j,hj with
  | 0,_=>cases this; exact .int _ _
  | 1,_=>cases this; exact .int _ _
attribute [local irreducible] aE aj bd bb aM aV aB aX bf br Go.Abs.Fn ba Go.Abs.Pure ax aL Yl
set_option maxHeartbeats 1000000 in
theorem tG (m:MapV) (hm:ShM m) (H:Hp) (nx:Nat):Abs.Fn Tryz.prog 41 [gQ m] H nx fun r H' nx'=>(∀ x,x < nx→H' x=H x)∧nx ≤ nx'∧((dh m=0∧∃ b,r=.tup [.mp b,.int .i64 0]∧nx ≤ b∧b < nx'∧H' b=some [.omap (m.fr.map bl) (m.to.map bl)]) ∨ (dh m ≠ 0∧r=.tup [.undef,.int .i64 (dh m)])):=by
 refine Abs.Fn.of_c2 follows yM (Nat.le_of_ble_eq_true rfl) ?_
 simp only [b41,cO,cG,cN,cM,cD,cF,cB,ar,aH]
 have hc:=ud m hm
 have hm1':m.fr.length ≤ 17592186044416:=hm.1
 by_cases he:dh m=0
 rotate_left
 ·have z:decide (dh m ≠ 0)=true:=decide_eq_true he
  (have zz:=aI @af (aI @aD (aI @av @z)); repeat' (first | refine zW ?_ | apply a_n | apply a_r | refine zO ?_ | refine vY ?_ | refine cY ?_ (hp:=hc) (hs:=by (first | refine aa ?_ rfl | apply ac); (repeat' (first | exact ab | apply ah | apply ae | exact bw _)); first | done | fail) | refine bxY ?_ | refine cTY ?_ | refine ag rfl ?_ | refine r2Y ?_ | fail)) <;> (try clear zz)
  exact ⟨fun x hx=>ap (by omega),by omega,.inr ⟨he,rfl⟩⟩
 rw [he] at hc
 obtain ⟨q1,q2,q3,q4,q5⟩:=jw he
 have z:decide ((0:Int) ≠ 0)=false:=rfl
 (have zz:=aI @af (aI @aD (aI @av @z)); repeat' (first | refine zW ?_ | apply a_n | refine zO ?_ | refine vY ?_ | refine cY ?_ (hp:=hc) (hs:=by (first | refine aa ?_ rfl | apply ac); (repeat' (first | exact ab | apply ah | apply ae | exact bw _)); first | done | fail) | refine bxY ?_ | refine cFY ?_ | fail)) <;> (try clear zz)
 refine v4 ?_
 (have zz:=@af; repeat' (first | refine zW ?_ | apply a_n | refine zO ?_ | refine vY ?_ | fail)) <;> (try clear zz)
 refine aO (X:=Nat) (fun k=>[(1,.ptr nx 2 0),(5,.mp (nx + 1)),(15,au m.fr),(16,.int .i64 m.fr.length),(17,.int .i64 k)]) (fun k H' nx'=>k ≤ m.fr.length∧H' nx=some [au m.fr,au m.to]∧H' (nx + 1)=some [.omap ((m.fr.take k).map bl) ((m.to.take k).map bl)]∧(∀ x,x < nx→H' x=H x)∧nx + 2 ≤ nx') (fun k=>m.fr.length - k) 0 ⟨Nat.zero_le _,by rw [ap (by omega),ao],ao,fun x hx=>by rw [ap (by omega),ap (by omega)],by omega⟩ (by simp (disch:=omega) only [agr,ZG,reduceEqDiff,↓reduceIte,List.length_cons,List.length_nil,Nat.zero_add,reduceAdd]) ?_
 rintro k H1 nx1 ⟨h1,g0,g1,h2,hnx⟩
 by_cases hk:k < m.fr.length
 rotate_left
 ·obtain rfl:k=m.fr.length:=by omega
  rw [List.take_length,List.take_of_length_le (by omega)] at g1
  (have zz:=and_self; repeat' (first | refine zW ?_ | apply a_n | apply a_x | refine zO ?_ | refine vY ?_ | (refine zGY ?_ ?_ <;> (intro _hg; try (exfalso; omega))) | refine ag rfl ?_ | refine r2Y ?_ | fail)) <;> (try clear zz)
  exact ⟨h2,by omega,.inl ⟨he,nx + 1,rfl,by omega,by omega,g1⟩⟩
 have ix:=ix2 hk
 have it:=ix2 (l:=m.to) (k:=k) (by omega)
 have hnt:=uc q3 hk
 have hmf:=kN (m.fr.getD k default) (m.fr.take k)
 rw [if_neg hnt] at hmf
 have e1:(m.fr.take (k + 1)).map bl=(m.fr.take k).map bl ++ [bl (m.fr.getD k default)]:=by rw [bv hk,List.map_append]; rfl
 have e2:(m.to.take (k + 1)).map bl=(m.to.take k).map bl ++ [bl (m.to.getD k default)]:=by rw [bv (by omega),List.map_append]; rfl
 generalize m.fr.getD k default=v at *
 generalize m.to.getD k default=w at *
 (have zz:=@ix; repeat' (first | refine zW ?_ | apply a_n | refine zO ?_ | refine vY ?_ | refine alY ?_ | refine stY ?_ | (refine zGY ?_ ?_ <;> (intro _hg; try (exfalso; omega))) | fail)) <;> (try clear zz)
 refine pZ (c2:=[.int .i64 v.color,.int .i64 v.label]) nx nx1 (by rw [ap (by omega),ap (by omega)]; exact g0) (by rw [ao]; rfl) (by omega) fun S hS0 hS1 _=>?_
 (have zz:=aI @hS0 (aI @hS1 @it); repeat' (first | apply a_n | refine zO ?_ | refine nvY ?_ | apply oz | fail)) <;> (try clear zz)
 refine wA ev0 (by rw [ap (by omega),ap (by omega)]; exact g1) ev0 ev0 (lA v) hmf ?_
 (have zz:=and_self; repeat' (first | apply a_n | refine zO ?_ | refine vY ?_ | fail)) <;> (try clear zz)
 refine ⟨k + 1,by omega,⟨by omega,by (repeat rw [ap (by omega)]); exact g0,?_,fun x hx=>by (repeat rw [ap (by omega)]); exact h2 x hx,by omega⟩,ag0⟩
 rw [ao,e1,e2]; rfl
theorem z7:Cmp2 Tryz.prog bl aR (fun _=>True) 74 [] where
 len _:=rfl
 agg _:=rfl
 ones _:=rfl
 dat x:=aS x
 dcaps x hx:=by cases hx
 run x y _ _:=mo x y
 ord:=ku.ord
theorem xq (m:MapV) (l:Spx) (hlen:m.to.length=m.fr.length) (hl:l.length ≤ 100000) (hl0:l ≠ []) (b:Nat) (H:Hp) (nx:Nat) (hb:H b=some [.omap (m.fr.map bl) (m.to.map bl)]) (hbn:b < nx):Abs.Fn Tryz.prog 57 [.mp b,au l] H nx fun r H' nx'=>nx ≤ nx'∧((bG m l=false∧r=.tup [.esl,.bool false]∧∀ x,x < nx→H' x=H x) ∨ (bG m l=true∧∃ sv Hf H2,r=.tup [sv,.bool true]∧sv.one=true∧Fz Hf H' H2∧Snap Hf sv (au (b4 m l))∧∀ x,x < nx→H2 x=H x)):=by
 refine Abs.Fn.of_c2 follows yS (Nat.le_of_ble_eq_true rfl) ?_
 simp only [b57,cO,cG,cN,cM,cD,cF,cB,ar,aH]
 (have zz:=@af; repeat' (first | refine zW ?_ | apply a_n | refine zO ?_ | refine vY ?_ | fail)) <;> (try clear zz)
 refine aO (X:=AV × Nat) (fun x=>[(0,.mp b),(6,x.1),(11,au l),(12,.int .i64 l.length),(13,.int .i64 x.2)]) (fun x H' nx'=>x.2 ≤ l.length∧(∀ y,y < nx→H' y=H y)∧nx ≤ nx'∧Row H' 2 x.1 (cX ((l.take x.2).map (fD m)))∧(∀ B,eM x.1=some B→nx ≤ B∧B < nx')∧∀ i,i < x.2→decide (l.getD i default ∈ m.fr)=true) (fun x=>l.length - x.2) (.esl,0) ⟨Nat.zero_le _,fun _ _=>rfl,Nat.le_refl _,Row.nil,fun B h=>(by cases h),fun i h=>absurd h (by omega)⟩ ag0 ?_
 rintro ⟨sv,k⟩ H1 nx1 ⟨h1,h2,h3,hrow,hbd,hz⟩
 dsimp only at h1 hrow hbd hz ⊢
 by_cases hk:k < l.length
 rotate_left
 ·rw [List.take_of_length_le (by omega)] at hrow
  have ht:bG m l=true:=fo fun i hi=>hz i (by omega)
  have hpos:0 < l.length:=List.length_pos_iff.2 hl0
  generalize hM:l.map (fD m)=M at *
  have hMl:M.length=l.length:=by rw [← hM,List.length_map]
  have himg:b4 m l=db aR M:=by unfold b4; rw [hM]
  obtain ⟨B,rfl,hB⟩:∃ B,sv=.msl B (M.length * 2) 2 0 M.length∧H1 B=some (cX M):=by
   generalize hcs:cX M=cs at hrow
   have hcl:=d7 M
   cases hrow with
   | nil=>rw [hcs] at hcl; simp at hcl; omega
   | box B len cs g1 g2 =>
    obtain rfl:len=M.length:=by rw [← hcs,hcl] at g2; omega
    exact ⟨B,rfl,g1⟩
  have hBb:=hbd B rfl
  (have zz:=and_self; repeat' (first | refine zW ?_ | apply a_n | apply a_x | refine zO ?_ | refine vY ?_ | (refine zGY ?_ ?_ <;> (intro _hg; try (exfalso; omega))) | fail)) <;> (try clear zz)
  refine ay ev0 ev0 (uV z7 (L:=M) (b:=B) (nx:=nx1) (n:=M.length) hB (by omega) rfl (by omega) (fun _ _=>trivial) (by omega)) ?_
  rintro _ H3 nx3 ⟨L,ps,hperm,hsort⟩
  have hLl:L.length=M.length:=hperm.length_eq
  have hL0:L ≠ []:=fun e=>by rw [e] at hLl; simp at hLl; omega
  have hB3:H3 B=some (cX L):=ps.at_
  rw [← hLl]
  (have zz:=and_self; repeat' (first | refine zW ?_ | apply a_n | refine zO ?_ | refine vY ?_ | fail)) <;> (try clear zz)
  refine ay ev0 ev0 (p7 L (show _ ≤ _ by omega) hL0 H3 B nx3 hB3 (by have:=ps.le; omega)) ?_
  rintro _ H4 nx4 ⟨rfl,⟨C,rfl,c1,c2⟩,rfl⟩
  have hd:cr L L.length=db aR M:=mZ ku hperm (by rw [hLl]; exact hsort)
  rw [hd] at c2
  have hle:=pk L L.length
  have hdl:=mR L L.length
  rw [hd] at hdl
  (have zz:=and_self; repeat' (first | apply a_n | refine zO ?_ | refine vY ?_ | refine ag rfl ?_ | refine r2Y ?_ | fail)) <;> (try clear zz)
  refine ⟨by have:=ps.le; omega,.inr ⟨ht,.msl B (L.length * 2) 2 0 (bj L L.length),only B C,ca (ak H3 B C) B,rfl,rfl,Fz.one ao,?_,fun x hx=>?_⟩⟩
  ·rw [himg]
   exact ql kF c1 (by omega) hdl c2
  ·rw [kG (by omega),ap (by omega),ps.fr x (by omega) (by omega)]; exact h2 x hx
 have ix:=ix2 hk
 have hb1:H1 b=some [.omap (m.fr.map bl) (m.to.map bl)]:=(h2 b hbn).trans hb
 have hmf:=kN (l.getD k default) m.fr
 have hcl:(cX ((l.take k).map (fD m))).length=k * 2:=by rw [d7,List.length_map,List.length_take]; omega
 have e1:(l.take (k + 1)).map (fD m)=(l.take k).map (fD m) ++ [fD m (l.getD k default)]:=by rw [bv hk,List.map_append]; rfl
 by_cases hv:l.getD k default ∈ m.fr
 rotate_left
 ·have ht:bG m l=false:=eC hk (decide_eq_false hv)
  rw [if_neg hv] at hmf
  generalize l.getD k default=v at *
  (have zz:=@ix; repeat' (first | refine zW ?_ | apply a_n | refine zO ?_ | refine vY ?_ | refine alY ?_ | refine stY ?_ | (refine zGY ?_ ?_ <;> (intro _hg; try (exfalso; omega))) | fail)) <;> (try clear zz)
  refine nL ev0 (by rw [ap (by omega),ap (by omega)]; exact hb1) ev0 (lA v) hmf ?_
  rw [show mget (.agg [.int .i64 0,.int .i64 0]) true none (m.to.map bl)=.tup [.agg [.int .i64 0,.int .i64 0],.bool false] from rfl]
  (have zz:=and_self; repeat' (first | refine zW ?_ | apply a_n | apply a_r | refine zO ?_ | refine vY ?_ | refine alY ?_ | refine stY ?_ | refine cTY ?_ | refine ag rfl ?_ | refine r2Y ?_ | fail)) <;> (try clear zz)
  exact ⟨by omega,.inl ⟨ht,rfl,fun x hx=>by (repeat rw [ap (by omega)]); exact h2 x hx⟩⟩
 rw [if_pos hv] at hmf
 have hmg:=sZ hlen hv
 have hzz:∀ i,i < k + 1→decide (l.getD i default ∈ m.fr)=true:=fun i hi=>by
  rcases Nat.lt_succ_iff_lt_or_eq.1 hi with h' | rfl
  ·exact hz i h'
  ·exact decide_eq_true hv
 generalize l.getD k default=v at *
 generalize fD m v=w at *
 (have zz:=@ix; repeat' (first | refine zW ?_ | apply a_n | refine zO ?_ | refine vY ?_ | refine alY ?_ | refine stY ?_ | (refine zGY ?_ ?_ <;> (intro _hg; try (exfalso; omega))) | fail)) <;> (try clear zz)
 refine nL ev0 (by rw [ap (by omega),ap (by omega)]; exact hb1) ev0 (lA v) hmf ?_
 rw [show mget (.agg [.int .i64 0,.int .i64 0]) true (some (m.fr.idxOf v)) (m.to.map bl)=.tup [(m.to.map bl).getD (m.fr.idxOf v) .undef,.bool true] from rfl,hmg]
 (have zz:=and_self; repeat' (first | refine zW ?_ | apply a_n | refine zO ?_ | refine vY ?_ | refine alY ?_ | refine stY ?_ | refine blY ?_ | refine cFY ?_ | fail)) <;> (try clear zz)
 refine dT rfl ev0 (hrow.same fun B hB=>?_) ev0 eE rfl rfl (by omega) (by omega) (by omega) ?_
 ·have:=hbd B hB; (repeat rw [ap (by omega)])
 rintro s2 H2 nx2 hr2 i1 i2 i3 i4
 (have zz:=and_self; repeat' (first | apply a_n | refine zO ?_ | refine vY ?_ | fail)) <;> (try clear zz)
 refine ⟨(s2,k + 1),by dsimp only; omega,⟨by dsimp only; omega,fun y hy=>?_,by omega,?_,fun B hB=>?_,hzz⟩,ag0⟩
 ·rw [i3 y (by omega) (fun h=>by have:=hbd y h; omega)]
  (repeat rw [ap (by omega)]); exact h2 y hy
 ·dsimp only
  rw [e1,ez]; exact hr2
 ·rcases i4 B hB with h | h
  ·have:=hbd B h; omega
  ·omega
end Go.Proofs.YtbgdcebmgjafjaaGreat
namespace Go.Proofs.YtbgdcebmgjafjaaGreat
open Go Go.Abs
theorem nB {m:MapV} {c:List Spx}:bG m (cp c)=c.all (bG m):=by
 rw [Bool.eq_iff_iff]
 unfold bG
 rw [List.all_eq_true,List.all_eq_true]
 have hp:∀ v,v ∈ cp c ↔ ∃ s ∈ c,v ∈ s:=fun v=>by
  unfold cp; rw [ma]; simp
 constructor
 ·intro h s hs
  rw [List.all_eq_true]
  exact fun v hv=>h v ((hp v).2 ⟨s,hs,hv⟩)
 ·intro h v hv
  obtain ⟨s,hs,hvs⟩:=(hp v).1 hv
  exact List.all_eq_true.1 (h s hs) v hvs
attribute [local irreducible] aE aj bd bb aM aV aB aX bf br Go.Abs.Fn ba Go.Abs.Pure ax aL Yl
set_option maxHeartbeats 1000000 in
theorem uG (m:MapV) (c:List Spx) (hlen:m.to.length=m.fr.length) (hc:c.length ≤ 5000) (hs:∀ s ∈ c,s.length ≤ 1000∧s ≠ []) (b:Nat) (H:Hp) (nx:Nat) (hb:H b=some [.omap (m.fr.map bl) (m.to.map bl)]) (hbn:b < nx):Abs.Fn Tryz.prog 42 [.mp b,dj c] H nx fun r H' nx'=>nx ≤ nx'∧(∀ x,x < nx→H' x=H x)∧((c.all (bG m)=false∧r=.tup [.esl,.bool false]) ∨ (c.all (bG m)=true∧∃ sv,r=.tup [sv,.bool true]∧Row H' 1 sv ((c.map (b4 m)).map au)∧∀ B,eM sv=some B→nx ≤ B∧B < nx')):=by
 refine Abs.Fn.of_c2 follows y5 (Nat.le_of_ble_eq_true rfl) ?_
 simp only [b42,cO,cG,cN,cM,cD,cF,cB,ar,aH]
 (have zz:=aI @ai (aI @aJ @az); repeat' (first | refine zW ?_ | apply a_n | refine zO ?_ | refine vY ?_ | refine bxY ?_ | fail)) <;> (try clear zz)
 refine aO (X:=AV × Nat) (fun x=>[(0,.mp b),(6,x.1),(12,aG c),(13,.int .i64 c.length),(14,.int .i64 x.2)]) (fun x H' nx'=>x.2 ≤ c.length∧(∀ y,y < nx→H' y=H y)∧nx ≤ nx'∧Row H' 1 x.1 (((c.take x.2).map (b4 m)).map au)∧(∀ B,eM x.1=some B→nx ≤ B∧B < nx')∧∀ i,i < x.2→bG m (c.getD i default)=true) (fun x=>c.length - x.2) (.esl,0) ⟨Nat.zero_le _,fun y hy=>ap (by omega),by omega,Row.nil,fun B h=>(by cases h),fun i h=>absurd h (by omega)⟩ ag0 ?_
 rintro ⟨svo,k⟩ H1 nx1 ⟨h1,h2,h3,hrow,hbd,hz⟩
 dsimp only at h1 hrow hbd hz ⊢
 by_cases hk:k < c.length
 rotate_left
 ·rw [List.take_of_length_le (by omega)] at hrow
  (have zz:=and_self; repeat' (first | refine zW ?_ | apply a_n | apply a_x | refine zO ?_ | refine vY ?_ | (refine zGY ?_ ?_ <;> (intro _hg; try (exfalso; omega))) | refine ag rfl ?_ | refine r2Y ?_ | fail)) <;> (try clear zz)
  exact ⟨h3,h2,.inr ⟨fo fun i hi=>hz i (by omega),svo,rfl,hrow,hbd⟩⟩
 have ix:=ew hk
 obtain ⟨s1,s2⟩:=hs _ (aQ hk)
 have hcl:(((c.take k).map (b4 m)).map au).length=k:=by rw [List.length_map,List.length_map,List.length_take]; omega
 have e1:(c.take (k + 1)).map (b4 m)=(c.take k).map (b4 m) ++ [b4 m (c.getD k default)]:=by rw [bv hk,List.map_append]; rfl
 have hall:bG m (c.getD k default)=false→c.all (bG m)=false:=fun h=>eC hk h
 have hzz:bG m (c.getD k default)=true→∀ i,i < k + 1→bG m (c.getD i default)=true:=fun h i hi=>by
  rcases Nat.lt_succ_iff_lt_or_eq.1 hi with h' | rfl
  ·exact hz i h'
  ·exact h
 have ho:=xq m (c.getD k default) hlen (by omega) s2 b H1 nx1 ((h2 b hbn).trans hb) (by omega)
 obtain ⟨o1,o2⟩:=hrow.one
 generalize c.getD k default=s at *
 (have zz:=@ix; repeat' (first | refine zW ?_ | apply a_n | refine zO ?_ | refine vY ?_ | (refine zGY ?_ ?_ <;> (intro _hg; try (exfalso; omega))) | fail)) <;> (try clear zz)
 refine ay ev0 ev0 ho ?_
 rintro _ H2 nx2 ⟨hle,h⟩
 rcases h with ⟨ht,rfl,hsm⟩ | ⟨ht,sv2,Hf,H3,rfl,hone,hfz,hsn,hsm⟩
 ·(have zz:=and_self; repeat' (first | refine zW ?_ | apply a_n | apply a_r | refine zO ?_ | refine vY ?_ | refine cTY ?_ | refine ag rfl ?_ | refine r2Y ?_ | fail)) <;> (try clear zz)
  exact ⟨by omega,fun x hx=>(hsm x (by omega)).trans (h2 x hx),.inl ⟨hall ht,rfl⟩⟩
 (have zz:=and_self; repeat' (first | apply a_n | refine zO ?_ | refine vY ?_ | fail)) <;> (try clear zz)
 refine dJ (dJ ?_)
 refine oa Hf H3 [(0,.mp b),(6,svo),(9,au (b4 m s)),(10,.bool true),(12,aG c),(13,.int .i64 c.length),(14,.int .i64 k)] hfz ⟨.inl rfl,.inl rfl,.inr hsn,.inl rfl,.inl rfl,.inl rfl,.inl rfl,trivial⟩ ?_
 (have zz:=aI @aD @av; repeat' (first | apply a_n | refine zO ?_ | refine vY ?_ | refine blY ?_ | refine cFY ?_ | fail)) <;> (try clear zz)
 refine dT rfl ev0 (hrow.same fun B hB=>?_) ev0 dC rfl rfl Nat.one_pos (by omega) (by omega) ?_
 ·have:=hbd B hB; rw [ap (by omega)]; exact hsm B (by omega)
 rintro s3 H4 nx4 hr4 i1 i2 i3 i4
 (have zz:=and_self; repeat' (first | apply a_n | refine zO ?_ | refine vY ?_ | fail)) <;> (try clear zz)
 refine ⟨(s3,k + 1),by dsimp only; omega,⟨by dsimp only; omega,fun y hy=>?_,by omega,?_,fun B hB=>?_,hzz ht⟩,ag0⟩
 ·rw [i3 y (by omega) (fun h=>by have:=hbd y h; omega),ap (by omega),hsm y (by omega)]; exact h2 y hy
 ·dsimp only
  rw [e1,List.map_append]; exact hr4
 ·rcases i4 B hB with h | h
  ·have:=hbd B h; omega
  ·omega
end Go.Proofs.YtbgdcebmgjafjaaGreat
namespace Go.Proofs.YtbgdcebmgjafjaaGreat
open Go Go.Abs
attribute [local irreducible] aE aj bd bb aM aV aB aX bf br Go.Abs.Fn ba Go.Abs.Pure ax aL Yl
end Go.Proofs.YtbgdcebmgjafjaaGreat
namespace Go.Proofs.YtbgdcebmgjafjaaGreat
open Go Go.Abs
end Go.Proofs.YtbgdcebmgjafjaaGreat
namespace Go.Proofs.YtbgdcebmgjafjaaGreat
open Go Go.Abs
open Nat (reduceEqDiff reduceAdd reduceLeDiff)
attribute [local irreducible] aE aj bd bb aM aV aB aX bf br Go.Abs.Fn ba Go.Abs.Pure ax aL Yl
end Go.Proofs.YtbgdcebmgjafjaaGreat
namespace Go.Proofs.YtbgdcebmgjafjaaGreat
open Go Go.Abs
open Nat (reduceEqDiff reduceAdd reduceLeDiff)
attribute [local irreducible] aE aj bd bb aM aV aB aX bf br Go.Abs.Fn ba Go.Abs.Pure ax aL Yl
end Go.Proofs.YtbgdcebmgjafjaaGreat
namespace Go.Proofs.YtbgdcebmgjafjaaGreat
open Go Go.Abs
def kr (l:List Spx):List Spx:=(db a8 l).filter fun s=>!aW (db a8 l) s
theorem pG {l:List Spx} {s:Spx}:s ∈ kr l ↔ s ∈ l∧aW l s=false:=by
 unfold kr
 rw [List.mem_filter,dG]
 refine and_congr_right fun _=>?_
 cases h:aW l s
 ·refine ⟨fun _=>rfl,fun _=>?_⟩
  cases h2:aW (db a8 l) s
  ·rfl
  ·obtain ⟨t,t1,t2⟩:=cU.1 h2
   rw [cU.2 ⟨t,dG.1 t1,t2⟩] at h; cases h
 ·refine ⟨fun h2=>?_,fun h2=>by cases h2⟩
  obtain ⟨t,t1,t2⟩:=cU.1 h
  rw [cU.2 ⟨t,dG.2 t1,t2⟩] at h2; cases h2
theorem s9 {l:List Spx}:cf a8 (kr l):=(gd n5 l).sublist List.filter_sublist
theorem tE {l:List Spx} {s:Spx} (h:s ∈ kr l):s ∈ l:=(pG.1 h).1
theorem uT {l:List Spx}:(kr l).length ≤ l.length:=Nat.le_trans (List.length_filter_le _ _) go
theorem sS {l:List Spx} (h:∀ s ∈ l,s ≠ []):db a8 (l.filter fun s=>decide (0 < s.length) && !aW l s)=kr l:=by
 refine jG n5 (gd n5 _) s9 fun s=>?_
 rw [dG,pG,List.mem_filter,Bool.and_eq_true,decide_eq_true_eq,Bool.not_eq_true']
 exact ⟨fun h=>⟨h.1,h.2.2⟩,fun h'=>⟨h'.1,List.length_pos_iff.2 (h s h'.1),h'.2⟩⟩
theorem uI {m:MapV} {l:Spx} {w:Vtx}:w ∈ b4 m l ↔ ∃ v ∈ l,fD m v=w:=by
 unfold b4; rw [dG,List.mem_map]
theorem tM {m:MapV} {l:Spx}:cf aR (b4 m l):=gd ku _
theorem kA {m:MapV} {l:Spx}:(b4 m l).length ≤ l.length:=by
 unfold b4
 have:=go (K:=aR) (l:=l.map (fD m))
 rwa [List.length_map] at this
theorem rt {m:MapV} {l:Spx} (h:l ≠ []):b4 m l ≠ []:=fun e=>h (by unfold b4 at e; rwa [tH,List.map_eq_nil_iff] at e)
theorem qm {m:MapV} {l:Spx}:bG m l=true ↔ ∀ v ∈ l,v ∈ m.fr:=by
 unfold bG; simp [List.all_eq_true]
theorem rX {m:MapV} {l:Spx} (hm:dh m=0) (hl:bz l=0) (ht:bG m l=true):bz (b4 m l)=0:=by
 obtain ⟨q1,q2,q3,q4,q5⟩:=jw hm
 obtain ⟨p1,p2,p3,p4⟩:=cR hl
 have hne:l ≠ []:=fun e=>by rw [e] at p1; simp at p1
 refine tF ⟨List.length_pos_iff.2 (rt hne),Nat.le_trans kA p2⟩ tM fun w hw=>?_
 obtain ⟨v,v1,rfl⟩:=uI.1 hw
 exact q5 _ (uj q2 (qm.1 ht v v1))
def eK (m:MapV) (l:Spx):Spx × Int:=if dh m ≠ 0 then ([],dh m) else if bz l ≠ 0 then ([],bz l) else if bG m l=false then ([],6) else (b4 m l,0)
def d5 (m:MapV) (c:List Spx):List Spx × Int:=if dh m ≠ 0 then ([],dh m) else if bC c ≠ 0 then ([],bC c) else if c.all (bG m)=false then ([],6) else (kr (c.map (b4 m)),0)
end Go.Proofs.YtbgdcebmgjafjaaGreat
namespace Go.Proofs.YtbgdcebmgjafjaaGreat
open Go Go.Abs
theorem uM {H H':Hp} (hs:∀ b cs,H b=some cs→H' b=some cs) {x y:AV} (h:Snap H x y):Snap H' x y:=by
 induction h with
 | bool b=>exact .bool _
 | int k n=>exact .int _ _
 | str s=>exact .str _
 | nilp=>exact .nilp
 | nilf=>exact .nilf
 | nilm=>exact .nilm
 | esl=>exact .esl
 | eslsl sz=>exact .eslsl _
 | sl sz l l' hl hc h ih=>exact .sl sz l l' hl hc ih
 | slnil sz sz'=>exact .slnil _ _
 | msl b n sz off len cs l' hb hn hf hl hc h ih=>exact .msl b n sz off len cs l' (hs _ _ hb) hn hf hl hc ih
 | mslnil b n sz off sz'=>exact .mslnil _ _ _ _ _
 | ptr b n off cs cs' hb hn hl h ih=>exact .ptr b n off cs cs' (hs _ _ hb) hn hl ih
 | iptr cs cs' off hl h ih=>exact .iptr cs cs' off hl ih
 | func f cs cs' hl h ih=>exact .func f cs cs' hl ih
 | agg cs cs' hl h ih=>exact .agg cs cs' hl ih
 | tup cs cs' hl h ih=>exact .tup cs cs' hl ih
theorem gA {H:Hp} {s:AV} {l:Spx} {e f:Int} (h:Snap H s (au l)) (he:e=f):Snap H (.tup [s,.int .i64 e]) (.tup [au l,.int .i64 f]):=by
 subst he; exact pA (aK h (aK (.int _ _) ab))
theorem fS {H:Hp} {s:AV} {l:List Spx} {e f:Int} (h:Snap H s (aG l)) (he:e=f):Snap H (.tup [.agg [s],.int .i64 e]) (.tup [dj l,.int .i64 f]):=by
 subst he; exact pA (aK (pQ (aK h ab)) (aK (.int _ _) ab))
attribute [local irreducible] aE aj bd bb aM aV aB aX bf br Go.Abs.Fn ba Go.Abs.Pure ax aL Yl
theorem vN (m:MapV) (l:Spx) (hm:ShM m) (hl:Shn l):Pure Tryz.prog 23 [gQ m,au l] (.tup [au (eK m l).1,.int .i64 (eK m l).2]):=by
 refine Pure.of_c2 follows yK (Nat.le_of_ble_eq_true rfl) ?_
 simp only [b23,cO,cG,cN,cM,cD,cF,cB,ar,aH]
 have hc:=i5 l hl
 unfold eK
 (have zz:=aI @aD @av; repeat' (first | refine zW ?_ | apply a_n | refine zO ?_ | refine vZ ?_ | refine bxZ ?_ | fail)) <;> (try clear zz)
 refine ay ev0 ev0 (tG m hm _ _) ?_
 rintro _ H1 nx1 ⟨hsm,hle,h⟩
 rcases h with ⟨he,B,rfl,hB1,hB2,hB3⟩ | ⟨he,rfl⟩
 rotate_left
 ·rw [if_pos he]
  have z:decide (dh m ≠ 0)=true:=decide_eq_true he
  (have zz:=@z; repeat' (first | refine zW ?_ | apply a_n | apply a_r | refine zO ?_ | refine vY ?_ | refine cTY ?_ | refine ag rfl ?_ | refine r2Y ?_ | fail)) <;> (try clear zz)
  exact gA (.eslsl _) rfl
 rw [if_neg (fun h=>h he)]
 obtain ⟨q1,q2,q3,q4,q5⟩:=jw he
 have z0:decide ((0:Int) ≠ 0)=false:=rfl
 by_cases hes:bz l=0
 rotate_left
 ·rw [if_pos hes]
  have z:decide (bz l ≠ 0)=true:=decide_eq_true hes
  (have zz:=aI @z0 @z; repeat' (first | refine zW ?_ | apply a_n | apply a_r | refine zO ?_ | refine vY ?_ | refine cY ?_ (hp:=hc) (hs:=by (first | refine aa ?_ rfl | apply ac); (repeat' (first | exact ab | apply ah | apply ae | exact am _)); first | done | fail) | refine cTY ?_ | refine cFY ?_ | refine ag rfl ?_ | refine r2Y ?_ | fail)) <;> (try clear zz)
  exact gA (.eslsl _) rfl
 rw [if_neg (fun h=>h hes)]
 rw [hes] at hc
 obtain ⟨p1,p2,p3,p4⟩:=cR hes
 have hne:l ≠ []:=fun e=>by rw [e] at p1; simp at p1
 (have zz:=@z0; repeat' (first | refine zW ?_ | apply a_n | refine zO ?_ | refine vY ?_ | refine cY ?_ (hp:=hc) (hs:=by (first | refine aa ?_ rfl | apply ac); (repeat' (first | exact ab | apply ah | apply ae | exact am _)); first | done | fail) | refine cFY ?_ | fail)) <;> (try clear zz)
 refine ay ev0 ev0 (xq m l q2 (by omega) hne B H1 nx1 hB3 hB2) ?_
 rintro _ H2 nx2 ⟨hle2,h⟩
 rcases h with ⟨ht,rfl,hsm2⟩ | ⟨ht,sv,Hf,H3,rfl,hone,hfz,hsn,hsm2⟩
 ·rw [if_pos ht]
  (have zz:=and_self; repeat' (first | refine zW ?_ | apply a_n | apply a_r | refine zO ?_ | refine vY ?_ | refine cTY ?_ | refine ag rfl ?_ | refine r2Y ?_ | fail)) <;> (try clear zz)
  exact gA (.eslsl _) rfl
 ·rw [if_neg (by rw [ht]; exact fun h=>by cases h)]
  (have zz:=@hone; repeat' (first | refine zW ?_ | apply a_n | refine zO ?_ | refine vY ?_ | refine cFY ?_ | refine ag rfl ?_ | refine r2Y ?_ | fail)) <;> (try clear zz)
  exact gA (uM hfz.sub hsn) rfl
theorem sR (m:MapV) (l:Spx) (hm:ShM m) (hl:Shn l):Pure Tryz.prog 24 [gQ m,au l] (.tup [au (eK m l).1,.int .i64 (eK m l).2]):=by
 refine Pure.of_c2 follows An (Nat.le_of_ble_eq_true rfl) ?_
 simp only [b24,cO,cG,cN,cM,cD,cF,cB,ar,aH]
 have hc:=ns l hl
 have hk:=qY m hm
 have htt:=pH m l hm hl
 unfold eK
 by_cases he:dh m=0
 rotate_left
 ·rw [if_pos he]
  have z:decide (dh m ≠ 0)=true:=decide_eq_true he
  (have zz:=aI @aD (aI @av @z); repeat' (first | refine zW ?_ | apply a_n | apply a_r | refine zO ?_ | refine vZ ?_ | refine cZ ?_ (hp:=hk) (hs:=by (first | refine aa ?_ rfl | apply ac); (repeat' (first | exact ab | apply ah | apply ae | exact bw _)); first | done | fail) | refine bxZ ?_ | refine cTZ ?_ | refine ag rfl ?_ | refine r2Z ?_ | fail)) <;> (try clear zz)
  exact gA (.eslsl _) rfl
 rw [if_neg (fun h=>h he)]
 rw [he] at hk
 obtain ⟨q1,q2,q3,q4,q5⟩:=jw he
 have z0:decide ((0:Int) ≠ 0)=false:=rfl
 by_cases hes:bz l=0
 rotate_left
 ·rw [if_pos hes]
  have z:decide (bz l ≠ 0)=true:=decide_eq_true hes
  (have zz:=aI @aD (aI @av (aI @z0 @z)); repeat' (first | refine zW ?_ | apply a_n | apply a_r | refine zO ?_ | refine vZ ?_ | refine cZ ?_ (hp:=by first | exact hk | exact hc) (hs:=by (first | refine aa ?_ rfl | apply ac); (repeat' (first | exact ab | apply ah | apply ae | exact bw _ | exact am _)); first | done | fail) | refine bxZ ?_ | refine cTZ ?_ | refine cFZ ?_ | refine ag rfl ?_ | refine r2Z ?_ | fail)) <;> (try clear zz)
  exact gA (.eslsl _) rfl
 rw [if_neg (fun h=>h hes)]
 rw [hes] at hc
 obtain ⟨p1,p2,p3,p4⟩:=cR hes
 cases ht:bG m l
 ·rw [ht] at htt
  rw [if_pos rfl]
  (have zz:=aI @aD (aI @av @z0); repeat' (first | refine zW ?_ | apply a_n | apply a_r | refine zO ?_ | refine vZ ?_ | refine cZ ?_ (hp:=by first | exact hk | exact hc | exact htt) (hs:=by (first | refine aa ?_ rfl | apply ac); (repeat' (first | exact ab | apply ah | apply ae | exact bw _ | exact am _)); first | done | fail) | refine bxZ ?_ | refine cTZ ?_ | refine cFZ ?_ | refine ag rfl ?_ | refine r2Z ?_ | fail)) <;> (try clear zz)
  exact gA (.eslsl _) rfl
 ·rw [ht] at htt
  rw [if_neg (fun h=>by cases h)]
  have ho:=vT m l hm q2 (by omega) ht
  (have zz:=aI @aD (aI @av @z0); repeat' (first | refine zW ?_ | apply a_n | refine zO ?_ | refine vZ ?_ | refine cZ ?_ (hp:=by first | exact hk | exact hc | exact htt | exact ho) (hs:=by (first | refine aa ?_ rfl | apply ac); (repeat' (first | exact ab | apply ah | apply ae | exact bw _ | exact am _)); first | done | fail) | refine bxZ ?_ | refine cFZ ?_ | refine ag rfl ?_ | refine r2Z ?_ | fail)) <;> (try clear zz)
  exact gA (am _).snap rfl
end Go.Proofs.YtbgdcebmgjafjaaGreat
namespace Go.Proofs.YtbgdcebmgjafjaaGreat
open Go Go.Abs
attribute [local irreducible] aE aj bd bb aM aV aB aX bf br Go.Abs.Fn ba Go.Abs.Pure ax aL Yl
end Go.Proofs.YtbgdcebmgjafjaaGreat
namespace Go.Proofs.YtbgdcebmgjafjaaGreat
open Go Go.Abs
def nq (l:List Spx) (v:Spx) (k:Nat):List Spx:=if (l.take k).any (fun y=>decide (a8 v y < 0))=true then fm a8 (l.take k) v else l.take k
theorem sy {l:List Spx} {v:Spx} {k:Nat} (hk:k < l.length):nq l v (k + 1)=(if (l.take k).any (fun y=>decide (a8 v y < 0))=false∧a8 v (l.getD k default) < 0 then nq l v k ++ [v] else nq l v k) ++ [l.getD k default]∧(l.take (k + 1)).any (fun y=>decide (a8 v y < 0))=((l.take k).any (fun y=>decide (a8 v y < 0)) || decide (a8 v (l.getD k default) < 0)):=by
 unfold nq
 rw [bv hk,pz]
 refine ⟨?_,rfl⟩
 by_cases hv:a8 v (l.getD k default) < 0
 ·rw [decide_eq_true hv,Bool.or_true,if_pos rfl]
  cases ha:(l.take k).any fun y=>decide (a8 v y < 0)
  ·rw [if_pos ⟨rfl,hv⟩,if_neg (by decide),mQ ha hv]
  ·rw [if_neg (fun h=>by cases h.1),if_pos rfl,iH ha]
 ·rw [decide_eq_false hv,Bool.or_false]
  cases ha:(l.take k).any fun y=>decide (a8 v y < 0)
  ·simp
   simpa using hv
  ·simp [hv,iH ha]
theorem tc {l:List Spx} {v:Spx} {k:Nat}:(nq l v k).length ≤ l.length + 1:=by
 unfold nq
 split
 ·rw [lL,List.length_take]; omega
 ·rw [List.length_take]; omega
attribute [local irreducible] aE aj bd bb aM aV aB aX bf br Go.Abs.Fn ba Go.Abs.Pure ax aL Yl
theorem u6 (l:List Spx) (v:Spx) (hl:l.length ≤ 1000000) (hs:∀ s ∈ l,Shn s) (hv:Shn v):Pure Tryz.prog 102 [aG l,au v] (aG (eG a8 l v)):=by
 refine Pure.of_c2 follows yO (Nat.le_of_ble_eq_true rfl) ?_
 simp only [yE,cO,cG,cN,cM,cD,cF,cB,ar,aH]
 (have zz:=@ai; repeat' (first | refine zW ?_ | apply a_n | refine zO ?_ | refine vY ?_ | fail)) <;> (try clear zz)
 refine aO (X:=Nat × AV) (fun x=>[(0,aG l),(1,au v),(5,x.2),(6,.bool ((l.take x.1).any fun y=>decide (a8 v y < 0))),(7,.int .i64 x.1)]) (fun x H nx=>x.1 ≤ l.length∧Row H 1 x.2 ((nq l v x.1).map au)∧(∀ b,eM x.2=some b→b < nx)∧∀ i,i < x.1→l.getD i default ≠ v) (fun x=>l.length - x.1) (0,.esl) ⟨Nat.zero_le _,Row.nil,fun b h=>(by cases h),fun i h=>absurd h (by omega)⟩ (by (iterate 5 refine And.intro rfl ?_); trivial) ?_
 rintro ⟨k,sv⟩ H nx ⟨hk,hrow,hbd,hne⟩
 dsimp only at hk hrow hbd hne ⊢
 by_cases hk2:k < l.length
 rotate_left
 ·obtain rfl:k=l.length:=by omega
  unfold nq at hrow
  rw [List.take_length] at hrow ⊢
  have hnm:v ∉ l:=fun hm=>by
   obtain ⟨i,hi,e⟩:=List.getElem_of_mem hm
   exact hne i hi (by simp [List.getD,hi,e])
  unfold eG
  rw [if_neg hnm]
  cases ha:l.any fun y=>decide (a8 v y < 0)
  ·rw [ha,if_neg (by decide)] at hrow
   (have zz:=aI @ai (aI @aD @av); repeat' (first | refine zW ?_ | apply a_n | apply a_x | refine zO ?_ | refine vY ?_ | refine blY ?_ | refine cTY ?_ | (refine zGY ?_ ?_ <;> (intro _hg; try (exfalso; omega))) | fail)) <;> (try clear zz)
   refine dT rfl ev0 (hrow.same fun b hb=>?_) ev0 dC rfl rfl (by omega) (by simp; omega) (by simp; omega) ?_
   ·have:=hbd b hb; rw [ap (by omega)]
   rintro s2 H2 nx2 hr2 _ _ _ _
   obtain ⟨o1,o2⟩:=hr2.one
   (have zz:=aI @o1 @o2; repeat' (first | refine zW ?_ | apply a_n | refine zO ?_ | refine vY ?_ | refine ag rfl ?_ | refine r1Y ?_ | fail)) <;> (try clear zz)
   rw [mH ha]
   refine gG ?_
   rw [List.map_append]; exact hr2
  ·rw [ha,if_pos rfl] at hrow
   obtain ⟨o1,o2⟩:=hrow.one
   (have zz:=aI @ai (aI @o1 @o2); repeat' (first | refine zW ?_ | apply a_n | apply a_x | refine zO ?_ | refine vY ?_ | refine cFY ?_ | (refine zGY ?_ ?_ <;> (intro _hg; try (exfalso; omega))) | refine ag rfl ?_ | refine r1Y ?_ | fail)) <;> (try clear zz)
   exact gG hrow
 have ix:=ew hk2
 have hc:=fR v (l.getD k default) hv (hs _ (aQ hk2))
 have hz:=@mO v (l.getD k default)
 obtain ⟨e1,e2⟩:=sy (v:=v) hk2
 have hl1:((nq l v k).map au).length ≤ 1000001:=by rw [List.length_map]; have:=tc (l:=l) (v:=v) (k:=k); omega
 have hmem:l.getD k default ∈ l:=aQ hk2
 by_cases h0:a8 v (l.getD k default)=0
 ·have e:=hz.1 h0
  have hp:eG a8 l v=l:=by unfold eG; rw [if_pos (by rw [e]; exact hmem)]
  rw [hp]
  rw [h0] at hc
  have z0:decide ((0:Int)=0)=true:=rfl
  generalize l.getD k default=w at *
  (have zz:=aI @ai (aI @ix (aI @z0 (aI @aD @av))); repeat' (first | refine zW ?_ | apply a_n | apply a_r | refine zO ?_ | refine vY ?_ | refine cY ?_ (hp:=hc) (hs:=by (first | refine aa ?_ rfl | apply ac); (repeat' (first | exact ab | apply ah | apply ae | exact am _)); first | done | fail) | (refine zGY ?_ ?_ <;> (intro _hg; try (exfalso; omega))) | refine ag rfl ?_ | refine r1Y ?_ | fail)) <;> (try clear zz)
  exact bi _ _
 have hnew:∀ i,i < k + 1→l.getD i default ≠ v:=fun i hi=>by
  rcases Nat.lt_succ_iff_lt_or_eq.1 hi with h' | rfl
  ·exact hne i h'
  ·exact fun e=>h0 (hz.2 e.symm)
 have z0:decide (a8 v (l.getD k default)=0)=false:=decide_eq_false h0
 by_cases hd:(l.take k).any (fun y=>decide (a8 v y < 0))=false∧a8 v (l.getD k default) < 0
 ·rw [if_pos hd] at e1
  rw [hd.1,decide_eq_true hd.2,Bool.false_or] at e2
  obtain ⟨d1,d2⟩:=hd
  rw [d1]
  have z:decide (a8 v (l.getD k default) < 0)=true:=decide_eq_true d2
  generalize a8 v (l.getD k default)=cv at *
  generalize l.getD k default=w at *
  (have zz:=aI @ai (aI @ix (aI @z (aI @z0 (aI @aD @av)))); repeat' (first | refine zW ?_ | apply a_n | refine zO ?_ | refine vY ?_ | refine cY ?_ (hp:=hc) (hs:=by (first | refine aa ?_ rfl | apply ac); (repeat' (first | exact ab | apply ah | apply ae | exact am _)); first | done | fail) | refine blY ?_ | refine gTY ?_ | refine cTY ?_ | refine cFY ?_ | (refine zGY ?_ ?_ <;> (intro _hg; try (exfalso; omega))) | fail)) <;> (try clear zz)
  refine dT rfl ev0 (hrow.same fun b hb=>?_) ev0 dC rfl rfl (by omega) (by omega) (by omega) ?_
  ·have:=hbd b hb; rw [ap (by omega)]
  rintro s1 H1 nx1 hr1 j1 j2 j3 j4
  have hb1:∀ b,eM s1=some b→b < nx1:=fun b hb=>by
   rcases j4 b hb with h | h
   ·have:=hbd b h; omega
   ·omega
  obtain ⟨o1,o2⟩:=hr1.one
  (have zz:=aI @ix (aI @o1 (aI @o2 (aI @aD @av))); repeat' (first | apply a_n | refine zO ?_ | refine vY ?_ | refine blY ?_ | fail)) <;> (try clear zz)
  refine dT rfl ev0 (hr1.same fun b hb=>?_) ev0 dC rfl rfl (by omega) (by simp at hl1 ⊢; omega) (by simp at hl1 ⊢; omega) ?_
  ·have:=hb1 b hb; rw [ap (by omega)]
  rintro s2 H2 nx2 hr2 i1 i2 i3 i4
  (have zz:=@e2; repeat' (first | apply a_n | refine zO ?_ | refine vY ?_ | fail)) <;> (try clear zz)
  refine ⟨(k + 1,s2),by dsimp only; omega,⟨by dsimp only; omega,?_,fun b hb=>?_,hnew⟩,(have zz:=@e2; agZ)⟩
  ·dsimp only
   rw [e1,List.map_append,List.map_append]; exact hr2
  ·rcases i4 b hb with h | h
   ·have:=hb1 b h; omega
   ·omega
 rw [if_neg hd] at e1
 cases ha:(l.take k).any fun y=>decide (a8 v y < 0)
 ·have d2:¬ a8 v (l.getD k default) < 0:=fun h=>hd ⟨ha,h⟩
  rw [ha,decide_eq_false d2,Bool.false_or] at e2
  have z:decide (a8 v (l.getD k default) < 0)=false:=decide_eq_false d2
  generalize a8 v (l.getD k default)=cv at *
  generalize l.getD k default=w at *
  (have zz:=aI @ai (aI @ix (aI @z (aI @z0 (aI @aD @av)))); repeat' (first | refine zW ?_ | apply a_n | refine zO ?_ | refine vY ?_ | refine cY ?_ (hp:=hc) (hs:=by (first | refine aa ?_ rfl | apply ac); (repeat' (first | exact ab | apply ah | apply ae | exact am _)); first | done | fail) | refine blY ?_ | refine gTY ?_ | refine cFY ?_ | (refine zGY ?_ ?_ <;> (intro _hg; try (exfalso; omega))) | fail)) <;> (try clear zz)
  refine dT rfl ev0 (hrow.same fun b hb=>?_) ev0 dC rfl rfl (by omega) (by omega) (by omega) ?_
  ·have:=hbd b hb; rw [ap (by omega)]
  rintro s2 H2 nx2 hr2 i1 i2 i3 i4
  (have zz:=@e2; repeat' (first | apply a_n | refine zO ?_ | refine vY ?_ | fail)) <;> (try clear zz)
  refine ⟨(k + 1,s2),by dsimp only; omega,⟨by dsimp only; omega,?_,fun b hb=>?_,hnew⟩,(have zz:=@e2; agZ)⟩
  ·dsimp only
   rw [e1,List.map_append]; exact hr2
  ·rcases i4 b hb with h | h
   ·have:=hbd b h; omega
   ·omega
 ·rw [ha,Bool.true_or] at e2
  generalize a8 v (l.getD k default)=cv at *
  generalize l.getD k default=w at *
  (have zz:=aI @ai (aI @ix (aI @z0 (aI @aD @av))); repeat' (first | refine zW ?_ | apply a_n | refine zO ?_ | refine vY ?_ | refine cY ?_ (hp:=hc) (hs:=by (first | refine aa ?_ rfl | apply ac); (repeat' (first | exact ab | apply ah | apply ae | exact am _)); first | done | fail) | refine blY ?_ | refine gFY ?_ | refine cFY ?_ | (refine zGY ?_ ?_ <;> (intro _hg; try (exfalso; omega))) | fail)) <;> (try clear zz)
  refine dT rfl ev0 (hrow.same fun b hb=>?_) ev0 dC rfl rfl (by omega) (by omega) (by omega) ?_
  ·have:=hbd b hb; rw [ap (by omega)]
  rintro s2 H2 nx2 hr2 i1 i2 i3 i4
  (have zz:=@e2; repeat' (first | apply a_n | refine zO ?_ | refine vY ?_ | fail)) <;> (try clear zz)
  refine ⟨(k + 1,s2),by dsimp only; omega,⟨by dsimp only; omega,?_,fun b hb=>?_,hnew⟩,(have zz:=@e2; agZ)⟩
  ·dsimp only
   rw [e1,List.map_append]; exact hr2
  ·rcases i4 b hb with h | h
   ·have:=hbd b h; omega
   ·omega
theorem qk (l:List Spx) (s:Spx) (hl:Shn l) (hls:∀ t ∈ l,Shn t) (hs:Shn s):Pure Tryz.prog 101 [aG l,au s] (.bool (aW l s)):=by
 refine Pure.of_c2 follows yk (Nat.le_of_ble_eq_true rfl) ?_
 simp only [yy,cO,cG,cN,cM,cD,cF,cB,ar,aH]
 have hl':l.length ≤ 17592186044416:=hl
 (have zz:=@ai; repeat' (first | refine zW ?_ | apply a_n | refine zO ?_ | refine vZ ?_ | fail)) <;> (try clear zz)
 refine wi (X:=Nat) (fun k=>[(0,aG l),(1,au s),(5,.int .i64 k)]) (fun k=>k ≤ l.length∧∀ i,i < k→(decide (s.length < (l.getD i default).length) && bN s (l.getD i default))=false) (fun k=>l.length - k) 0 ⟨Nat.zero_le _,fun i h=>absurd h (by omega)⟩ ag0 ?_
 rintro k ⟨h1,h2⟩
 by_cases hk:k < l.length
 rotate_left
 ·(have zz:=@ai; repeat' (first | refine zW ?_ | apply a_n | apply a_x | refine zO ?_ | refine vZ ?_ | (refine zGZ ?_ ?_ <;> (intro _hg; try (exfalso; omega))) | refine ag rfl ?_ | refine r1Z ?_ | fail)) <;> (try clear zz)
  refine bx ?_
  unfold aW
  symm
  rw [List.any_eq_false]
  intro t ht
  obtain ⟨i,hi,e⟩:=List.getElem_of_mem ht
  have:=h2 i (by omega)
  rw [show l.getD i default=t by simp [List.getD,hi,e]] at this
  simpa using this
 have ix:=ew hk
 have hmem:l.getD k default ∈ l:=aQ hk
 have hin:=ol s (l.getD k default) hs (hls _ hmem)
 have hhit:(decide (s.length < (l.getD k default).length) && bN s (l.getD k default))=true→aW l s=true:=fun h=>by
  unfold aW
  exact List.any_eq_true.2 ⟨_,hmem,h⟩
 have hnext:(decide (s.length < (l.getD k default).length) && bN s (l.getD k default))=false→∀ i,i < k + 1→(decide (s.length < (l.getD i default).length) && bN s (l.getD i default))=false:=fun h i hi=>by
  rcases Nat.lt_succ_iff_lt_or_eq.1 hi with h' | rfl
  ·exact h2 i h'
  ·exact h
 generalize l.getD k default=t at *
 by_cases hlt:s.length < t.length
 ·rw [decide_eq_true hlt,Bool.true_and] at hhit hnext
  have z:decide ((s.length:Int) < t.length)=true:=decide_eq_true (by omega)
  cases hb:bN s t
  ·rw [hb] at hin
   (have zz:=aI @ai (aI @af (aI @ix @z)); repeat' (first | refine zW ?_ | apply a_n | refine zO ?_ | refine vZ ?_ | refine cZ ?_ (hp:=hin) (hs:=by (first | refine aa ?_ rfl | apply ac); (repeat' (first | exact ab | apply ah | apply ae | exact am _)); first | done | fail) | refine gTZ ?_ | refine cFZ ?_ | (refine zGZ ?_ ?_ <;> (intro _hg; try (exfalso; omega))) | fail)) <;> (try clear zz)
   exact ⟨k + 1,⟨by omega,hnext hb⟩,by omega,ag0,rfl,rfl⟩
  ·rw [hb] at hin
   (have zz:=aI @ai (aI @af (aI @ix @z)); repeat' (first | refine zW ?_ | apply a_n | apply a_r | refine zO ?_ | refine vZ ?_ | refine cZ ?_ (hp:=hin) (hs:=by (first | refine aa ?_ rfl | apply ac); (repeat' (first | exact ab | apply ah | apply ae | exact am _)); first | done | fail) | refine gTZ ?_ | refine cTZ ?_ | (refine zGZ ?_ ?_ <;> (intro _hg; try (exfalso; omega))) | refine ag rfl ?_ | refine r1Z ?_ | fail)) <;> (try clear zz)
   rw [hhit hb]; exact .bool _
 ·rw [decide_eq_false hlt,Bool.false_and] at hhit hnext
  have z:decide ((s.length:Int) < t.length)=false:=decide_eq_false (by omega)
  (have zz:=aI @ai (aI @af (aI @ix @z)); repeat' (first | refine zW ?_ | apply a_n | refine zO ?_ | refine vZ ?_ | refine gFZ ?_ | refine cFZ ?_ | (refine zGZ ?_ ?_ <;> (intro _hg; try (exfalso; omega))) | fail)) <;> (try clear zz)
  exact ⟨k + 1,⟨by omega,hnext rfl⟩,by omega,ag0,rfl,rfl⟩
end Go.Proofs.YtbgdcebmgjafjaaGreat
namespace Go.Proofs.YtbgdcebmgjafjaaGreat
open Go Go.Abs
def mP (l:List Spx) (s:Spx):Bool:=decide (0 < s.length) && !aW l s
theorem pF {l:List Spx} {p:Spx→Bool} {k:Nat} (hk:k < l.length):db a8 ((l.take (k + 1)).filter p)=if p (l.getD k default)=true then eG a8 (db a8 ((l.take k).filter p)) (l.getD k default) else db a8 ((l.take k).filter p):=by
 rw [bv hk,List.filter_append]
 cases h:p (l.getD k default)
 ·rw [List.filter_cons_of_neg (by rw [h]; decide),List.filter_nil,List.append_nil,if_neg (by decide)]
 ·rw [List.filter_cons_of_pos h,List.filter_nil,mE,if_pos rfl]
attribute [local irreducible] aE aj bd bb aM aV aB aX bf br Go.Abs.Fn ba Go.Abs.Pure ax aL Yl
theorem qC (l:List Spx) (hl:l.length ≤ 1000000) (hls:∀ t ∈ l,Shn t):Pure Tryz.prog 67 [aG l] (dj (db a8 (l.filter (mP l)))):=by
 refine Pure.of_c2 follows Ah (Nat.le_of_ble_eq_true rfl) ?_
 simp only [b67,cO,cG,cN,cM,cD,cF,cB,ar,aH]
 (have zz:=@ai; repeat' (first | refine zW ?_ | apply a_n | refine zO ?_ | refine vZ ?_ | refine alZ ?_ | fail)) <;> (try clear zz)
 refine rk (X:=Nat) (fun k=>[(0,aG l),(2,.ptr 0 1 0),(3,aG (db a8 ((l.take k).filter (mP l)))),(4,.int .i64 k)]) (fun k H nx=>k ≤ l.length∧H 0=some [.esl]) (fun k=>l.length - k) 0 ⟨a9,_,Fz.none,⟨Nat.zero_le _,ao⟩,.inl rfl,.inl rfl,.inr (.eslsl 1),.inl rfl,trivial⟩ ?_
 rintro k H nx ⟨h1,g0⟩
 by_cases hk:k < l.length
 rotate_left
 ·rw [List.take_of_length_le (by omega)]
  (have zz:=aI @ai (aI @g0 (aI @aJ @az)); repeat' (first | refine zW ?_ | apply a_n | apply a_x | refine zO ?_ | refine vY ?_ | refine stY ?_ | (refine zGY ?_ ?_ <;> (intro _hg; try (exfalso; omega))) | refine ag rfl ?_ | refine r1Y ?_ | fail)) <;> (try clear zz)
  exact cT _ _
 have ix:=ew hk
 have hmem:l.getD k default ∈ l:=aQ hk
 have hcv:=qk l (l.getD k default) (show _ ≤ _ by omega) hls (hls _ hmem)
 have hst:=pF (p:=mP l) hk
 have hput:=u6 (db a8 ((l.take k).filter (mP l))) (l.getD k default) (Nat.le_trans go (Nat.le_trans (List.length_filter_le _ _) (by rw [List.length_take]; omega))) (fun s hs=>hls _ (List.mem_of_mem_take (List.mem_filter.1 (dG.1 hs)).1)) (hls _ hmem)
 have hkb:mP l (l.getD k default)=(decide (0 < (l.getD k default).length) && !aW l (l.getD k default)):=rfl
 generalize l.getD k default=s at *
 generalize db a8 ((l.take k).filter (mP l))=out at *
 by_cases h0:0 < s.length
 rotate_left
 ·rw [decide_eq_false h0,Bool.false_and] at hkb
  rw [hkb,if_neg (by decide)] at hst
  have z:decide (0 < (s.length:Int))=false:=decide_eq_false (by omega)
  (have zz:=aI @ai (aI @af (aI @ix @z)); repeat' (first | refine zW ?_ | apply a_n | refine zO ?_ | refine vY ?_ | refine gFY ?_ | refine cFY ?_ | (refine zGY ?_ ?_ <;> (intro _hg; try (exfalso; omega))) | fail)) <;> (try clear zz)
  exact ⟨k + 1,by omega,_,_,Fz.none,⟨by omega,g0⟩,eN (have zz:=@hst; agZ)⟩
 rw [decide_eq_true h0,Bool.true_and] at hkb
 have z:decide (0 < (s.length:Int))=true:=decide_eq_true (by omega)
 cases hc:aW l s
 ·rw [hc] at hcv hkb
  rw [hkb,if_pos (by decide)] at hst
  (have zz:=aI @ai (aI @af (aI @ix @z)); repeat' (first | refine zW ?_ | apply a_n | refine zO ?_ | refine vY ?_ | refine cY ?_ (hp:=by first | exact hcv | exact hput) (hs:=by (first | refine aa ?_ rfl | apply ac); (repeat' (first | exact ab | apply ah | apply ae | exact am _ | exact bi _)); first | done | fail) | refine gTY ?_ | refine cTY ?_ | (refine zGY ?_ ?_ <;> (intro _hg; try (exfalso; omega))) | fail)) <;> (try clear zz)
  exact ⟨k + 1,by omega,_,_,Fz.none,⟨by omega,g0⟩,eN (have zz:=@hst; agZ)⟩
 ·rw [hc] at hcv hkb
  rw [hkb,if_neg (by decide)] at hst
  (have zz:=aI @ai (aI @af (aI @ix @z)); repeat' (first | refine zW ?_ | apply a_n | refine zO ?_ | refine vY ?_ | refine cY ?_ (hp:=by first | exact hcv | exact hput) (hs:=by (first | refine aa ?_ rfl | apply ac); (repeat' (first | exact ab | apply ah | apply ae | exact am _ | exact bi _)); first | done | fail) | refine gTY ?_ | refine cFY ?_ | (refine zGY ?_ ?_ <;> (intro _hg; try (exfalso; omega))) | fail)) <;> (try clear zz)
  exact ⟨k + 1,by omega,_,_,Fz.none,⟨by omega,g0⟩,eN (have zz:=@hst; agZ)⟩
theorem wG (l:List Spx) (hl:l.length ≤ 1000000) (hls:∀ t ∈ l,Shn t) (hn:∀ s ∈ l,s ≠ []):Pure Tryz.prog 67 [aG l] (dj (kr l)):=by
 rw [← sS hn]
 exact qC l hl hls
theorem t6 (m:MapV) (c:List Spx) (hm:ShM m) (hc:Shn c) (hs:∀ s ∈ c,Shn s):Pure Tryz.prog 26 [gQ m,dj c] (.tup [dj (d5 m c).1,.int .i64 (d5 m c).2]):=by
 refine Pure.of_c2 follows zw (Nat.le_of_ble_eq_true rfl) ?_
 simp only [b26,cO,cG,cN,cM,cD,cF,cB,ar,aH]
 have hk:=qY m hm
 have hcc:=u7 c hc hs
 unfold d5
 by_cases he:dh m=0
 rotate_left
 ·rw [if_pos he]
  have z:decide (dh m ≠ 0)=true:=decide_eq_true he
  (have zz:=aI @aD (aI @av (aI @aJ (aI @az @z))); repeat' (first | refine zW ?_ | apply a_n | apply a_r | refine zO ?_ | refine vY ?_ | refine cY ?_ (hp:=hk) (hs:=by (first | refine aa ?_ rfl | apply ac); (repeat' (first | exact ab | apply ah | apply ae | exact bw _)); first | done | fail) | refine alY ?_ | refine bxY ?_ | refine stY ?_ | refine cTY ?_ | refine ag rfl ?_ | refine r2Y ?_ | fail)) <;> (try clear zz)
  exact fS (.eslsl _) rfl
 rw [if_neg (fun h=>h he)]
 rw [he] at hk
 obtain ⟨q1,q2,q3,q4,q5⟩:=jw he
 have z0:decide ((0:Int) ≠ 0)=false:=rfl
 by_cases hes:bC c=0
 rotate_left
 ·rw [if_pos hes]
  have z:decide (bC c ≠ 0)=true:=decide_eq_true hes
  (have zz:=aI @aD (aI @av (aI @aJ (aI @az (aI @z0 @z)))); repeat' (first | refine zW ?_ | apply a_n | apply a_r | refine zO ?_ | refine vY ?_ | refine cY ?_ (hp:=by first | exact hk | exact hcc) (hs:=by (first | refine aa ?_ rfl | apply ac); (repeat' (first | exact ab | apply ah | apply ae | exact bw _ | exact cT _)); first | done | fail) | refine alY ?_ | refine bxY ?_ | refine stY ?_ | refine cTY ?_ | refine cFY ?_ | refine ag rfl ?_ | refine r2Y ?_ | fail)) <;> (try clear zz)
  exact fS (.eslsl _) rfl
 rw [if_neg (fun h=>h hes)]
 rw [hes] at hcc
 obtain ⟨p1,p2,p3,p4⟩:=kR hes
 have hp:=rO c (by omega) (fun s hs=>by have:=(cR (p2 s hs)).2.1; omega)
 have hpl:(cp c).length ≤ 50000:=by
  have:=hZ (n:=10) c [] (fun s hs=>by have:=(cR (p2 s hs)).2.1; omega)
  simp at this
  unfold cp; omega
 have htt:=pH m (cp c) hm (show _ ≤ _ by omega)
 rw [nB] at htt
 cases ht:c.all (bG m)
 ·rw [ht] at htt
  rw [if_pos rfl]
  (have zz:=aI @aD (aI @av (aI @aJ (aI @az @z0))); repeat' (first | refine zW ?_ | refine zM ?_ | apply a_n | apply a_r | refine zO ?_ | refine vY ?_ | refine cY ?_ (hp:=by first | exact hk | exact hcc | exact hp | exact htt) (hs:=by (first | refine aa ?_ rfl | apply ac); (repeat' (first | exact ab | apply ah | apply ae | exact bw _ | exact cT _ | exact am _)); first | done | fail) | refine alY ?_ | refine bxY ?_ | refine stY ?_ | refine cTY ?_ | refine cFY ?_ | refine ag rfl ?_ | refine r2Y ?_ | fail)) <;> (try clear zz)
  exact fS (.eslsl _) rfl
 ·rw [ht] at htt
  rw [if_neg (fun h=>by cases h)]
  have htl:∀ s ∈ c,bG m s=true:=List.all_eq_true.1 ht
  have hi:=sL m c hm q2 (by omega) (fun s hs=>⟨by have:=(cR (p2 s hs)).2.1; omega,htl s hs⟩)
  have hmx:=wG (c.map (b4 m)) (by rw [List.length_map]; omega) (fun t ht=>by
   obtain ⟨s,s1,rfl⟩:=List.mem_map.1 ht
   have:=kA (m:=m) (l:=s)
   have:=(cR (p2 s s1)).2.1
   show _ ≤ _; omega) (fun t ht=>by
   obtain ⟨s,s1,rfl⟩:=List.mem_map.1 ht
   exact rt (fun e=>by have:=(cR (p2 s s1)).1; rw [e] at this; simp at this))
  (have zz:=aI @aD (aI @av (aI @aJ (aI @az @z0))); repeat' (first | refine zW ?_ | refine zM ?_ | apply a_n | refine zO ?_ | refine vY ?_ | refine cY ?_ (hp:=by first | exact hk | exact hcc | exact hp | exact htt | exact hi | exact hmx) (hs:=by (first | refine aa ?_ rfl | apply ac); (repeat' (first | exact ab | apply ah | apply ae | exact bw _ | exact cT _ | exact am _ | exact bi _)); first | done | fail) | refine alY ?_ | refine bxY ?_ | refine stY ?_ | refine cFY ?_ | refine ag rfl ?_ | refine r2Y ?_ | fail)) <;> (try clear zz)
  exact fS (bi _).snap rfl
end Go.Proofs.YtbgdcebmgjafjaaGreat
namespace Go.Proofs.YtbgdcebmgjafjaaGreat
open Go Go.Abs
open Nat (reduceEqDiff reduceAdd reduceLeDiff)
theorem sc {L:List Spx} {h:Nat} {x:Spx} (hh:h < L.length):(L.set h x).take (h + 1)=L.take h ++ [x]:=by
 rw [bv (by simpa using hh),List.take_set_of_le (Nat.le_refl h)]
 simp [List.getD,hh]
theorem kM {B n len k:Nat} (h:k < len) (hn:n ≠ 0):ir 1 (.msl B n 1 0 len) (some (.int .i64 k)) none none=some (.msl B n 1 k (len - k)):=by
 simp only [ir,bh,Int.natCast_nonneg,if_true,Int.toNat_natCast]
 rw [if_pos ⟨trivial,by omega,Nat.le_refl _,hn⟩,if_pos (.inr h),Nat.zero_add,Nat.mul_one]
theorem qu {B n len k:Nat} (h:k ≤ len) (hn:n ≠ 0):ir 1 (.msl B n 1 0 len) none (some (.int .i64 k)) none=some (.msl B n 1 0 k):=by
 simp only [ir,bh,Int.natCast_nonneg,if_true,Int.toNat_natCast]
 rw [if_pos ⟨trivial,by omega,h,hn⟩,if_pos (.inl trivial),Nat.zero_mul,Nat.sub_zero]
attribute [local irreducible] aE aj bd bb aM aV aB aX bf br Go.Abs.Fn ba Go.Abs.Pure ax aL Yl
theorem o0 (l:List Spx) (hl:Shn l) (hls:∀ s ∈ l,Shn s) (h0:l ≠ []) (H:Hp) (B nx:Nat) (hH:H B=some (l.map au)) (hB:B < nx) :
    Abs.Fn Tryz.prog 126 [.msl B l.length 1 0 l.length,.func 40 []] H nx fun r H' nx'=>r=.msl B l.length 1 0 (bj l l.length)∧(∃ C,H'=ak H B C∧C.length=l.length∧C.take (bj l l.length)=(cr l l.length).map au)∧nx'=nx:=by
 refine Abs.Fn.of_c2 follows vU (Nat.le_of_ble_eq_true rfl) ?_
 simp only [wJ,cO,cG,cN,cM,cD,cF,cB,ar,aH]
 have hl':l.length ≤ 17592186044416:=hl
 have hpos:=List.length_pos_iff.2 h0
 have hid:H=ak H B (l.map au):=c6 hH
 (have zz:=and_self; repeat' (first | refine zW ?_ | apply a_n | apply a_r | refine zO ?_ | refine vZ ?_ | (refine zGZ ?_ ?_ <;> (intro _hg; try (exfalso; omega))) | refine ag rfl ?_ | refine r1Z ?_ | fail)) <;> (try clear zz)
 ·have e1:l.length=1:=by omega
  have e2:cr l l.length=l:=by
   match l,e1 with
   | [a],_=>rfl
  refine ⟨?_,⟨_,hid,by simp,?_⟩,rfl⟩
  ·rw [show bj l l.length=l.length by rw [e1]; rfl]
  ·rw [e2,show bj l l.length=l.length by rw [e1]; rfl,List.take_of_length_le (by simp)]
 refine aO (X:=Nat) (fun k=>[(0,.msl B l.length 1 0 l.length),(1,.func 40 []),(5,.int .i64 k)]) (fun k H' nx'=>H'=H∧nx'=nx∧1 ≤ k∧k ≤ l.length∧bj l k=k∧cr l k=l.take k) (fun k=>l.length - k) 1 ⟨rfl,rfl,Nat.le_refl _,hpos,rfl,by match l,h0 with | a :: r,_=>rfl⟩ ag0 ?_
 rintro k H' nx' ⟨rfl,rfl,k1,k2,k3,k4⟩
 by_cases hk:k < l.length
 ·have tk:(k:Int) - 1=(k - 1:Nat):=by omega
  have heq:=pg (l.getD k default) (l.getD (k - 1) default) (hls _ (aQ hk)) (hls _ (aQ (by omega)))
  by_cases he:l.getD k default=l.getD (k - 1) default
  ·have hs:=kM (B:=B) (n:=l.length) hk (Nat.ne_of_gt hpos)
   rw [decide_eq_true he] at heq
   (have zz:=aI @tk (aI @hH (aI @Int.toNat_natCast (aI @hs (aI @aD @av)))); repeat' (first | refine zW ?_ | refine zM ?_ | apply a_n | refine zO ?_ | refine vZ ?_ | refine cZ ?_ (hp:=heq) (hs:=by (first | refine aa ?_ rfl | apply ac); (repeat' (first | exact ab | apply ah | apply ae | exact am _)); first | done | fail) | refine cTZ ?_ | (refine zGZ ?_ ?_ <;> (intro _hg; try (exfalso; omega))) | fail)) <;> (try clear zz)
   refine aO (X:=Nat × List Spx) (fun x=>[(0,.msl B l.length 1 0 l.length),(1,.func 40 []),(5,.int .i64 (bj l (k + x.1):Nat)),(6,.msl B l.length 1 k (l.length - k)),(7,.int .i64 x.1)]) (fun x H2 nx2=>x.2.length=l.length∧1 ≤ x.1∧k + x.1 ≤ l.length∧bj l (k + x.1) + 1 ≤ k + x.1∧H2=ak H' B (x.2.map au)∧nx2=nx'∧(∀ p,k + x.1 ≤ p + 1→x.2.getD p default=l.getD p default)∧x.2.take (bj l (k + x.1))=cr l (k + x.1)) (fun x=>l.length - x.1) (1,l)
    ⟨rfl,Nat.le_refl _,hk,by dsimp only; rw [cK (by omega) he]; omega,hid,rfl,fun _ _=>rfl,by dsimp only; rw [cK (by omega) he,fN (by omega) he,k3,k4]⟩ (by simp (disch:=omega) only [agr,ZG,reduceEqDiff,↓reduceIte,cK (show k ≠ 0 by omega) he,k3]) ?_
   rintro ⟨j,L⟩ H2 nx2 ⟨a1,a2,a3,a4,rfl,rfl,a5,a6⟩
   dsimp only at a1 a2 a3 a4 a5 a6 ⊢
   by_cases hj:k + j < l.length
   ·have tj:(j:Int) - 1=(j - 1:Nat):=by omega
    have r1:=a5 (k + j) (by omega)
    have r2:=a5 (k + (j - 1)) (by omega)
    have heq2:=pg (l.getD (k + j) default) (l.getD (k + (j - 1)) default) (hls _ (aQ hj)) (hls _ (aQ (by omega)))
    by_cases hd:l.getD (k + j) default=l.getD (k + (j - 1)) default
    ·have hq:bj l (k + (j + 1))=bj l (k + j):=cK (l:=l) (k:=k + j) (by omega) (by rw [hd,show k + j - 1=k + (j - 1) by omega])
     rw [decide_eq_true hd] at heq2
     (have zz:=aI @tj (aI @Int.toNat_natCast (aI @r1 (aI @r2 (aI @aD @av)))); repeat' (first | refine zW ?_ | refine zM ?_ | apply a_n | refine zO ?_ | refine vZ ?_ | refine cZ ?_ (hp:=heq2) (hs:=by (first | refine aa ?_ rfl | apply ac); (repeat' (first | exact ab | apply ah | apply ae | exact am _)); first | done | fail) | refine cFZ ?_ | (refine zGZ ?_ ?_ <;> (intro _hg; try (exfalso; omega))) | fail)) <;> (try clear zz)
     refine ⟨(j + 1,L),by dsimp only; omega,⟨a1,by dsimp only; omega,by dsimp only; omega,?_,rfl,rfl,fun p hp=>a5 p (by dsimp only at hp; omega),by dsimp only; rw [hq,show k + (j + 1)=k + j + 1 from rfl,fN (by omega) (by rw [hd,show k + j - 1=k + (j - 1) by omega])]; exact a6⟩,(have zz:=@hq; agZ)⟩
     dsimp only
     rw [hq]
     omega
    ·have hq:bj l (k + (j + 1))=bj l (k + j) + 1:=fI (l:=l) (k:=k + j) (by rw [show k + j - 1=k + (j - 1) by omega]; exact hd)
     have hlm:=fc (f:=au) (l:=L) (k:=bj l (k + j)) (x:=l.getD (k + j) default) (by omega)
     rw [decide_eq_false hd] at heq2
     (have zz:=aI @tj (aI @Int.toNat_natCast (aI @r1 (aI @r2 (aI @aD @av)))); repeat' (first | refine zW ?_ | refine zM ?_ | apply a_n | refine zO ?_ | refine vZ ?_ | refine cZ ?_ (hp:=heq2) (hs:=by (first | refine aa ?_ rfl | apply ac); (repeat' (first | exact ab | apply ah | apply ae | exact am _)); first | done | fail) | refine stZ ?_ | refine cTZ ?_ | (refine zGZ ?_ ?_ <;> (intro _hg; try (exfalso; omega))) | fail)) <;> (try clear zz)
     refine ⟨(j + 1,L.set (bj l (k + j)) (l.getD (k + j) default)),by dsimp only; omega,⟨by simp [a1],by dsimp only; omega,by dsimp only; omega,?_,?_,rfl,fun p hp=>?_,by dsimp only; rw [hq,sc (by omega),a6,show k + (j + 1)=k + j + 1 from rfl,fX (by rw [show k + j - 1=k + (j - 1) by omega]; exact hd)]⟩,(have zz:=@hq; agZ)⟩
     ·dsimp only
      rw [hq]
      omega
     ·dsimp only
      rw [al,hlm]
     ·dsimp only at hp ⊢
      rw [List.getD_eq_getElem?_getD,List.getElem?_set_ne (by omega),← List.getD_eq_getElem?_getD]
      exact a5 p (by omega)
   ·have hn:k + j=l.length:=by omega
    have hl1:=kM (B:=B) (n:=l.length) (show bj l (k + j) < l.length by omega) (Nat.ne_of_gt hpos)
    have hl2:=qu (B:=B) (n:=l.length) (show bj l (k + j) ≤ l.length by omega) (Nat.ne_of_gt hpos)
    (have zz:=aI @hl1 @hl2; repeat' (first | refine zW ?_ | apply a_n | apply a_x | refine zO ?_ | refine vZ ?_ | (refine zGZ ?_ ?_ <;> (intro _hg; try (exfalso; omega))) | fail)) <;> (try clear zz)
    refine wc (H':=ak (ak H' B (L.map au)) B (bg (L.map au) (bj l (k + j)) (a7 .esl (l.length - bj l (k + j))))) ?_ ?_
    ·((try simp only [bW,ZA,reduceEqDiff,↓reduceIte,reduceAdd,reduceLeDiff]); (try with_reducible rfl))
     simp only [eL]
     rw [if_neg (by omega),ao]
     dsimp only
     rw [if_pos ⟨by simp [a1],trivial,rfl,rfl,by omega⟩]
     rfl
    ·(have zz:=@hl2; repeat' (first | refine zW ?_ | apply a_n | apply a_r | refine zO ?_ | refine vZ ?_ | refine ag rfl ?_ | refine r1Z ?_ | fail)) <;> (try clear zz)
     refine ⟨by rw [hn],⟨_,al _ _ _ _,?_,?_⟩,rfl⟩
     ·have hz:(a7 AV.esl (l.length - bj l (k + j))).length=l.length - bj l (k + j):=by simp [a7,show AV.esl.cells.length=1 from rfl]
      simp [bg,hz]
      omega
     ·rw [← hn,← a6,List.map_take]
      simp only [bg]
      rw [List.append_assoc,List.take_append_of_le_length (by simp; omega),List.take_of_length_le (by simp; omega)]
  ·rw [decide_eq_false he] at heq
   (have zz:=aI @tk (aI @hH (aI @Int.toNat_natCast (aI @aD @av))); repeat' (first | refine zW ?_ | refine zM ?_ | apply a_n | refine zO ?_ | refine vZ ?_ | refine cZ ?_ (hp:=heq) (hs:=by (first | refine aa ?_ rfl | apply ac); (repeat' (first | exact ab | apply ah | apply ae | exact am _)); first | done | fail) | refine cFZ ?_ | (refine zGZ ?_ ?_ <;> (intro _hg; try (exfalso; omega))) | fail)) <;> (try clear zz)
   exact ⟨k + 1,by omega,⟨rfl,rfl,by omega,by omega,by rw [fI he,k3],by rw [fX he,k4,bv hk]⟩,ag0⟩
 ·(have zz:=and_self; repeat' (first | refine zW ?_ | apply a_n | apply a_x | refine zO ?_ | refine vZ ?_ | (refine zGZ ?_ ?_ <;> (intro _hg; try (exfalso; omega))) | refine ag rfl ?_ | refine r1Z ?_ | fail)) <;> (try clear zz)
  have e:l.length=k:=by omega
  refine ⟨by rw [e,k3],⟨_,hid,by simp,?_⟩,rfl⟩
  rw [e,k3,k4,← List.map_take]
end Go.Proofs.YtbgdcebmgjafjaaGreat
namespace Go.Proofs.YtbgdcebmgjafjaaGreat
open Go Go.Abs
open Nat (reduceEqDiff reduceAdd reduceLeDiff)
theorem rF {H:Hp} {sz:Nat} {s:AV} {elems:List AV} (h:Row H sz s (elems.flatMap AV.cells)) (hc:∀ y ∈ elems,y.cells.length=sz) (hz:0 < sz) (hd:∀ y ∈ elems,∀ c ∈ y.cells,SnapF H c c):SnapF H s (.sl sz elems):=by
 obtain ⟨f1,f2⟩:=bU elems hc
 generalize he:elems.flatMap AV.cells=cs at h
 cases h with
 | nil =>
  have:elems.length * sz=0:=by rw [← f1,he]; rfl
  have:elems=[]:=List.length_eq_zero_iff.1 (by
   rcases Nat.mul_eq_zero.1 this with h | h
   ·exact h
   ·omega)
  subst this; exact .eslsl sz
 | box b len cs hb hl =>
  have hlen:elems.length=len:=Nat.eq_of_mul_eq_mul_right hz (by rw [← f1,he,hl])
  refine .msl b (len * sz) sz 0 len cs elems hb hl (by omega) hlen hc (fun i j y a c hy hc' ha=>?_)
  have hj:j < sz:=by rw [← hc y (List.mem_of_getElem? hy)]; exact (List.getElem?_eq_some_iff.1 hc').1
  have key:∀ (l:List AV) (i j:Nat) (y c:AV),(∀ z ∈ l,z.cells.length=sz)→l[i]?=some y→y.cells[j]?=some c→j < sz→(l.flatMap AV.cells)[i * sz + j]?=some c:=by
   intro l
   induction l with
   | nil=>intro i j y c _ h; simp at h
   | cons x l ih =>
    intro i j y c hl hy hc hj
    rw [List.flatMap_cons]
    cases i with
    | zero =>
     simp at hy; subst hy
     rw [Nat.zero_mul,Nat.zero_add,List.getElem?_append_left (by rw [hl x (by simp)]; exact hj)]; exact hc
    | succ i =>
     rw [List.getElem?_append_right (by rw [hl x (by simp),Nat.add_mul]; omega),hl x (by simp)]
     have:=ih i j y c (fun z hz=>hl z (by simp [hz])) (by simpa using hy) hc hj
     rw [← this]; congr 1; rw [Nat.add_mul]; omega
  have:=key elems i j y c hc hy hc' hj
  rw [he,← Nat.zero_add (i * sz)] at this
  rw [this] at ha; cases ha
  exact hd y (List.mem_of_getElem? hy) a (List.mem_of_getElem? hc')
theorem qR {H:Hp} {s:AV} {l:Spx} (h:Row H 2 s (cX l)):SnapF H s (au l):=by
 refine rF (elems:=l.map bl) (by rw [qJ]; exact h) (fun y hy=>?_) (by omega) (fun y hy c hx=>?_)
 ·obtain ⟨n,_,rfl⟩:=List.mem_map.1 hy; rfl
 ·obtain ⟨n,_,rfl⟩:=List.mem_map.1 hy
  simp only [bl,AV.cells,List.mem_cons,List.not_mem_nil,or_false] at hx
  rcases hx with rfl | rfl <;> exact .int _ _
attribute [local irreducible] aE aj bd bb aM aV aB aX bf br Go.Abs.Fn ba Go.Abs.Pure ax aL Yl
theorem sw (l:Spx) (hl:l.length ≤ 1000000):eZ Tryz.prog 31 [au l] (au l):=by
 refine eZ.of_c2 follows zd (Nat.le_of_ble_eq_true rfl) ?_
 simp only [b31,cO,cG,cN,cM,cD,cF,cB,ar,aH]
 (have zz:=and_self; repeat' (first | refine zW ?_ | apply a_n | refine zO ?_ | refine vY ?_ | fail)) <;> (try clear zz)
 have hn:eP (au l)=some l.length:=by unfold au gS; simp [eP]
 refine sY (k:=l.length) (by ((try simp only [bW,ZA,reduceEqDiff,↓reduceIte,reduceAdd,reduceLeDiff]); (try with_reducible rfl)); exact hn) (fun h=>?_) (fun h=>?_) (fun h=>?_)
 ·(have zz:=and_self; repeat' (first | refine zW ?_ | apply a_n | refine zO ?_ | refine vY ?_ | refine b0Y ?_ | refine cFY ?_ | fail)) <;> (try clear zz)
  refine lH rfl ev0 ev0 tA (nr _) (by omega) (by omega) ?_
  (have zz:=and_self; repeat' (first | apply a_n | refine zO ?_ | refine vY ?_ | refine ag rfl ?_ | refine r1Y ?_ | fail)) <;> (try clear zz)
  exact qR (Row.box _ l.length (cX l) ao (d7 l))
 ·(have zz:=and_self; repeat' (first | refine zW ?_ | apply a_n | apply a_r | refine zO ?_ | refine vY ?_ | refine cTY ?_ | refine ag rfl ?_ | refine r1Y ?_ | fail)) <;> (try clear zz)
  obtain rfl:=List.length_eq_zero_iff.1 h
  exact .eslsl 2
 ·(have zz:=and_self; repeat' (first | refine zW ?_ | apply a_n | refine zO ?_ | refine vY ?_ | refine b0Y ?_ | refine cFY ?_ | fail)) <;> (try clear zz)
  refine lH rfl ev0 ev0 tA (nr _) (by omega) (by omega) ?_
  (have zz:=and_self; repeat' (first | apply a_n | refine zO ?_ | refine vY ?_ | refine ag rfl ?_ | refine r1Y ?_ | fail)) <;> (try clear zz)
  exact qR (Row.box _ l.length (cX l) ao (d7 l))
theorem r4 (s:AV) (l:List Spx) (hl:l.length ≤ 1000000) (H:Hp) (nx:Nat) (hn:eP s=some l.length) (hs:∀ H',(∀ x,x < nx→H' x=H x)→cV 1 H' s=some (l.length,l.map au)):Abs.Fn Tryz.prog 125 [s] H nx fun r H' nx'=>nx' ≤ nx + 1∧nx ≤ nx'∧(∀ x,x < nx→H' x=H x)∧if l=[] then cb r=some (.int .i64 0)∧∀ H'',Snap H'' r (aG []) else r=.msl nx l.length 1 0 l.length∧H'=ak H nx (l.map au)∧nx'=nx + 1:=by
 refine Abs.Fn.of_c2 follows xN (Nat.le_of_ble_eq_true rfl) ?_
 simp only [yn,cO,cG,cN,cM,cD,cF,cB,ar,aH]
 have hones:AV.ones (l.map au)=true:=by
  unfold AV.ones
  rw [List.all_eq_true]
  intro x hx
  obtain ⟨y,_,rfl⟩:=List.mem_map.1 hx
  rfl
 (have zz:=and_self; repeat' (first | refine zW ?_ | apply a_n | refine zO ?_ | refine vY ?_ | fail)) <;> (try clear zz)
 refine sY (k:=l.length) (by ((try simp only [bW,ZA,reduceEqDiff,↓reduceIte,reduceAdd,reduceLeDiff]); (try with_reducible rfl)); exact hn) (fun h=>?_) (fun h=>?_) (fun h=>?_)
 ·(have zz:=and_self; repeat' (first | refine zW ?_ | apply a_n | refine zO ?_ | refine vY ?_ | refine b0Y ?_ | refine cFY ?_ | fail)) <;> (try clear zz)
  refine lH rfl ev0 ev0 (hs _ fun x _=>rfl) hones (by omega) (by omega) ?_
  (have zz:=and_self; repeat' (first | apply a_n | refine zO ?_ | refine vY ?_ | refine ag rfl ?_ | refine r1Y ?_ | fail)) <;> (try clear zz)
  refine ⟨Nat.le_refl _,by omega,fun x hx=>ap (by omega),?_⟩
  rw [if_neg (by rintro rfl; exact absurd h (by simp))]
  exact ⟨rfl,rfl,rfl⟩
 ·(have zz:=and_self; repeat' (first | refine zW ?_ | apply a_n | apply a_r | refine zO ?_ | refine vY ?_ | refine cTY ?_ | refine ag rfl ?_ | refine r1Y ?_ | fail)) <;> (try clear zz)
  refine ⟨by omega,Nat.le_refl _,fun x hx=>rfl,?_⟩
  rw [if_pos (List.length_eq_zero_iff.1 h)]
  exact ⟨rfl,fun _=>.eslsl 1⟩
 ·(have zz:=and_self; repeat' (first | refine zW ?_ | apply a_n | refine zO ?_ | refine vY ?_ | refine b0Y ?_ | refine cFY ?_ | fail)) <;> (try clear zz)
  refine lH rfl ev0 ev0 (hs _ fun x _=>rfl) hones (by omega) (by omega) ?_
  (have zz:=and_self; repeat' (first | apply a_n | refine zO ?_ | refine vY ?_ | refine ag rfl ?_ | refine r1Y ?_ | fail)) <;> (try clear zz)
  refine ⟨Nat.le_refl _,by omega,fun x hx=>ap (by omega),?_⟩
  obtain rfl:=List.length_eq_zero_iff.1 h
  rw [if_pos rfl]
  exact ⟨rfl,fun _=>.mslnil _ _ _ _ _⟩
section
variable {g:Nat} {caps:List AV} {s:AV}
theorem xi (hs:cb s=some (.int .i64 0)) {H:Hp} {nx:Nat}:Abs.Fn Tryz.prog 142 [s,.int .i64 0,.int .i64 0,.func g caps] H nx fun r H' nx'=>nx'=nx∧H'=H:=by
 refine Abs.Fn.of_c2 follows sU (Nat.le_of_ble_eq_true rfl) ?_
 simp only [u2,cO,cG,cN,cM,cD,cF,cB,ar,aH]
 (have zz:=and_self; repeat' (first | refine zW ?_ | apply a_n | refine zO ?_ | refine vZ ?_ | fail)) <;> (try clear zz)
 refine aO (X:=Unit) (fun x=>[(0,s),(1,.int .i64 0),(2,.int .i64 0),(3,.func g caps),(8,.int .i64 1)]) (fun x H' nx'=>H'=H∧nx'=nx) (fun x=>0) () ⟨rfl,rfl⟩ (by simp (disch:=omega) only [agr,ZG,reduceEqDiff,↓reduceIte,Int.zero_add,true_and]) ?_
 rintro _ _ _ ⟨rfl,rfl⟩
 (have zz:=and_self; repeat' (first | refine zW ?_ | apply a_n | apply a_x | refine zO ?_ | refine vZ ?_ | (refine zGZ ?_ ?_ <;> (intro _hg; try (exfalso; omega))) | refine ag rfl ?_ | fail)) <;> (try clear zz)
 exact ⟨rfl,rfl⟩
theorem wW (hs:cb s=some (.int .i64 0)) {H:Hp} {nx:Nat}:Abs.Fn Tryz.prog 129 [s,.int .i64 0,.int .i64 0,.int .i64 0,.func g caps] H nx fun r H' nx'=>nx'=nx∧H'=H:=by
 refine Abs.Fn.of_c2 follows sQ (Nat.le_of_ble_eq_true rfl) ?_
 simp only [vo,cO,cG,cN,cM,cD,cF,cB,ar,aH]
 (have zz:=and_self; repeat' (first | refine zW ?_ | apply a_n | refine zO ?_ | refine vZ ?_ | fail)) <;> (try clear zz)
 refine aO (X:=Unit) (fun x=>[(0,s),(1,.int .i64 0),(2,.int .i64 0),(3,.int .i64 0),(4,.func g caps)]) (fun x H' nx'=>H'=H∧nx'=nx) (fun x=>0) () ⟨rfl,rfl⟩ ag0 ?_
 rintro _ _ _ ⟨rfl,rfl⟩
 (have zz:=and_self; repeat' (first | refine zW ?_ | apply a_n | refine zO ?_ | refine vZ ?_ | (refine zGZ ?_ ?_ <;> (intro _hg; try (exfalso; omega))) | fail)) <;> (try clear zz)
 refine ay ev0 ev0 (xi hs) ?_
 rintro _ _ _ ⟨rfl,rfl⟩
 (have zz:=and_self; repeat' (first | apply a_n | apply a_r | refine zO ?_ | refine ag rfl ?_ | fail)) <;> (try clear zz)
 exact ⟨rfl,rfl⟩
theorem uf (hs:cb s=some (.int .i64 0)) {H:Hp} {nx:Nat}:Abs.Fn Tryz.prog 109 [s,.func g caps] H nx fun r H' nx'=>nx'=nx∧H'=H:=by
 refine Abs.Fn.of_c2 follows th (Nat.le_of_ble_eq_true rfl) ?_
 simp only [vu,cO,cG,cN,cM,cD,cF,cB,ar,aH]
 have w8:IntKind.wrap .u64 0=0:=by decide
 (have zz:=aI @w8 @hs; repeat' (first | refine zW ?_ | apply a_n | refine zO ?_ | refine vZ ?_ | fail)) <;> (try clear zz)
 refine ay ev0 (have zz:=@w8; evZ) xp ?_
 rintro _ _ _ ⟨rfl,rfl,rfl⟩
 (have zz:=and_self; repeat' (first | apply a_n | refine zO ?_ | refine vZ ?_ | fail)) <;> (try clear zz)
 refine ay ev0 ev0 (wW hs) ?_
 rintro _ _ _ ⟨rfl,rfl⟩
 (have zz:=and_self; repeat' (first | apply a_n | refine zO ?_ | refine ag rfl ?_ | fail)) <;> (try clear zz)
 exact ⟨rfl,rfl⟩
theorem qp (hs:cb s=some (.int .i64 0)) {H:Hp} {nx:Nat}:Abs.Fn Tryz.prog 126 [s,.func g caps] H nx fun r H' nx'=>r=s∧nx'=nx∧H'=H:=by
 refine Abs.Fn.of_c2 follows vU (Nat.le_of_ble_eq_true rfl) ?_
 simp only [wJ,cO,cG,cN,cM,cD,cF,cB,ar,aH]
 (have zz:=@hs; repeat' (first | refine zW ?_ | apply a_n | apply a_r | refine zO ?_ | refine vZ ?_ | (refine zGZ ?_ ?_ <;> (intro _hg; try (exfalso; omega))) | refine ag rfl ?_ | refine r1Z ?_ | fail)) <;> (try clear zz)
 exact ⟨rfl,rfl,rfl⟩
end
end Go.Proofs.YtbgdcebmgjafjaaGreat
namespace Go.Proofs.YtbgdcebmgjafjaaGreat
open Go Go.Abs
theorem rP {D:List Spx} {k:Nat} {v:Vtx} (hk:k < D.length) (hv:v ∈ D.getD k default):f4 D D.length v ≠ []:=fun e=>by
 have:k ∈ f4 D D.length v:=List.mem_filter.2 ⟨List.mem_range.2 hk,decide_eq_true hv⟩
 rw [e] at this; cases this
theorem nQ {l:List Spx} {p:Spx→Bool} {k:Nat} (hk:k < l.length):(l.take (k + 1)).filter p=(l.take k).filter p ++ if p (l.getD k default)=true then [l.getD k default] else []:=by
 rw [bv hk,List.filter_append]
 cases h:p (l.getD k default)
 ·rw [List.filter_cons_of_neg (by rw [h]; decide),List.filter_nil,if_neg (by decide)]
 ·rw [List.filter_cons_of_pos h,List.filter_nil,if_pos rfl]
attribute [local irreducible] aE aj bd bb aM aV aB aX bf br Go.Abs.Fn ba Go.Abs.Pure ax aL Yl
theorem zr:Cmp Tryz.prog au a8 (fun s=>Shn s) 59 [] where
 cells _:=rfl
 one _:=rfl
 dat x:=am x
 dcaps x hx:=by cases hx
 run x y hx hy:=jk x y hx hy
 ord:=n5.ord
theorem oS (l:List Spx) (hl:l.length ≤ 100000) (hs:∀ s ∈ l,cf aR s∧s.length ≤ 1000∧s ≠ []):Pure Tryz.prog 100 [aG l] (dj (kr l)):=by
 refine Pure.of_c2 follows yh (Nat.le_of_ble_eq_true rfl) ?_
 simp only [yi,cO,cG,cN,cM,cD,cF,cB,ar,aH]
 have hn:eP (aG l)=some l.length:=by unfold aG gS; simp [eP]
 (have zz:=@ai; repeat' (first | refine zW ?_ | apply a_n | refine zO ?_ | refine vY ?_ | refine alY ?_ | fail)) <;> (try clear zz)
 refine ay ev0 ev0 (r4 _ l (by omega) _ _ hn (fun H' _=>wD)) ?_
 rintro r H1 nx1 ⟨c1,c2,c3,c4⟩
 have hD:∀ s ∈ db a8 l,cf aR s∧s.length ≤ 1000∧s ≠ []:=fun s h=>hs s (dG.1 h)
 have hDl:(db a8 l).length ≤ 100000:=Nat.le_trans go hl
 have g0:H1 0=some [.esl]:=(c3 0 (by omega)).trans ao
 have hsort:Abs.Fn Tryz.prog 109 [r,.func 59 []] H1 nx1 fun _ H' nx'=>nx1 ≤ nx'∧H' 0=some [.esl]∧((l=[]∧cb r=some (.int .i64 0)∧∀ H'',Snap H'' r (aG [])) ∨ (l ≠ []∧r=.msl 1 l.length 1 0 l.length∧2 ≤ nx'∧∃ L':List Spx,H' 1=some (L'.map au)∧L'.Perm l∧aF a8 0 l.length L')):=by
  by_cases h0:l=[]
  ·rw [if_pos h0] at c4
   refine Abs.Fn.mono (uf c4.1) ?_
   rintro _ _ _ ⟨rfl,rfl⟩
   exact ⟨Nat.le_refl _,g0,.inl ⟨h0,c4⟩⟩
  ·rw [if_neg h0] at c4
   obtain ⟨rfl,rfl,rfl⟩:=c4
   have hpos:=List.length_pos_iff.2 h0
   refine Abs.Fn.mono (va zr (L:=l) (b:=0 + 1) (n:=l.length) ao (by omega) rfl hpos (fun s h=>show s.length ≤ _ by have:=(hs s h).2.1; omega) (by omega)) ?_
   rintro _ H' nx' ⟨L',ps,p1,p2⟩
   exact ⟨ps.le,by rw [ps.fr 0 (by omega) (by omega)]; exact g0,.inr ⟨h0,rfl,ps.le,L',ps.at_,p1,p2⟩⟩
 have hnx1:1 ≤ nx1:=c2
 clear c4
 (have zz:=and_self; repeat' (first | refine zW ?_ | apply a_n | refine zO ?_ | refine vY ?_ | fail)) <;> (try clear zz)
 refine ay ev0 ev0 hsort ?_
 rintro _ H2 nx2 ⟨d1,g2,d3⟩
 have hcmp:Abs.Fn Tryz.prog 126 [r,.func 40 []] H2 nx2 fun r' H' nx'=>nx2 ≤ nx'∧∃ Hf H3,Fz Hf H' H3∧Snap Hf r' (aG (db a8 l))∧H3 0=some [.esl]:=by
  rcases d3 with ⟨h0,e1,e2⟩ | ⟨h0,rfl,e0,L',e1,e2,e3⟩
  ·refine Abs.Fn.mono (qp e1) ?_
   rintro _ _ _ ⟨rfl,rfl,rfl⟩
   refine ⟨Nat.le_refl _,a9,_,Fz.none,?_,g2⟩
   rw [h0]; exact e2 _
  ·have hlen:=e2.length_eq
   have hL0:L' ≠ []:=fun e=>by rw [e] at hlen; simp at hlen; exact h0 (List.length_eq_zero_iff.1 hlen.symm)
   rw [← hlen]
   refine Abs.Fn.mono (o0 L' (show _ ≤ _ by omega) (fun s h=>show s.length ≤ _ by have:=(hs s (e2.mem_iff.1 h)).2.1; omega) hL0 H2 1 nx2 e1 (by omega)) ?_
   rintro _ _ _ ⟨rfl,⟨C,rfl,f1,f2⟩,rfl⟩
   have hd:cr L' L'.length=db a8 l:=mZ n5 e2 (by rw [hlen]; exact e3)
   rw [hd] at f2
   have hle:=pk L' L'.length
   have hdl:=mR L' L'.length
   rw [hd] at hdl
   refine ⟨Nat.le_refl _,only 1 C,ca (ak H2 1 C) 1,Fz.one ao,?_,by rw [kG (by omega),ap (by omega)]; exact g2⟩
   refine oZ (l:=(db a8 l).map au) kF f1 (by omega) (by rw [List.length_map]; exact hdl) (fun y hy=>?_) (fun i a c ha hc=>?_)
   ·obtain ⟨z,_,rfl⟩:=List.mem_map.1 hy; rfl
   ·rw [← f2,List.getElem?_take] at hc
    split at hc
    ·rw [Nat.zero_add,hc] at ha; cases ha
     have hm:a ∈ (db a8 l).map au:=by
      rw [← f2]
      exact List.mem_of_getElem? (i:=i) (by rw [List.getElem?_take,if_pos (by assumption)]; exact hc)
     obtain ⟨z,_,rfl⟩:=List.mem_map.1 hm
     exact am _ _
    ·cases hc
 clear d3 hsort
 (have zz:=and_self; repeat' (first | refine zW ?_ | apply a_n | refine zO ?_ | refine vY ?_ | fail)) <;> (try clear zz)
 refine ay ev0 ev0 hcmp ?_
 rintro r2 H3 nx3 ⟨f1,Hf,H4,hfz,hsn,g4⟩
 have hmx:kr l=(db a8 l).filter fun s=>!aW (db a8 l) s:=rfl
 rw [hmx]
 have hasc:=gd n5 l
 generalize db a8 l=D at *
 (have zz:=and_self; repeat' (first | apply a_n | refine zO ?_ | refine vY ?_ | fail)) <;> (try clear zz)
 refine dJ ?_
 refine oa Hf H4 [(0,aG D),(2,.ptr 0 1 0)] hfz ⟨.inr hsn,.inl rfl,trivial⟩ ?_
 clear hfz hsn
 (have zz:=and_self; repeat' (first | apply a_n | refine zO ?_ | refine vY ?_ | fail)) <;> (try clear zz)
 refine ay ev0 ev0 (j8 D hDl (fun s h=>⟨(hD s h).1,by have:=(hD s h).2.1; omega⟩) _ _) ?_
 rintro _ H5 nx5 ⟨ks,vs,rfl,hinc,hsame,hlt⟩
 have g5:H5 0=some [.esl]:=(hsame 0 (by omega)).trans g4
 have hOk:OkS D:=⟨hDl,fun s h=>⟨(hD s h).1,(hD s h).2.1⟩⟩
 (have zz:=@ai; repeat' (first | refine zW ?_ | apply a_n | refine zO ?_ | refine vY ?_ | refine alY ?_ | fail)) <;> (try clear zz)
 refine aO (X:=Nat × AV) (fun x=>[(0,aG D),(2,.ptr 0 1 0),(3,.mp nx3),(4,.ptr nx5 1 0),(15,aG D),(16,.int .i64 D.length),(17,.int .i64 x.1)]) (fun x H' nx'=>x.1 ≤ D.length∧nx5 < nx'∧(∀ y,y < nx5→H' y=H5 y)∧H' nx5=some [x.2]∧Row H' 1 x.2 (((D.take x.1).filter fun s=>!aW D s).map au)∧∀ B,eM x.2=some B→nx5 < B∧B < nx') (fun x=>D.length - x.1) (0,.esl) ⟨Nat.zero_le _,by omega,fun y hy=>ap (by omega),ao,Row.nil,fun B h=>(by cases h)⟩ (by (iterate 7 refine And.intro rfl ?_); trivial) ?_
 rintro ⟨k,sv⟩ H' nx' ⟨h1,hnx',hsm,gb,hrow,hbd⟩
 dsimp only at h1 gb hrow hbd ⊢
 by_cases hk:k < D.length
 rotate_left
 ·rw [List.take_of_length_le (by omega)] at hrow
  obtain ⟨o1,o2⟩:=hrow.one
  have g6:H' 0=some [.esl]:=(hsm 0 (by omega)).trans g5
  (have zz:=aI @gb (aI @g6 (aI @o1 @o2)); repeat' (first | refine zW ?_ | apply a_n | apply a_x | refine zO ?_ | refine vY ?_ | refine stY ?_ | (refine zGY ?_ ?_ <;> (intro _hg; try (exfalso; omega))) | refine ag rfl ?_ | refine r1Y ?_ | fail)) <;> (try clear zz)
  exact pQ (aK (gG (hrow.same fun B hB=>ap (by have:=hbd B hB; omega))) ab)
 have ix:=ew hk
 have hDk:=hD _ (aQ hk)
 have hpos:0 < (D.getD k default).length:=List.length_pos_iff.2 hDk.2.2
 have hcv:=mL D (D.getD k default) hOk (hOk.2 _ (aQ hk)) hpos
 have iy:=ix2 (l:=D.getD k default) (k:=0) hpos
 rw [show ((0:Nat):Int)=0 from rfl] at iy
 have hks:(D.getD k default).getD 0 default ∈ ks:=(hinc.dom _).2 (rP hk (aQ hpos))
 have hmf:=kN ((D.getD k default).getD 0 default) ks
 rw [if_pos hks] at hmf
 obtain ⟨m1,m2⟩:=fO hks
 have hr:=hinc.row _ m1
 rw [m2] at hr
 have hr':=hr.same (H':=H') (fun B hB=>hsm B (hinc.bnd _ B m1 hB).2.1)
 have hbox:=(hsm nx3 hinc.lt).trans hinc.box
 have hft:=nQ (p:=fun s=>!aW D s) hk
 have hfl:(((D.take k).filter fun s=>!aW D s).map au).length ≤ 100000:=by
  rw [List.length_map]
  have:=List.length_filter_le (fun s=>!aW D s) (D.take k)
  rw [List.length_take] at this; omega
 generalize hsk:D.getD k default=s at *
 (have zz:=aI @ix @iy; repeat' (first | refine zW ?_ | apply a_n | refine zO ?_ | refine vY ?_ | (refine zGY ?_ ?_ <;> (intro _hg; try (exfalso; omega))) | fail)) <;> (try clear zz)
 refine nL ev0 hbox ev0 (lA _) hmf ?_
 rw [show mget .esl false (some (ks.idxOf (s.getD 0 default))) vs=vs.getD (ks.idxOf (s.getD 0 default)) .undef from rfl]
 (have zz:=and_self; repeat' (first | apply a_n | refine zO ?_ | refine vY ?_ | fail)) <;> (try clear zz)
 cases hb:aW D s
 ·rw [hb] at hcv hft
  rw [if_pos (by decide)] at hft
  refine dQ ev0 ev0 hcv (aa (aK (bi _ _) (aK (rg hr') (aK (am _ _) ab))) rfl) ?_
  (have zz:=and_self; repeat' (first | apply a_n | refine zO ?_ | refine vY ?_ | refine cTY ?_ | fail)) <;> (try clear zz)
  refine nM nx5 gb fun S0 hS hsub=>?_
  (have zz:=@hS; repeat' (first | apply a_n | refine zO ?_ | refine nvY ?_ | fail)) <;> (try clear zz)
  refine qf ?_
  refine vQ ev0 ev0 (sw s (by omega)) (aK (am _ _) ab) ?_
  refine tZ ⟨hsub _ gb,?_⟩
  refine qf ?_
  (have zz:=aI @aD @av; repeat' (first | apply a_n | refine zO ?_ | refine blY ?_ | fail)) <;> (try clear zz)
  refine ⟨hsub _ (by rw [ap (by omega)]; exact gb),?_⟩
  refine oz ?_
  refine dT rfl ev0 (hrow.same fun B hB=>?_) ev0 dC rfl rfl Nat.one_pos (by omega) (by omega) ?_
  ·have:=hbd B hB; rw [ap (by omega)]
  rintro s2 H2 nx2 hr2 i1 i2 i3 i4
  have gb2:H2 nx5=some [sv]:=(i3 nx5 (by omega) (fun h=>by have:=hbd _ h; omega)).trans (by rw [ap (by omega)]; exact gb)
  obtain ⟨o1,o2⟩:=hr2.one
  (have zz:=aI @gb2 (aI @o1 @o2); repeat' (first | apply a_n | refine zO ?_ | refine vY ?_ | refine nvY ?_ | apply oz | refine stY ?_ | fail)) <;> (try clear zz)
  refine ⟨(k + 1,s2),by dsimp only; omega,⟨by dsimp only; omega,by omega,fun y hy=>?_,by rw [ao]; rfl,?_,fun B hB=>?_⟩,ag0⟩
  ·rw [ap (by omega),i3 y (by omega) (fun h=>by have:=hbd _ h; omega),ap (by omega)]; exact hsm y hy
  ·dsimp only
   rw [hft,List.map_append]
   refine hr2.same fun B hB=>ap ?_
   rcases i4 B hB with h | h
   ·have:=hbd B h; omega
   ·omega
  ·rcases i4 B hB with h | h
   ·have:=hbd B h; omega
   ·omega
 ·rw [hb] at hcv hft
  rw [if_neg (by decide),List.append_nil] at hft
  refine dQ ev0 ev0 hcv (aa (aK (bi _ _) (aK (rg hr') (aK (am _ _) ab))) rfl) ?_
  (have zz:=and_self; repeat' (first | apply a_n | refine zO ?_ | refine vY ?_ | refine cFY ?_ | fail)) <;> (try clear zz)
  exact ⟨(k + 1,sv),by dsimp only; omega,⟨by dsimp only; omega,hnx',hsm,gb,by dsimp only; rw [hft]; exact hrow,hbd⟩,ag0⟩
end Go.Proofs.YtbgdcebmgjafjaaGreat
namespace Go.Proofs.YtbgdcebmgjafjaaGreat
open Go Go.Abs
theorem w6 {H:Hp} {s:AV} {l:List Spx} (h:Row H 1 s (l.map au)):∃ Hf H',Fz Hf H H'∧Snap Hf s (aG l)∧∀ x,eM s ≠ some x→H' x=H x:=by
 generalize hcs:l.map au=cs at h
 cases h with
 | nil=>exact ⟨a9,H,Fz.none,gG (by rw [hcs]; exact Row.nil),fun _ _=>rfl⟩
 | box b len cs g1 g2=>exact ⟨only b cs,ca H b,Fz.one g1,gG (by rw [hcs]; exact Row.box b len cs kF g2),fun x hx=>kG (fun e=>hx (by rw [e]; rfl))⟩
attribute [local irreducible] aE aj bd bb aM aV aB aX bf br Go.Abs.Fn ba Go.Abs.Pure ax aL Yl
theorem xZ (l:List Spx) (hl:l.length ≤ 4096) (hs:∀ s ∈ l,bz s=0):Pure Tryz.prog 66 [aG l] (.tup [dj (kr l),.int .i64 0]):=by
 refine Pure.of_c2 follows Al (Nat.le_of_ble_eq_true rfl) ?_
 simp only [b66,cO,cG,cN,cM,cD,cF,cB,ar,aH]
 have hc:=oS l (by omega) (fun s h=>by
  obtain ⟨p1,p2,p3,p4⟩:=cR (hs s h)
  exact ⟨p3,by omega,fun e=>by rw [e] at p1; simp at p1⟩)
 have z0:decide ((0:Int) ≠ 0)=false:=rfl
 have z1:decide ((4096:Int) < l.length)=false:=decide_eq_false (by omega)
 (have zz:=aI @ai @z1; repeat' (first | refine zW ?_ | apply a_n | refine zO ?_ | refine vY ?_ | refine alY ?_ | refine cFY ?_ | fail)) <;> (try clear zz)
 refine aO (X:=Nat) (fun k=>[(0,aG l),(2,.ptr 0 1 0),(11,aG l),(12,.int .i64 l.length),(13,.int .i64 k)]) (fun k H nx=>k ≤ l.length∧H 0=some [.esl]) (fun k=>l.length - k) 0 ⟨Nat.zero_le _,ao⟩ (by (iterate 5 refine And.intro rfl ?_); trivial) ?_
 rintro k H nx ⟨h1,g0⟩
 by_cases hk:k < l.length
 rotate_left
 ·(have zz:=aI @g0 (aI @aJ @az); repeat' (first | refine zW ?_ | apply a_n | apply a_x | refine zO ?_ | refine vY ?_ | refine cY ?_ (hp:=hc) (hs:=by (first | refine aa ?_ rfl | apply ac); (repeat' (first | exact ab | apply ah | apply ae | exact bi _)); first | done | fail) | refine stY ?_ | (refine zGY ?_ ?_ <;> (intro _hg; try (exfalso; omega))) | refine ag rfl ?_ | refine r2Y ?_ | fail)) <;> (try clear zz)
  exact fS (bi _).snap rfl
 have ix:=ew hk
 have hx:=i5 (l.getD k default) (by have:=(cR (hs _ (aQ hk))).2.1; show _ ≤ _; omega)
 rw [hs _ (aQ hk)] at hx
 (have zz:=aI @ix @z0; repeat' (first | refine zW ?_ | apply a_n | refine zO ?_ | refine vY ?_ | refine cY ?_ (hp:=hx) (hs:=by (first | refine aa ?_ rfl | apply ac); (repeat' (first | exact ab | apply ah | apply ae | exact am _)); first | done | fail) | refine cFY ?_ | (refine zGY ?_ ?_ <;> (intro _hg; try (exfalso; omega))) | fail)) <;> (try clear zz)
 exact ⟨k + 1,by omega,⟨by omega,g0⟩,ag0⟩
theorem vn (m:MapV) (c:List Spx) (hm:ShM m) (hc:Shn c) (hcs:∀ s ∈ c,Shn s):Pure Tryz.prog 25 [gQ m,dj c] (.tup [dj (d5 m c).1,.int .i64 (d5 m c).2]):=by
 refine Pure.of_c2 follows zX (Nat.le_of_ble_eq_true rfl) ?_
 simp only [b25,cO,cG,cN,cM,cD,cF,cB,ar,aH]
 have hcc:=uB c hc hcs
 unfold d5
 (have zz:=aI @aD (aI @av (aI @aJ @az)); repeat' (first | refine zW ?_ | apply a_n | refine zO ?_ | refine vY ?_ | refine alY ?_ | refine bxY ?_ | fail)) <;> (try clear zz)
 refine ay ev0 ev0 (tG m hm _ _) ?_
 rintro _ H1 nx1 ⟨hsm,hle,h⟩
 have g1:H1 1=some [aG c]:=(hsm 1 (by omega)).trans (by rw [ap (by omega),ao])
 have g2:H1 2=some [.esl]:=(hsm 2 (by omega)).trans ao
 rcases h with ⟨he,B,rfl,hB1,hB2,hB3⟩ | ⟨he,rfl⟩
 rotate_left
 ·rw [if_pos he]
  have z:decide (dh m ≠ 0)=true:=decide_eq_true he
  (have zz:=aI @g2 @z; repeat' (first | refine zW ?_ | apply a_n | apply a_r | refine zO ?_ | refine vY ?_ | refine stY ?_ | refine cTY ?_ | refine ag rfl ?_ | refine r2Y ?_ | fail)) <;> (try clear zz)
  exact fS (.eslsl _) rfl
 rw [if_neg (fun h=>h he)]
 obtain ⟨q1,q2,q3,q4,q5⟩:=jw he
 have z0:decide ((0:Int) ≠ 0)=false:=rfl
 by_cases hes:bC c=0
 rotate_left
 ·rw [if_pos hes]
  have z:decide (bC c ≠ 0)=true:=decide_eq_true hes
  (have zz:=aI @g1 (aI @g2 (aI @z0 (aI @z (aI @aJ @az)))); repeat' (first | refine zW ?_ | apply a_n | apply a_r | refine zO ?_ | refine vY ?_ | refine cY ?_ (hp:=hcc) (hs:=by (first | refine aa ?_ rfl | apply ac); (repeat' (first | exact ab | apply ah | apply ae | exact cT _)); first | done | fail) | refine stY ?_ | refine cTY ?_ | refine cFY ?_ | refine ag rfl ?_ | refine r2Y ?_ | fail)) <;> (try clear zz)
  exact fS (.eslsl _) rfl
 rw [if_neg (fun h=>h hes)]
 rw [hes] at hcc
 obtain ⟨a1,a2,a3,a4⟩:=kR hes
 (have zz:=aI @g1 (aI @g2 (aI @z0 (aI @aJ @az))); repeat' (first | refine zW ?_ | apply a_n | refine zO ?_ | refine vY ?_ | refine cY ?_ (hp:=hcc) (hs:=by (first | refine aa ?_ rfl | apply ac); (repeat' (first | exact ab | apply ah | apply ae | exact cT _)); first | done | fail) | refine cFY ?_ | fail)) <;> (try clear zz)
 refine ay ev0 ev0 (uG m c q2 (by omega) (fun s hs=>by obtain ⟨p1,p2,p3,p4⟩:=cR (a2 s hs); exact ⟨by omega,fun e=>by rw [e] at p1; simp at p1⟩) B H1 nx1 hB3 hB2) ?_
 rintro _ H3 nx3 ⟨hle3,hsm3,h⟩
 have g3:H3 2=some [.esl]:=(hsm3 2 (by omega)).trans g2
 rcases h with ⟨ht,rfl⟩ | ⟨ht,sv,rfl,hrow,hbd⟩
 ·rw [if_pos ht]
  (have zz:=@g3; repeat' (first | refine zW ?_ | apply a_n | apply a_r | refine zO ?_ | refine vY ?_ | refine stY ?_ | refine cTY ?_ | refine ag rfl ?_ | refine r2Y ?_ | fail)) <;> (try clear zz)
  exact fS (.eslsl _) rfl
 rw [if_neg (by rw [ht]; decide)]
 have htl:∀ s ∈ c,bG m s=true:=List.all_eq_true.1 ht
 have hof:=xZ (c.map (b4 m)) (by rw [List.length_map]; exact a1) (fun t ht=>by
  obtain ⟨s,s1,rfl⟩:=List.mem_map.1 ht
  exact rX he (a2 s s1) (htl s s1))
 obtain ⟨Hf,H4,hfz,hsn,hoth⟩:=w6 hrow
 have g4:H4 2=some [.esl]:=(hoth 2 (fun e=>by have:=hbd 2 e; omega)).trans g3
 (have zz:=and_self; repeat' (first | apply a_n | refine zO ?_ | refine vY ?_ | fail)) <;> (try clear zz)
 refine dJ (dJ ?_)
 refine oa Hf H4 [(4,.ptr 2 1 0),(9,aG (c.map (b4 m))),(10,.bool true)] hfz ⟨.inl rfl,.inr hsn,.inl rfl,trivial⟩ ?_
 (have zz:=aI @g4 (aI @aJ @az); repeat' (first | refine zW ?_ | apply a_n | refine zO ?_ | refine vY ?_ | refine cY ?_ (hp:=hof) (hs:=by (first | refine aa ?_ rfl | apply ac); (repeat' (first | exact ab | apply ah | apply ae | exact bi _)); first | done | fail) | refine stY ?_ | refine cFY ?_ | refine ag rfl ?_ | refine r2Y ?_ | fail)) <;> (try clear zz)
 exact fS (bi _).snap rfl
end Go.Proofs.YtbgdcebmgjafjaaGreat
namespace Go.Proofs.YtbgdcebmgjafjaaGreat
open Go Go.Abs
def x2:List (Nat × F2):=[(11,b11),(12,b12),(14,b14),(16,b16),(18,b18),(21,b21),(23,b23),(27,b27),(29,b29),(31,b31),(32,b32),(34,b34),(35,b35),(40,b40),(41,b41),(42,b42),(43,b43),(44,b44),(45,b45),(46,b46),(47,b47),(48,b48),(49,b49),(57,b57),(58,b58),(59,b59),(62,b62),(63,b63),(64,b64),(69,b69),(70,b70),(72,b72),(73,b73),(74,b74),(75,b75),(76,b76),(84,b84),(85,b85),(86,b86),(88,b88),(91,b91),(92,b92),(93,b93),(94,b94),(95,b95),(99,b99),(103,wR),(104,xj),(108,xH),(109,vu),(110,wE),(111,ww),(112,yc),(113,xW),(114,yF),(122,wM),(123,vR),(127,w9),(129,vo),(130,wQ),(132,xf),(141,vM),(142,u2)]
theorem xR:gm Tryz.prog (lookup x2) :=
 (an zQ (an Ae (an zS (an zP (an Aj (an zu (an yK (an xt (an xO (an zd (an zA (an xK (an zJ (an yb (an yM (an y5 (an zD (an zF (an zx (an zy (an Ak (an Aq (an Ac (an yS (an zI (an zf (an xG (an zN (an xu (an y4 (an zi (an z5 (an ya (an xy (an zC (an zU (an zL (an Am (an zK (an xQ (an yR (an yU (an Ad (an xS (an zb (an xU (an v5 (an v7 (an zq (an th (an v8 (an wu (an yj (an zm (an y6 (an wg (an tJ (an vW (an sQ (an wk (an wj (an tT (an sU r5)))))))))))))))))))))))))))))))))))))))))))))))))))))))))))))))
set_option maxRecDepth 100000 in
theorem kI:Go.Abs.Pure Tryz.prog 11 [] (.bool true):=Pure.of_run follows xR (pf:=we [23,14,12,18,16,27,21,40]) (n:=2000) (good:=isTrue) (by decide +kernel) rV
end Go.Proofs.YtbgdcebmgjafjaaGreat
namespace Go.Proofs.YtbgdcebmgjafjaaGreat
open Go Go.Abs
attribute [local irreducible] aE aj bd bb aM aV aB aX bf br Go.Abs.Fn ba Go.Abs.Pure ax aL Yl
end Go.Proofs.YtbgdcebmgjafjaaGreat
namespace Go.Proofs.YtbgdcebmgjafjaaGreat
open Go Go.Abs
theorem qI {m:MapV} {l:Spx} (hl:Shn l):Shn (eK m l).1:=by
 have hl':l.length ≤ 17592186044416:=hl
 have:=kA (m:=m) (l:=l)
 unfold eK
 show _ ≤ _
 split
 ·exact Nat.zero_le _
 split
 ·exact Nat.zero_le _
 split
 ·exact Nat.zero_le _
 ·show (b4 m l).length ≤ _
  omega
theorem qs {m:MapV} {c:List Spx} (hc:Shn c) (hs:∀ s ∈ c,Shn s):Shn (d5 m c).1∧∀ s ∈ (d5 m c).1,Shn s:=by
 have hc':c.length ≤ 17592186044416:=hc
 have h0:Shn ([]:List Spx)∧∀ s ∈ ([]:List Spx),Shn s:=⟨Nat.zero_le _,fun s h=>(by cases h)⟩
 unfold d5
 split
 ·exact h0
 split
 ·exact h0
 split
 ·exact h0
 ·refine ⟨?_,fun s h=>?_⟩
  ·have:=uT (l:=c.map (b4 m))
   rw [List.length_map] at this
   show (kr (c.map (b4 m))).length ≤ _
   omega
  ·obtain ⟨t,t1,rfl⟩:=List.mem_map.1 (tE h)
   have:=kA (m:=m) (l:=t)
   have h2:t.length ≤ 17592186044416:=hs t t1
   show _ ≤ _
   omega
attribute [local irreducible] aE aj bd bb aM aV aB aX bf br Go.Abs.Fn ba Go.Abs.Pure ax aL Yl
theorem sa (m:MapV) (l:Spx) (c:List Spx) (hm:ShM m) (hl:Shn l) (hc:Shn c∧∀ s ∈ c,Shn s):Pure Tryz.prog 5 [gQ m,au l,dj c] (.bool true):=by
 refine Pure.of_c2 follows is5 (Nat.le_of_ble_eq_true rfl) ?_
 simp only [b5,cO,cG,cN,cM,cD,cF,cB,ar,aH]
 have f1:=xe m hm
 have f2:=ru l hl
 have f3:=uX c hc.1 hc.2
 cases e1:uv m
 ·rw [e1] at f1
  (have zz:=aI @aD (aI @av (aI @aJ @az)); repeat' (first | refine zW ?_ | apply a_n | apply a_r | refine zO ?_ | refine vY ?_ | refine cY ?_ (hp:=by first | exact f1 | exact kI) (hs:=by (first | refine aa ?_ rfl | apply ac); (repeat' (first | exact ab | apply ah | apply ae | exact bw _)); first | done | fail) | refine bxY ?_ | refine gFY ?_ | refine cTY ?_ | refine ag rfl ?_ | refine r1Y ?_ | fail)) <;> (try clear zz)
  exact .bool _
 by_cases e2:l.length ≤ 10
 rotate_left
 ·rw [e1] at f1; rw [decide_eq_false e2] at f2
  (have zz:=aI @aD (aI @av (aI @aJ @az)); repeat' (first | refine zW ?_ | apply a_n | apply a_r | refine zO ?_ | refine vY ?_ | refine cY ?_ (hp:=by first | exact f1 | exact f2 | exact kI) (hs:=by (first | refine aa ?_ rfl | apply ac); (repeat' (first | exact ab | apply ah | apply ae | exact bw _ | exact am _)); first | done | fail) | refine bxY ?_ | refine gTY ?_ | refine gFY ?_ | refine cTY ?_ | refine ag rfl ?_ | refine r1Y ?_ | fail)) <;> (try clear zz)
  exact .bool _
 rw [decide_eq_true e2] at f2
 cases e3:ky c
 ·rw [e1] at f1; rw [e3] at f3
  (have zz:=aI @aD (aI @av (aI @aJ @az)); repeat' (first | refine zW ?_ | apply a_n | apply a_r | refine zO ?_ | refine vY ?_ | refine cY ?_ (hp:=by first | exact f1 | exact f2 | exact f3 | exact kI) (hs:=by (first | refine aa ?_ rfl | apply ac); (repeat' (first | exact ab | apply ah | apply ae | exact bw _ | exact am _ | exact cT _)); first | done | fail) | refine bxY ?_ | refine gTY ?_ | refine cTY ?_ | refine ag rfl ?_ | refine r1Y ?_ | fail)) <;> (try clear zz)
  exact .bool _
 rw [e1] at f1; rw [e3] at f3
 have s1:=vN m l hm hl
 have s2:=sR m l hm hl
 have s3:=vn m c hm hc.1 hc.2
 have s4:=t6 m c hm hc.1 hc.2
 have h1:=qI (m:=m) hl
 have h2:=qs (m:=m) hc.1 hc.2
 have s5:=q9 (eK m l).1 (eK m l).1 h1 h1
 have s6:=tN (d5 m c).1 (d5 m c).1 h2.1 h2.1 h2.2 h2.2
 rw [decide_eq_true rfl] at s5 s6
 generalize eK m l=p at *
 generalize d5 m c=q at *
 obtain ⟨p1,p2⟩:=p
 obtain ⟨q1,q2⟩:=q
 have z1:decide (p2=p2)=true:=decide_eq_true rfl
 have z2:decide (q2=q2)=true:=decide_eq_true rfl
 (have zz:=aI @aD (aI @av (aI @aJ (aI @az (aI @z1 @z2)))); repeat' (first | refine zW ?_ | apply a_n | refine zO ?_ | refine vY ?_ | refine cY ?_ (hp:=by first | exact f1 | exact f2 | exact f3 | exact s1 | exact s2 | exact s3 | exact s4 | exact s5 | exact s6 | exact kI) (hs:=by (first | refine aa ?_ rfl | apply ac); (repeat' (first | exact ab | apply ah | apply ae | exact bw _ | exact am _ | exact cT _)); first | done | fail) | refine alY ?_ | refine bxY ?_ | refine stY ?_ | refine gTY ?_ | (refine zGY ?_ ?_ <;> (intro _hg; try (exfalso; omega))) | refine cFY ?_ | refine ag rfl ?_ | refine r1Y ?_ | fail)) <;> (try clear zz)
 exact .bool _
end Go.Proofs.YtbgdcebmgjafjaaGreat
namespace Go.Proofs.YtbgdcebmgjafjaaGreat
open Go Go.Abs Go.RowKit
section
variable {H:Type} {enc:TypeId × Value→H} {W:World}
theorem oi:cC enc Tryz.prog W 3 (AV.int .i64) (fun n=>(Lit.int .i64 n).wf=true):=sI Tryz.underlying3
set_option maxRecDepth 100000 in
theorem zB:cC enc Tryz.prog W 71 bl (fun _=>True) :=
 (fB Tryz.underlying71 (by kernel_rfl) (dZ (off:=0) (off':=1) rfl (by kernel_rfl) oi (dZ (off:=1) (off':=2) rfl (by kernel_rfl) oi ip))).map
  (fun a=>(⟨a.1,a.2.1⟩:Vtx)) (fun _ _=>trivial) (fun _ _=>rfl)
theorem oXs:cC enc Tryz.prog W 22 au Shn :=
 (jZ Tryz.underlying22 (sz:=2) (by_:=16) (by kernel_rfl) (by kernel_rfl) (by omega) (fun _=>rfl) zB).mono fun l h=>by have:=h.2.2; show _ ≤ _; omega
theorem zE:cC enc Tryz.prog W 25 aG (fun l=>Shn l∧∀ x ∈ l,Shn x) :=
 (jZ Tryz.underlying25 (sz:=1) (by_:=24) (by kernel_rfl) (by kernel_rfl) Nat.one_pos (fun _=>rfl) oXs).mono fun l h=>⟨by have:=h.2.2; show _ ≤ _; omega,h.1⟩
set_option maxRecDepth 100000 in
theorem Ab:cC enc Tryz.prog W 24 gQ ShM :=
 (fB Tryz.underlying24 (by kernel_rfl) (dZ (off:=0) (off':=1) rfl (by kernel_rfl) oXs (dZ (off:=1) (off':=2) rfl (by kernel_rfl) oXs ip))).map
  (fun a=>(⟨a.1,a.2.1⟩:MapV)) (by rintro ⟨n,i,u⟩ ⟨h1,h2,_⟩; exact ⟨h1,h2⟩) (fun _ _=>rfl)
set_option maxRecDepth 100000 in
theorem oCx:cC enc Tryz.prog W 27 dj (fun l=>Shn l∧∀ x ∈ l,Shn x) :=
 (fB Tryz.underlying27 (by kernel_rfl) (dZ (off:=0) (off':=1) rfl (by kernel_rfl) zE ip)).map
  (fun a=>a.1) (by rintro ⟨n,u⟩ ⟨h1,_⟩; exact h1) (fun _ _=>rfl)
end
theorem kK {f:FuncId} {xs:List AV} {vs:List Value} (h:Go.Abs.Pure Tryz.prog f xs (.bool true)) (w:World) (hv:bK (E0 (mw w)) w xs vs) :
    Calls Tryz.prog f vs.toArray w fun e w'=>e=.returned (.bool true)∧Below w.heap.size w w':=by
 refine (h.2 (mw w) w vs (fun _ h=>h) hv).mono ?_
 rintro e w' ⟨v,imm',rfl,hb,_,_,_,hr⟩
 cases hr
 exact ⟨rfl,hb⟩
theorem zt:laidOutB Tryz.prog=true:=by kernel_rfl
end Go.Proofs.YtbgdcebmgjafjaaGreat
namespace Go.Proofs.YtbgdcebmgjafjaaGreat
open Go Go.Abs Go.RowKit Go.ChangeShapes Go.WideShapes Go.ChangeAt
theorem mt {H:Type} {enc:TypeId × Value→H} {P:Program} {f:Func} {s:ChangeSpec} {apart fresh handsOn again:Bool} {W W':World} {args:Array Value} {v:Value} {ds gs:List (DataW H)} {before pa pv:List MemPlace}
    (hW:DataW.Whole enc P f.params.toList s.vars apart W args.toList ds gs before)
    (hres:∀ (b:Nat) (sp:Nat→Bool) (hd:Bool),DataW.TrodAll enc P W' b sp hd f.resultTypes.toList (v.resultList f.resultTypes.size) (s.fn H (ds ++ gs)).results [])
    (hargs:∀ sp:Nat→Bool,(∀ p ∈ before,sp p.block=true)→DataW.TrodAll enc P W' 0 sp true f.params.toList args.toList (s.fn H (ds ++ gs)).args pa)
    (hvars:∀ sp:Nat→Bool,(∀ p ∈ before,sp p.block=true)→DataW.TrodVars enc P W' sp s.vars (s.fn H (ds ++ gs)).vars pv)
    (hps:before=pa ++ pv) (hb:Below W.heap.size W W')
    (hok:∀ (j:Nat) (t:TypeId) (r:Value),f.resultTypes[j]?=some t→(v.resultList f.resultTypes.size)[j]?=some r→Value.okWide P W' .any 0 t r) :
    s.post enc P f apart fresh handsOn again W args v W':=by
 have hold:∀ p ∈ before,(fun b=>decide (b < W.heap.size)) p.block=true:=fun p hp=>by simpa using hW.lt p hp
 have hlt:=fun p hp=>hW.lt p hp
 refine ⟨ds,gs,before,[],pa,pv,hW,hres _ _ _,hargs _ hold,hvars _ hold,World.keptBut_mono (fun p hp=>⟨hp,?_⟩) (hb.frame _),fun _=>?_⟩
 ·rw [hps,List.mem_append] at hp
  exact Or.inr hp
 ·obtain ⟨_,_,_,_,_,hz,hn⟩:=hW
  refine ⟨hok,_,_,([] ++ pa) ++ pv,⟨[] ++ pa,pv,trodAll_append (hargs _ (fun _ _=>rfl)) (hres _ _ _),hvars _ (fun _ _=>rfl),rfl,?_,?_⟩,?_⟩
  ·intro b off hp
   have hp':MemPlace.cell b off ∈ before:=by rw [hps]; simpa using hp
   rw [hb.frozen (hlt _ hp')]
   exact hz b off hp'
  ·intro ha
   have:=hn ha
   rw [hps] at this
   simpa using this
  ·intro p hp _
   rw [hps]
   simpa using hp
theorem sX {E:Env} {w:World}:bK E w [] []:=⟨rfl,fun i x y h=>(by cases h)⟩
theorem jF {E:Env} {w:World} {x:AV} {y:Value} {xs:List AV} {ys:List Value} (h:Rel E w x y) (hs:bK E w xs ys):bK E w (x :: xs) (y :: ys):=by
 refine ⟨by simp [hs.1],fun i a b ha hb=>?_⟩
 cases i with
 | zero=>simp at ha hb; subst ha hb; exact h
 | succ i=>simp at ha hb; exact hs.2 i a b ha hb
theorem own:ownKnob Tryz.prog.godebug=none:=by kernel_rfl
end Go.Proofs.YtbgdcebmgjafjaaGreat