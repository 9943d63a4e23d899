/- Texts of this claim, one after the other: T111, T112, T113, T107, T114, T115, T116, T117, T119, T124, T125, T120, T123, T126, T127, T128, T135, T136, T137, T129, T130, T131, T138, T139, T140, T141, T142, T143, T132. -/
import Derived.Test.YtbgdcebmgjafjaaGreatXG5
import Derived.Test.YtbgdcebmgjafjaaGreatXG4

set_option linter.unusedSimpArgs false
set_option linter.unusedVariables false
namespace Go.Proofs.YtbgdcebmgjafjaaGreat
open Go Go.Abs
def bO (l:List Spx) (s:Spx):Bool:=l.any fun t=>decide (s.length < t.length) && bw s t
def jZ (c:List Spx) (k:Nat):Int:=if bL (c.getD k default) ≠ 0 then bL (c.getD k default) else if 0 < k∧0 ≤ bi (c.getD (k - 1) default) (c.getD k default) then 14 else 0
def be (c:List Spx):Int:=if 4096 < c.length then 5 else if bU (jZ c) c.length ≠ 0 then bU (jZ c) c.length else if c.any (bO c)=true then 7 else 0
theorem dK {a b:Spx}:bw a b=true ↔ ∀ v ∈ a,v ∈ b:=by
 unfold bw; rw [List.all_eq_true]
 exact ⟨fun h v hv=>of_decide_eq_true (h v hv),fun h v hv=>decide_eq_true (h v hv)⟩
theorem jt {l:List Spx} {s:Spx}:bO l s=true ↔ ∃ t ∈ l,s.length < t.length∧∀ v ∈ s,v ∈ t:=by
 unfold bO; rw [List.any_eq_true]
 constructor
 ·rintro ⟨t,ht,h⟩
  rw [Bool.and_eq_true,decide_eq_true_iff,dK] at h
  exact ⟨t,ht,h⟩
 ·rintro ⟨t,ht,h⟩
  exact ⟨t,ht,by rw [Bool.and_eq_true,decide_eq_true_iff,dK]; exact h⟩
theorem x9 {a b:Spx} (ha:cP aV a) (hb:cP aV b) (h:∀ v ∈ a,v ∈ b) (hne:a ≠ b):a.length < b.length:=by
 have h1:a.length ≤ b.length:=List.Nodup.length_le_of_subset (ha.nodup nF) h
 rcases Nat.lt_or_ge a.length b.length with h2 | h2
 ·exact h2
 ·exfalso
  refine hne (kF nF ha hb fun x=>⟨h x,fun hx=>Decidable.byContradiction fun hn=>?_⟩)
  have h3:(x :: a).length ≤ b.length:=List.Nodup.length_le_of_subset (List.nodup_cons.2 ⟨hn,ha.nodup nF⟩) fun y hy=>by
   rcases List.mem_cons.1 hy with rfl | hy
   ·exact hx
   ·exact h y hy
  rw [List.length_cons] at h3
  omega
theorem r7 {c:List Spx} (h:bU (jZ c) c.length=0):(∀ s ∈ c,bL s=0)∧cP bi c:=by
 have hz:=e5 h
 have h3:∀ k,k < c.length→bL (c.getD k default)=0∧(0 < k→bi (c.getD (k - 1) default) (c.getD k default) < 0):=fun k hk=>by
  have:=hz k hk
  unfold jZ at this
  split at this
  ·exact absurd this ‹_›
  rename_i g1
  split at this
  ·exact absurd this (by decide)
  rename_i g2
  exact ⟨Decidable.of_not_not g1,fun h0=>by omega⟩
 constructor
 ·intro s hs
  obtain ⟨i,hi,rfl⟩:=List.getElem_of_mem hs
  have:=(h3 i hi).1
  rwa [show c.getD i default=c[i] by simp [List.getD,hi]] at this
 ·have step:∀ j i,i < j→j < c.length→bi (c.getD i default) (c.getD j default) < 0:=by
    intro j
    induction j with
    | zero=>intro i h; omega
    | succ j ih =>
     intro i hi hj
     have hs:=(h3 (j + 1) hj).2 (by omega)
     rw [Nat.add_sub_cancel] at hs
     by_cases e:i=j
     ·subst e; exact hs
     ·exact pz.trans (ih i (by omega) (by omega)) hs
  unfold cP
  rw [List.pairwise_iff_getElem]
  intro i j hi hj hij
  have:=step j i hij hj
  simpa [List.getD,hi,hj] using this
theorem cK {c:List Spx} (h:be c=0):c.length ≤ 4096∧(∀ s ∈ c,bL s=0)∧cP bi c∧∀ s ∈ c,bO c s=false:=by
 unfold be at h
 split at h
 ·exact absurd h (by decide)
 split at h
 ·exact absurd h ‹_›
 split at h
 ·exact absurd h (by decide)
 rename_i h1 h2 h3
 have:=r7 (Decidable.of_not_not h2)
 refine ⟨by omega,this.1,this.2,fun s hs=>?_⟩
 cases hc:bO c s
 ·rfl
 ·exact absurd (List.any_eq_true.2 ⟨s,hs,hc⟩) h3
theorem xa {l:List Spx} {s:Spx} {p:Spx→Bool} (h0:0 < s.length) (hp:∀ t,p t=true→s.getD 0 default ∈ t):((iC l l.length (s.getD 0 default)).map fun (n:Nat)=>(n:Int)).any (fun i=>p (l.getD i.toNat default))=l.any p:=by
 rw [Bool.eq_iff_iff,List.any_eq_true,List.any_eq_true]
 constructor
 ·rintro ⟨x,hx,h⟩
  obtain ⟨n,hn,rfl⟩:=List.mem_map.1 hx
  unfold iC at hn
  obtain ⟨h1,_⟩:=List.mem_filter.1 hn
  rw [Int.toNat_natCast] at h
  exact ⟨_,aO (List.mem_range.1 h1),h⟩
 ·rintro ⟨t,ht,h⟩
  obtain ⟨i,hi,rfl⟩:=List.getElem_of_mem ht
  have e:l.getD i default=l[i]:=by simp [List.getD,hi]
  refine ⟨(i:Int),List.mem_map.2 ⟨i,List.mem_filter.2 ⟨List.mem_range.2 hi,decide_eq_true ?_⟩,rfl⟩,?_⟩
  ·rw [e]; exact hp _ h
  ·rw [Int.toNat_natCast,e]; exact h
attribute [local irreducible] aG al bg bc aN aR aE aS bf br Go.Abs.Fn aY Go.Abs.Pure aA aL Yl
theorem tZ (l:List Int) (p:Int→Bool) (g:Nat) (caps:List AV) (hd:∀ x ∈ caps,Dat x) (hg:∀ x ∈ l,Pure Tryz.prog g (.int .i64 x :: caps) (.bool (p x))) (hl:Shn l):Pure Tryz.prog 127 [ce l,.func g caps] (.int .i64 (if l.any p then (l.findIdx p:Nat) else -1)):=by
 refine Pure.of_c2 follows xC (Nat.le_of_ble_eq_true rfl) ?_
 simp only [yO,cO,cG,cN,cM,cD,cF,cB,au,aH]
 have hl':l.length ≤ 17592186044416:=hl
 (have zz:=and_self; repeat' (first|refine zW ?_|apply a_n|refine zO ?_|refine vZ ?_|fail)) <;> (try clear zz)
 refine aM (X:=Nat) (fun k=>[(0,ce l),(1,.func g caps),(6,ce l),(7,.int .i64 l.length),(8,.int .i64 k)]) (fun k H nx=>k ≤ l.length∧∀ i,i < k→p (l.getD i default)=false) (fun k=>l.length - k) 0 ⟨Nat.zero_le _,fun i h=>absurd h (by omega)⟩ ag0 ?_
 rintro k H nx ⟨hk,hz⟩
 by_cases hk2:k < l.length
 rotate_left
 ·rw [eh fun i hi=>hz i (by omega),if_neg (by decide)]
  (have zz:=and_self; repeat' (first|refine zW ?_|apply a_n|apply a_x|refine zO ?_|refine vY ?_|(refine zGY ?_ ?_ <;> (intro _hg; try (exfalso; omega)))|refine ah rfl ?_|refine r1Y ?_|fail)) <;> (try clear zz)
  exact bC rfl
 have hc:=hg _ (aB hk2)
 cases hp:p (l.getD k default)
 ·rw [hp] at hc
  (have zz:=and_self; repeat' (first|refine zW ?_|apply a_n|refine zO ?_|refine vY ?_|(refine zGY ?_ ?_ <;> (intro _hg; try (exfalso; omega)))|fail)) <;> (try clear zz)
  refine co ev0 ev0 hc (ac (ax (.int _ _) (aw hd))) ?_
  (have zz:=and_self; repeat' (first|apply a_n|refine zO ?_|refine vY ?_|refine cFY ?_|fail)) <;> (try clear zz)
  exact ⟨k + 1,by omega,⟨by omega,fun i hi=>by
   rcases Nat.lt_succ_iff_lt_or_eq.1 hi with h | rfl
   ·exact hz i h
   ·exact hp⟩,ag0⟩
 ·rw [hp] at hc
  obtain ⟨e1,e2⟩:=fk hk2 hz hp
  rw [e1,e2,if_pos rfl]
  (have zz:=and_self; repeat' (first|refine zW ?_|apply a_n|refine zO ?_|refine vY ?_|(refine zGY ?_ ?_ <;> (intro _hg; try (exfalso; omega)))|fail)) <;> (try clear zz)
  refine co ev0 ev0 hc (ac (ax (.int _ _) (aw hd))) ?_
  (have zz:=and_self; repeat' (first|refine zW ?_|apply a_n|apply a_r|refine zO ?_|refine vY ?_|refine cTY ?_|refine ah rfl ?_|refine r1Y ?_|fail)) <;> (try clear zz)
  exact .int _ _
theorem pC (l:List Int) (p:Int→Bool) (g:Nat) (caps:List AV) (hd:∀ x ∈ caps,Dat x) (hg:∀ x ∈ l,Pure Tryz.prog g (.int .i64 x :: caps) (.bool (p x))) (hl:Shn l):Pure Tryz.prog 103 [ce l,.func g caps] (.bool (l.any p)):=by
 refine Pure.of_c2 follows xG (Nat.le_of_ble_eq_true rfl) ?_
 simp only [yx,cO,cG,cN,cM,cD,cF,cB,au,aH]
 have h:=tZ l p g caps hd hg hl
 (have zz:=and_self; repeat' (first|refine zW ?_|apply a_n|refine zO ?_|refine vZ ?_|refine cZ ?_ (hp:=h) (hs:=by (first | refine aa ?_ rfl | apply ac); (repeat' (first | exact ab | apply ag | apply ae | exact fW _ | exact Dat.func hd)); first | done | fail)|refine ah rfl ?_|refine r1Z ?_|fail)) <;> (try clear zz)
 cases hA:l.any p
 ·exact bj (by simp)
 ·exact bj (by simp)
def OkS (l:List Spx):Prop:=l.length ≤ 100000∧∀ s ∈ l,cP aV s∧s.length ≤ 1000
theorem rM (l:List Spx) (s:Spx) (i:Nat) (hl:OkS l) (hs:cP aV s∧s.length ≤ 1000) (hi:i < l.length):Pure Tryz.prog 104 [.int .i64 i,.iptr [aC l] 0,.iptr [ao s] 0] (.bool (decide (s.length < (l.getD i default).length) && bw s (l.getD i default))):=by
 refine Pure.of_c2 follows xH (Nat.le_of_ble_eq_true rfl) ?_
 simp only [yZ,cO,cG,cN,cM,cD,cF,cB,au,aH]
 have ix:=dI hi
 obtain ⟨t1,t2⟩:=hl.2 _ (aO hi)
 have hf:=yS s (l.getD i default) hs.1 t1 (by omega) (by omega)
 generalize l.getD i default=t at *
 by_cases h:s.length < t.length
 ·have z:decide ((s.length:Int) < t.length)=true:=decide_eq_true (by omega)
  rw [decide_eq_true h,Bool.true_and]
  (have zz:=aI @ai (aI @ix @z); repeat' (first|refine zW ?_|refine zM ?_|apply a_n|refine zO ?_|refine vZ ?_|refine cZ ?_ (hp:=hf) (hs:=by (first | refine aa ?_ rfl | apply ac); (repeat' (first | exact ab | apply ag | apply ae | exact an _)); first | done | fail)|refine gTZ ?_|refine ah rfl ?_|refine r1Z ?_|fail)) <;> (try clear zz)
  exact .bool _
 ·have z:decide ((s.length:Int) < t.length)=false:=decide_eq_false (by omega)
  rw [decide_eq_false h,Bool.false_and]
  (have zz:=aI @ai (aI @ix @z); repeat' (first|refine zW ?_|refine zM ?_|apply a_n|refine zO ?_|refine vZ ?_|refine gFZ ?_|refine ah rfl ?_|refine r1Z ?_|fail)) <;> (try clear zz)
  exact .bool _
theorem tV (l:List Spx) (s:Spx) (hl:OkS l) (hs:cP aV s∧s.length ≤ 1000) (h0:0 < s.length):Pure Tryz.prog 70 [aC l,ce ((iC l l.length (s.getD 0 default)).map fun (n:Nat)=>(n:Int)),ao s] (.bool (bO l s)):=by
 refine Pure.of_c2 follows Bn (Nat.le_of_ble_eq_true rfl) ?_
 simp only [b70,cO,cG,cN,cM,cD,cF,cB,au,aH]
 have hll:=hl.1
 have h:=pC ((iC l l.length (s.getD 0 default)).map fun (n:Nat)=>(n:Int)) (fun i=>decide (s.length < (l.getD i.toNat default).length) && bw s (l.getD i.toNat default)) 104 [.iptr [aC l] 0,.iptr [ao s] 0] (DatL.cons (Dat.iptr (DatL.cons (bl _) DatL.nil)) (DatL.cons (Dat.iptr (DatL.cons (an _) DatL.nil)) DatL.nil)) (fun x hx=>by
  obtain ⟨n,hn,rfl⟩:=List.mem_map.1 hx
  have hn2:n < l.length:=List.mem_range.1 (List.mem_filter.1 hn).1
  rw [Int.toNat_natCast]
  exact rM l s n hl hs hn2) (by rw [Shn,List.length_map]; have:=pI (l:=l) (i:=l.length) (v:=s.getD 0 default); omega)
 rw [xa (p:=fun t=>decide (s.length < t.length) && bw s t) h0 (fun t ht=>by
  rw [Bool.and_eq_true,dK] at ht
  exact ht.2 _ (aO h0))] at h
 (have zz:=aI @az (aI @ar (aI @ay @ap)); repeat' (first|refine zW ?_|apply a_n|refine zO ?_|refine vZ ?_|refine bxZ ?_|fail)) <;> (try clear zz)
 refine co (have zz:=aI @az (aI @ar (aI @ay @ap)); evZ) (have zz:=aI @az (aI @ar (aI @ay @ap)); evZ) h (aa (ax (fW _ _) (ax (iv (ax (ew rfl rfl (ax (bl _ _) ab)) (ax (ew rfl rfl (ax (an _ _) ab)) ab))) ab)) rfl) ?_
 (have zz:=and_self; repeat' (first|apply a_n|refine zO ?_|refine vZ ?_|refine ah rfl ?_|refine r1Z ?_|fail)) <;> (try clear zz)
 exact .bool _
end Go.Proofs.YtbgdcebmgjafjaaGreat
namespace Go.Proofs.YtbgdcebmgjafjaaGreat
open Go Go.Abs
theorem sD {H:Hp} {sv:AV} {F:List Nat} (h:Row H 1 sv (F.map nK)):Snap H sv (ce (F.map fun (n:Nat)=>(n:Int))):=by
 refine Row.snapI ?_
 rw [List.map_map]; exact h
theorem nu {c:List Spx} {k:Nat}:jZ c k=if bL (c.getD k default) ≠ 0 then bL (c.getD k default) else if 0 < k∧0 ≤ bi (c.getD (k - 1) default) (c.getD k default) then 14 else 0:=rfl
theorem vR {c:List Spx} (h1:c.length ≤ 4096) (h:∀ s ∈ c,bL s=0):OkS c:=⟨by omega,fun s hs=>by
 obtain ⟨a1,a2,a3,a4⟩:=c8 (h s hs)
 exact ⟨a3,by omega⟩⟩
theorem pK {H:Hp} {b:Nat} {cs:List AV} (h:H b=some cs):Sub (only b cs) H:=fun x c hx=>by
 unfold only at hx
 split at hx
 ·rename_i e; rw [e,h]; exact hx
 ·cases hx
def on2 (b1:Nat) (c1:List AV) (b2:Nat) (c2:List AV):Hp:=fun x=>if x=b1 then some c1 else if x=b2 then some c2 else none
theorem zS {b1 b2:Nat} {c1 c2:List AV}:on2 b1 c1 b2 c2 b1=some c1:=if_pos rfl
theorem z6 {b1 b2:Nat} {c1 c2:List AV} (h:b2 ≠ b1):on2 b1 c1 b2 c2 b2=some c2:=by unfold on2; rw [if_neg h,if_pos rfl]
theorem sn {b1 b2:Nat} {c1 c2:List AV} {H:Hp} (h1:H b1=some c1) (h2:H b2=some c2):Sub (on2 b1 c1 b2 c2) H:=fun x cs h=>by
 unfold on2 at h
 split at h
 ·rename_i e; rw [e,h1]; exact h
 ·split at h
  ·rename_i e; rw [e,h2]; exact h
  ·cases h
theorem jV {P:Program} {T:Tm} {H:Hp} {nx:Nat} (b1 b2:Nat) {c1 c2:List AV} {K:CP} {m:Nat} {l:List Op2} {C:List (Nat × Nat)} (h1:H b1=some c1) (h2:H b2=some c2) (hne:b2 ≠ b1) (k:∀ S:Hp,S b1=some c1→S b2=some c2→(∀ H':Hp,H' b1=some c1→H' b2=some c2→Sub S H')→ba P S (C.map fun k=>(l.getD k.1 ⟨none,none,.dead⟩,k.2)) T H nx fun T H nx=>K .normal T H nx):aG P (.mixS m l C) T H nx K :=
 pi (on2 b1 c1 b2 c2) rfl (sn h1 h2) (k _ zS (z6 hne) fun _ a b=>sn a b)
theorem o7 {P:Program} {T:Tm} {H:Hp} {nx:Nat} (b:Nat) {c:List AV} {K:CP} {m:Nat} {l:List Op2} {C:List (Nat × Nat)} (h:H b=some c) (k:∀ S:Hp,S b=some c→(∀ H':Hp,H' b=some c→Sub S H')→ba P S (C.map fun k=>(l.getD k.1 ⟨none,none,.dead⟩,k.2)) T H nx fun T H nx=>K .normal T H nx):aG P (.mixS m l C) T H nx K :=
 pi (only b c) rfl (pK h) (k _ jK fun _ h=>pK h)
attribute [local irreducible] aG al bg bc aN aR aE aS bf br Go.Abs.Fn aY Go.Abs.Pure aA aL Yl
set_option maxHeartbeats 2000000 in
theorem nt (c:List Spx) (hc:Shn c) (hs:∀ s ∈ c,Shn s):Pure Tryz.prog 29 [dD c] (.int .i64 (be c)):=by
 refine Pure.of_c2 follows zF (Nat.le_of_ble_eq_true rfl) ?_
 simp only [b29,cO,cG,cN,cM,cD,cF,cB,au,aH]
 have hc':c.length ≤ 17592186044416:=hc
 by_cases h0:4096 < c.length
 ·rw [show be c=5 by unfold be; rw [if_pos h0]]
  (have zz:=aI @ak (aI @az @ar); repeat' (first|refine zW ?_|apply a_n|apply a_r|refine zO ?_|refine vZ ?_|refine bxZ ?_|(refine zGZ ?_ ?_ <;> (intro _hg; try (exfalso; omega)))|refine ah rfl ?_|refine r1Z ?_|fail)) <;> (try clear zz)
  all_goals exact bC rfl
 rw [show be c=if bU (jZ c) c.length ≠ 0 then bU (jZ c) c.length else if c.any (bO c)=true then 7 else 0 by unfold be; rw [if_neg h0]]
 refine d8 ?_
 (have zz:=aI @ak (aI @az @ar); repeat' (first|apply a_n|refine zO ?_|refine vZ ?_|refine bxZ ?_|fail)) <;> (try clear zz)
 refine d8 (d8 ?_)
 (have zz:=aI @ak (aI @az @ar); repeat' (first|apply a_n|refine zO ?_|refine vZ ?_|(refine zGZ ?_ ?_ <;> (intro _hg; try (exfalso; omega)))|fail)) <;> (try clear zz)
 by_cases hz:bU (jZ c) c.length ≠ 0
 ·rw [if_pos hz]
  (have zz:=aI @ak (aI @az @ar); repeat' (first|refine zW ?_|apply a_n|refine zO ?_|refine vZ ?_|fail)) <;> (try clear zz)
  refine aM (X:=Nat) (fun k=>[(1,.ptr 0 1 0),(14,aC c),(15,.int .i64 c.length),(16,.int .i64 k)]) (fun k H nx=>k ≤ c.length∧H 0=some [aC c]∧∀ i,i < k→jZ c i=0) (fun k=>c.length - k) 0 ⟨Nat.zero_le _,rfl,fun i h=>absurd h (by omega)⟩ (by (iterate 4 refine And.intro rfl ?_); trivial) ?_
  rintro k H nx ⟨h1,g0,h2⟩
  by_cases hk:k < c.length
  rotate_left
  ·exact absurd (cI fun i hi=>h2 i (by omega)) hz
  have ix:=dI hk
  have hs1:=hs _ (aO hk)
  have hp:=nw (c.getD k default) hs1
  have hsp:=nu (c:=c) (k:=k)
  by_cases he:bL (c.getD k default) ≠ 0
  ·rw [if_pos he] at hsp
   rw [bB hk h2 (by rw [hsp]; exact he),hsp]
   have z:decide (bL (c.getD k default) ≠ 0)=true:=decide_eq_true he
   (have zz:=aI @ak (aI @ix @z); repeat' (first|refine zW ?_|apply a_n|apply a_r|refine zO ?_|refine vY ?_|refine cY ?_ (hp:=hp) (hs:=by (first | refine aa ?_ rfl | apply ac); (repeat' (first | exact ab | apply ag | apply ae | exact an _)); first | done | fail)|refine cTY ?_|(refine zGY ?_ ?_ <;> (intro _hg; try (exfalso; omega)))|refine ah rfl ?_|refine r1Y ?_|fail)) <;> (try clear zz)
   exact .int _ _
  rw [if_neg he] at hsp
  have he:=Decidable.of_not_not he
  rw [he] at hp
  have z:decide ((0:Int) ≠ 0)=false:=rfl
  by_cases hk0:0 < k
  rotate_left
  ·rw [if_neg (fun h=>hk0 h.1)] at hsp
   have zk:decide (0 < (k:Int))=false:=decide_eq_false (by omega)
   (have zz:=aI @ak (aI @ix (aI @z @zk)); repeat' (first|refine zW ?_|apply a_n|refine zO ?_|refine vY ?_|refine cY ?_ (hp:=hp) (hs:=by (first | refine aa ?_ rfl | apply ac); (repeat' (first | exact ab | apply ag | apply ae | exact an _)); first | done | fail)|refine gFY ?_|refine cFY ?_|(refine zGY ?_ ?_ <;> (intro _hg; try (exfalso; omega)))|fail)) <;> (try clear zz)
   exact ⟨k + 1,by omega,⟨by omega,g0,fun i hi=>by
    rcases Nat.lt_succ_iff_lt_or_eq.1 hi with h' | rfl
    ·exact h2 i h'
    ·exact hsp⟩,ag0⟩
  have zk:decide (0 < (k:Int))=true:=decide_eq_true (by omega)
  have iy:d7 1 (aC c) (.int .i64 ((k:Int) - 1))=some (.iptr [ao (c.getD (k - 1) default)] 0):=by
   have:=dI (l:=c) (k:=k - 1) (by omega)
   rwa [show ((k - 1:Nat):Int)=(k:Int) - 1 by omega] at this
  have hcm:=fR (c.getD (k - 1) default) (c.getD k default) (hs _ (aO (by omega))) hs1
  by_cases hv:0 ≤ bi (c.getD (k - 1) default) (c.getD k default)
  ·have z2:decide (0 ≤ bi (c.getD (k - 1) default) (c.getD k default))=true:=decide_eq_true hv
   rw [if_pos ⟨hk0,hv⟩] at hsp
   rw [bB hk h2 (by rw [hsp]; decide),hsp]
   (have zz:=aI @ak (aI @ix (aI @iy (aI @z (aI @zk (aI @z2 @g0))))); repeat' (first|refine zW ?_|apply a_n|apply a_r|refine zO ?_|refine vY ?_|refine cY ?_ (hp:=by first | exact hp | exact hcm) (hs:=by (first | refine aa ?_ rfl | apply ac); (repeat' (first | exact ab | apply ag | apply ae | exact an _)); first | done | fail)|refine gTY ?_|refine cTY ?_|refine cFY ?_|(refine zGY ?_ ?_ <;> (intro _hg; try (exfalso; omega)))|refine ah rfl ?_|refine r1Y ?_|fail)) <;> (try clear zz)
   exact .int _ _
  ·have z2:decide (0 ≤ bi (c.getD (k - 1) default) (c.getD k default))=false:=decide_eq_false hv
   rw [if_neg (fun h=>hv h.2)] at hsp
   (have zz:=aI @ak (aI @ix (aI @iy (aI @z (aI @zk (aI @z2 @g0))))); repeat' (first|refine zW ?_|apply a_n|refine zO ?_|refine vY ?_|refine cY ?_ (hp:=by first | exact hp | exact hcm) (hs:=by (first | refine aa ?_ rfl | apply ac); (repeat' (first | exact ab | apply ag | apply ae | exact an _)); first | done | fail)|refine gTY ?_|refine cFY ?_|(refine zGY ?_ ?_ <;> (intro _hg; try (exfalso; omega)))|fail)) <;> (try clear zz)
   exact ⟨k + 1,by omega,⟨by omega,g0,fun i hi=>by
    rcases Nat.lt_succ_iff_lt_or_eq.1 hi with h' | rfl
    ·exact h2 i h'
    ·exact hsp⟩,ag0⟩
 have hz:=Decidable.of_not_not hz
 rw [if_neg (fun h=>h hz)]
 obtain ⟨a1,a2⟩:=r7 hz
 have hall:=e5 hz
 have hok:=vR (by omega) a1
 refine aQ (fun T H nx=>T 1=.ptr 0 1 0∧H 0=some [aC c]∧1 ≤ nx) ?_ ?_
 ·(have zz:=aI @ak (aI @az @ar); repeat' (first|refine zW ?_|apply a_n|refine zO ?_|refine vZ ?_|fail)) <;> (try clear zz)
  refine aM (X:=Nat) (fun k=>[(1,.ptr 0 1 0),(14,aC c),(15,.int .i64 c.length),(16,.int .i64 k)]) (fun k H nx=>k ≤ c.length∧H 0=some [aC c]∧1 ≤ nx) (fun k=>c.length - k) 0 ⟨Nat.zero_le _,rfl,by omega⟩ (by (iterate 4 refine And.intro rfl ?_); trivial) ?_
  rintro k H nx ⟨h1,g0,hnx⟩
  by_cases hk:k < c.length
  rotate_left
  ·(have zz:=and_self; repeat' (first|refine zW ?_|apply a_n|apply a_x|refine zO ?_|refine vY ?_|(refine zGY ?_ ?_ <;> (intro _hg; try (exfalso; omega)))|fail)) <;> (try clear zz)
   exact ⟨rfl,g0,hnx⟩
  have ix:=dI hk
  have hs1:=hs _ (aO hk)
  have hp:=nw (c.getD k default) hs1
  rw [a1 _ (aO hk)] at hp
  have z:decide ((0:Int) ≠ 0)=false:=rfl
  by_cases hk0:0 < k
  rotate_left
  ·have zk:decide (0 < (k:Int))=false:=decide_eq_false (by omega)
   (have zz:=aI @ak (aI @ix (aI @z @zk)); repeat' (first|refine zW ?_|apply a_n|refine zO ?_|refine vY ?_|refine cY ?_ (hp:=hp) (hs:=by (first | refine aa ?_ rfl | apply ac); (repeat' (first | exact ab | apply ag | apply ae | exact an _)); first | done | fail)|refine gFY ?_|refine cFY ?_|(refine zGY ?_ ?_ <;> (intro _hg; try (exfalso; omega)))|fail)) <;> (try clear zz)
   exact ⟨k + 1,by omega,⟨by omega,g0,hnx⟩,ag0⟩
  have zk:decide (0 < (k:Int))=true:=decide_eq_true (by omega)
  have iy:d7 1 (aC c) (.int .i64 ((k:Int) - 1))=some (.iptr [ao (c.getD (k - 1) default)] 0):=by
   have:=dI (l:=c) (k:=k - 1) (by omega)
   rwa [show ((k - 1:Nat):Int)=(k:Int) - 1 by omega] at this
  have hcm:=fR (c.getD (k - 1) default) (c.getD k default) (hs _ (aO (by omega))) hs1
  have z2:decide (0 ≤ bi (c.getD (k - 1) default) (c.getD k default))=false:=decide_eq_false (by have:=cS a2 (i:=k - 1) (j:=k) (by omega) hk; omega)
  (have zz:=aI @ak (aI @ix (aI @iy (aI @z (aI @zk (aI @z2 @g0))))); repeat' (first|refine zW ?_|apply a_n|refine zO ?_|refine vY ?_|refine cY ?_ (hp:=by first | exact hp | exact hcm) (hs:=by (first | refine aa ?_ rfl | apply ac); (repeat' (first | exact ab | apply ag | apply ae | exact an _)); first | done | fail)|refine gTY ?_|refine cFY ?_|(refine zGY ?_ ?_ <;> (intro _hg; try (exfalso; omega)))|fail)) <;> (try clear zz)
  exact ⟨k + 1,by omega,⟨by omega,g0,hnx⟩,ag0⟩
 rintro T H nx ⟨t1,g0,hnx⟩
 (have zz:=aI @t1 @g0; repeat' (first|refine zW ?_|apply a_n|refine zO ?_|refine vY ?_|fail)) <;> (try clear zz)
 refine aD ev0 (have zz:=@t1; evZ) (qP c hok.1 (fun s hs=>⟨(hok.2 s hs).1,by have:=(hok.2 s hs).2; omega⟩) _ _) ?_
 rintro _ H1 nx1 ⟨ks,vs,rfl,hinc,hsame,hlt⟩
 have g0':H1 0=some [aC c]:=(hsame 0 (by omega)).trans g0
 (have zz:=aI @t1 (aI @g0' @ak); repeat' (first|refine zW ?_|apply a_n|refine zO ?_|refine vY ?_|fail)) <;> (try clear zz)
 refine aM (X:=Nat) (fun k=>[(1,.ptr 0 1 0),(6,.mp nx),(44,aC c),(45,.int .i64 c.length),(46,.int .i64 k)]) (fun k H' nx'=>k ≤ c.length∧H'=H1∧nx'=nx1∧∀ i,i < k→bO c (c.getD i default)=false) (fun k=>c.length - k) 0 ⟨Nat.zero_le _,rfl,rfl,fun i h=>absurd h (by omega)⟩ (have zz:=@t1; agZ) ?_
 rintro k H' nx' ⟨h1,rfl,rfl,h2⟩
 by_cases hk:k < c.length
 rotate_left
 ·rw [eh fun i hi=>h2 i (by omega),if_neg (by decide)]
  (have zz:=and_self; repeat' (first|refine zW ?_|apply a_n|apply a_x|refine zO ?_|refine vY ?_|(refine zGY ?_ ?_ <;> (intro _hg; try (exfalso; omega)))|refine ah rfl ?_|refine r1Y ?_|fail)) <;> (try clear zz)
  exact .int _ _
 have ix:=dI hk
 obtain ⟨p1,p2,p3,p4⟩:=c8 (a1 _ (aO hk))
 have hcv:=tV c (c.getD k default) hok (hok.2 _ (aO hk)) (by omega)
 have iy:=ix2 (l:=c.getD k default) (k:=0) (by omega)
 rw [show ((0:Nat):Int)=0 from rfl] at iy
 have hks:(c.getD k default).getD 0 default ∈ ks:=(hinc.dom _).2 fun e=>by
  have:k ∈ iC c c.length ((c.getD k default).getD 0 default):=List.mem_filter.2 ⟨List.mem_range.2 hk,decide_eq_true (aO (by omega))⟩
  rw [e] at this; cases this
 have hmf:=lP ((c.getD k default).getD 0 default) ks
 rw [if_pos hks] at hmf
 obtain ⟨m1,m2⟩:=iA hks
 have hr:=hinc.row _ m1
 rw [m2] at hr
 have hcb:bO c (c.getD k default)=true→c.any (bO c)=true:=fun h=>List.any_eq_true.2 ⟨_,aO hk,h⟩
 generalize hsk:c.getD k default=s at *
 (have zz:=@ix; repeat' (first|refine zW ?_|apply a_n|refine zO ?_|refine vY ?_|(refine zGY ?_ ?_ <;> (intro _hg; try (exfalso; omega)))|fail)) <;> (try clear zz)
 refine o7 0 g0' fun S hS0 hsub'=>?_
 have hsub:=hsub' H' g0'
 (have zz:=aI @hS0 @iy; repeat' (first|apply a_n|refine zO ?_|refine nvY ?_|fail)) <;> (try clear zz)
 refine fF ?_
 refine i5 ev0 hinc.box ev0 (kQ _) hmf ?_
 refine kW ⟨hsub,?_⟩
 rw [show mget .esl false (some (ks.idxOf (s.getD 0 default))) vs=vs.getD (ks.idxOf (s.getD 0 default)) .undef from rfl]
 refine gD ?_
 cases hb:bO c s
 ·rw [hb] at hcv
  refine co ev0 ev0 hcv (aa (ax (bl _ _) (ax (sD hr) (ax (an _ _) ab))) rfl) ?_
  (have zz:=and_self; repeat' (first|apply a_n|refine zO ?_|refine vY ?_|refine cFY ?_|fail)) <;> (try clear zz)
  exact ⟨k + 1,by omega,⟨by omega,rfl,rfl,fun i hi=>by
   rcases Nat.lt_succ_iff_lt_or_eq.1 hi with h' | rfl
   ·exact h2 i h'
   ·rw [hsk]; exact hb⟩,ag0⟩
 ·rw [hb] at hcv
  rw [hcb hb,if_pos rfl]
  refine co ev0 ev0 hcv (aa (ax (bl _ _) (ax (sD hr) (ax (an _ _) ab))) rfl) ?_
  (have zz:=and_self; repeat' (first|refine zW ?_|apply a_n|apply a_r|refine zO ?_|refine vY ?_|refine cTY ?_|refine ah rfl ?_|refine r1Y ?_|fail)) <;> (try clear zz)
  exact .int _ _
end Go.Proofs.YtbgdcebmgjafjaaGreat
namespace Go.Proofs.YtbgdcebmgjafjaaGreat
open Go Go.Abs
open Nat (reduceEqDiff reduceAdd reduceLeDiff)
theorem ur {c:List Spx} (h1:∀ s ∈ c,cP aV s) (h2:cP bi c) {i k:Nat} (hi:i < c.length) (hk:k < c.length) (hik:i ≠ k) (h:bw (c.getD i default) (c.getD k default)=true):bO c (c.getD i default)=true:=by
 refine jt.2 ⟨_,aO hk,x9 (h1 _ (aO hi)) (h1 _ (aO hk)) (dK.1 h) fun e=>?_,dK.1 h⟩
 rcases Nat.lt_trichotomy i k with q | q | q
 ·have:=cS h2 q hk; rw [e] at this; exact pz.ord.irr _ this
 ·exact hik q
 ·have:=cS h2 q hi; rw [e] at this; exact pz.ord.irr _ this
theorem vV {c:List Spx} {i:Nat} (h:bO c (c.getD i default)=true):∃ k,k < c.length∧i ≠ k∧bw (c.getD i default) (c.getD k default)=true:=by
 obtain ⟨t,ht,h1,h2⟩:=jt.1 h
 obtain ⟨k,hk,rfl⟩:=List.getElem_of_mem ht
 have e:c.getD k default=c[k]:=by simp [List.getD,hk]
 refine ⟨k,hk,fun hik=>?_,by rw [e]; exact dK.2 h2⟩
 subst hik
 rw [e] at h1; omega
attribute [local irreducible] aG al bg bc aN aR aE aS bf br Go.Abs.Fn aY Go.Abs.Pure aA aL Yl
set_option maxHeartbeats 2000000 in
theorem pd (c:List Spx) (hc:Shn c) (hs:∀ s ∈ c,Shn s):Pure Tryz.prog 51 [dD c] (.int .i64 (be c)):=by
 refine Pure.of_c2 follows Bx (Nat.le_of_ble_eq_true rfl) ?_
 simp only [b51,cO,cG,cN,cM,cD,cF,cB,au,aH]
 have hc':c.length ≤ 17592186044416:=hc
 by_cases h0:4096 < c.length
 ·rw [show be c=5 by unfold be; rw [if_pos h0]]
  (have zz:=aI @ak (aI @az @ar); repeat' (first|refine zW ?_|apply a_n|apply a_r|refine zO ?_|refine vZ ?_|refine bxZ ?_|(refine zGZ ?_ ?_ <;> (intro _hg; try (exfalso; omega)))|refine ah rfl ?_|refine r1Z ?_|fail)) <;> (try clear zz)
  all_goals exact bC rfl
 rw [show be c=if bU (jZ c) c.length ≠ 0 then bU (jZ c) c.length else if c.any (bO c)=true then 7 else 0 by unfold be; rw [if_neg h0]]
 refine d8 ?_
 (have zz:=aI @ak (aI @az @ar); repeat' (first|apply a_n|refine zO ?_|refine vZ ?_|refine bxZ ?_|fail)) <;> (try clear zz)
 refine d8 ?_
 (have zz:=aI @ak (aI @az @ar); repeat' (first|apply a_n|refine zO ?_|refine vZ ?_|fail)) <;> (try clear zz)
 refine d8 (d8 ?_)
 (have zz:=aI @ak (aI @az @ar); repeat' (first|apply a_n|refine zO ?_|refine vZ ?_|(refine zGZ ?_ ?_ <;> (intro _hg; try (exfalso; omega)))|fail)) <;> (try clear zz)
 by_cases hz:bU (jZ c) c.length ≠ 0
 ·rw [if_pos hz]
  (have zz:=aI @ak (aI @az @ar); repeat' (first|refine zW ?_|apply a_n|refine zO ?_|refine vZ ?_|fail)) <;> (try clear zz)
  refine aM (X:=Nat) (fun k=>[(3,aC c),(4,.int .i64 k)]) (fun k H nx=>k ≤ c.length∧∀ i,i < k→jZ c i=0) (fun k=>c.length - k) 0 ⟨Nat.zero_le _,fun i h=>absurd h (by omega)⟩ ag0 ?_
  rintro k H nx ⟨h1,h2⟩
  by_cases hk:k < c.length
  rotate_left
  ·exact absurd (cI fun i hi=>h2 i (by omega)) hz
  have ix:=dI hk
  have hs1:=hs _ (aO hk)
  have hp:=sf (c.getD k default) hs1
  have hsp:=nu (c:=c) (k:=k)
  by_cases he:bL (c.getD k default) ≠ 0
  ·rw [if_pos he] at hsp
   rw [bB hk h2 (by rw [hsp]; exact he),hsp]
   have z:decide (bL (c.getD k default) ≠ 0)=true:=decide_eq_true he
   (have zz:=aI @ak (aI @ix @z); repeat' (first|refine zW ?_|apply a_n|apply a_r|refine zO ?_|refine vY ?_|refine cY ?_ (hp:=hp) (hs:=by (first | refine aa ?_ rfl | apply ac); (repeat' (first | exact ab | apply ag | apply ae | exact an _)); first | done | fail)|refine cTY ?_|(refine zGY ?_ ?_ <;> (intro _hg; try (exfalso; omega)))|refine ah rfl ?_|refine r1Y ?_|fail)) <;> (try clear zz)
   exact .int _ _
  rw [if_neg he] at hsp
  have he:=Decidable.of_not_not he
  rw [he] at hp
  have z:decide ((0:Int) ≠ 0)=false:=rfl
  by_cases hk0:0 < k
  rotate_left
  ·rw [if_neg (fun h=>hk0 h.1)] at hsp
   have zk:decide (0 < (k:Int))=false:=decide_eq_false (by omega)
   (have zz:=aI @ak (aI @ix (aI @z @zk)); repeat' (first|refine zW ?_|refine zM ?_|apply a_n|refine zO ?_|refine vY ?_|refine cY ?_ (hp:=hp) (hs:=by (first | refine aa ?_ rfl | apply ac); (repeat' (first | exact ab | apply ag | apply ae | exact an _)); first | done | fail)|refine gFY ?_|refine cFY ?_|(refine zGY ?_ ?_ <;> (intro _hg; try (exfalso; omega)))|fail)) <;> (try clear zz)
   exact ⟨k + 1,by omega,⟨by omega,fun i hi=>by
    rcases Nat.lt_succ_iff_lt_or_eq.1 hi with h' | rfl
    ·exact h2 i h'
    ·exact hsp⟩,ag0⟩
  have zk:decide (0 < (k:Int))=true:=decide_eq_true (by omega)
  have iy:d7 1 (aC c) (.int .i64 ((k:Int) - 1))=some (.iptr [ao (c.getD (k - 1) default)] 0):=by
   have:=dI (l:=c) (k:=k - 1) (by omega)
   rwa [show ((k - 1:Nat):Int)=(k:Int) - 1 by omega] at this
  have hcm:=ef (c.getD (k - 1) default) (c.getD k default) (hs _ (aO (by omega))) hs1
  by_cases hv:0 ≤ bi (c.getD (k - 1) default) (c.getD k default)
  ·have z2:decide (0 ≤ bi (c.getD (k - 1) default) (c.getD k default))=true:=decide_eq_true hv
   rw [if_pos ⟨hk0,hv⟩] at hsp
   rw [bB hk h2 (by rw [hsp]; decide),hsp]
   (have zz:=aI @ak (aI @ix (aI @iy (aI @z (aI @zk @z2)))); repeat' (first|refine zW ?_|refine zM ?_|apply a_n|apply a_r|refine zO ?_|refine vY ?_|refine cY ?_ (hp:=by first | exact hp | exact hcm) (hs:=by (first | refine aa ?_ rfl | apply ac); (repeat' (first | exact ab | apply ag | apply ae | exact an _)); first | done | fail)|refine gTY ?_|refine cTY ?_|refine cFY ?_|(refine zGY ?_ ?_ <;> (intro _hg; try (exfalso; omega)))|refine ah rfl ?_|refine r1Y ?_|fail)) <;> (try clear zz)
   exact .int _ _
  ·have z2:decide (0 ≤ bi (c.getD (k - 1) default) (c.getD k default))=false:=decide_eq_false hv
   rw [if_neg (fun h=>hv h.2)] at hsp
   (have zz:=aI @ak (aI @ix (aI @iy (aI @z (aI @zk @z2)))); repeat' (first|refine zW ?_|refine zM ?_|apply a_n|refine zO ?_|refine vY ?_|refine cY ?_ (hp:=by first | exact hp | exact hcm) (hs:=by (first | refine aa ?_ rfl | apply ac); (repeat' (first | exact ab | apply ag | apply ae | exact an _)); first | done | fail)|refine gTY ?_|refine cFY ?_|(refine zGY ?_ ?_ <;> (intro _hg; try (exfalso; omega)))|fail)) <;> (try clear zz)
   exact ⟨k + 1,by omega,⟨by omega,fun i hi=>by
    rcases Nat.lt_succ_iff_lt_or_eq.1 hi with h' | rfl
    ·exact h2 i h'
    ·exact hsp⟩,ag0⟩
 have hz:=Decidable.of_not_not hz
 rw [if_neg (fun h=>h hz)]
 obtain ⟨a1,a2⟩:=r7 hz
 have hok:=vR (by omega) a1
 refine aQ (fun T H nx=>T 3=aC c) ?_ ?_
 ·(have zz:=aI @ak (aI @az @ar); repeat' (first|refine zW ?_|apply a_n|refine zO ?_|refine vZ ?_|fail)) <;> (try clear zz)
  refine aM (X:=Nat) (fun k=>[(3,aC c),(4,.int .i64 k)]) (fun k H nx=>k ≤ c.length) (fun k=>c.length - k) 0 (Nat.zero_le _) ag0 ?_
  rintro k H nx h1
  by_cases hk:k < c.length
  rotate_left
  ·(have zz:=@ak; repeat' (first|refine zW ?_|apply a_n|apply a_x|refine zO ?_|refine vY ?_|(refine zGY ?_ ?_ <;> (intro _hg; try (exfalso; omega)))|fail)) <;> (try clear zz)
   exact rfl
  have ix:=dI hk
  have hs1:=hs _ (aO hk)
  have hp:=sf (c.getD k default) hs1
  rw [a1 _ (aO hk)] at hp
  have z:decide ((0:Int) ≠ 0)=false:=rfl
  by_cases hk0:0 < k
  rotate_left
  ·have zk:decide (0 < (k:Int))=false:=decide_eq_false (by omega)
   (have zz:=aI @ak (aI @ix (aI @z @zk)); repeat' (first|refine zW ?_|refine zM ?_|apply a_n|refine zO ?_|refine vY ?_|refine cY ?_ (hp:=hp) (hs:=by (first | refine aa ?_ rfl | apply ac); (repeat' (first | exact ab | apply ag | apply ae | exact an _)); first | done | fail)|refine gFY ?_|refine cFY ?_|(refine zGY ?_ ?_ <;> (intro _hg; try (exfalso; omega)))|fail)) <;> (try clear zz)
   exact ⟨k + 1,by omega,by omega,ag0⟩
  have zk:decide (0 < (k:Int))=true:=decide_eq_true (by omega)
  have iy:d7 1 (aC c) (.int .i64 ((k:Int) - 1))=some (.iptr [ao (c.getD (k - 1) default)] 0):=by
   have:=dI (l:=c) (k:=k - 1) (by omega)
   rwa [show ((k - 1:Nat):Int)=(k:Int) - 1 by omega] at this
  have hcm:=ef (c.getD (k - 1) default) (c.getD k default) (hs _ (aO (by omega))) hs1
  have z2:decide (0 ≤ bi (c.getD (k - 1) default) (c.getD k default))=false:=decide_eq_false (by have:=cS a2 (i:=k - 1) (j:=k) (by omega) hk; omega)
  (have zz:=aI @ak (aI @ix (aI @iy (aI @z (aI @zk @z2)))); repeat' (first|refine zW ?_|refine zM ?_|apply a_n|refine zO ?_|refine vY ?_|refine cY ?_ (hp:=by first | exact hp | exact hcm) (hs:=by (first | refine aa ?_ rfl | apply ac); (repeat' (first | exact ab | apply ag | apply ae | exact an _)); first | done | fail)|refine gTY ?_|refine cFY ?_|(refine zGY ?_ ?_ <;> (intro _hg; try (exfalso; omega)))|fail)) <;> (try clear zz)
  exact ⟨k + 1,by omega,by omega,ag0⟩
 rintro T H nx t3
 (have zz:=@t3; repeat' (first|refine zW ?_|apply a_n|refine zO ?_|refine vY ?_|fail)) <;> (try clear zz)
 refine aM (X:=Nat) (fun k=>[(3,aC c),(6,.int .i64 k)]) (fun k H' nx'=>k ≤ c.length∧∀ i,i < k→bO c (c.getD i default)=false) (fun k=>c.length - k) 0 ⟨Nat.zero_le _,fun i h=>absurd h (by omega)⟩ (have zz:=@t3; agZ) ?_
 clear t3
 rintro i H1 nx1 ⟨h1,h2⟩
 by_cases hi:i < c.length
 rotate_left
 ·rw [eh fun i hi=>h2 i (by omega),if_neg (by decide)]
  (have zz:=@ak; repeat' (first|refine zW ?_|apply a_n|apply a_x|refine zO ?_|refine vY ?_|(refine zGY ?_ ?_ <;> (intro _hg; try (exfalso; omega)))|refine ah rfl ?_|refine r1Y ?_|fail)) <;> (try clear zz)
  exact .int _ _
 (have zz:=@ak; repeat' (first|refine zW ?_|apply a_n|refine zO ?_|refine vY ?_|(refine zGY ?_ ?_ <;> (intro _hg; try (exfalso; omega)))|fail)) <;> (try clear zz)
 refine aM (X:=Nat) (fun k=>[(3,aC c),(6,.int .i64 i),(7,.int .i64 k)]) (fun k H' nx'=>k ≤ c.length∧∀ j,j < k→i ≠ j→bw (c.getD i default) (c.getD j default)=false) (fun k=>c.length - k) 0 ⟨Nat.zero_le _,fun i h=>absurd h (by omega)⟩ ag0 ?_
 rintro k H2 nx2 ⟨k1,k2⟩
 by_cases hk:k < c.length
 rotate_left
 ·(have zz:=@ak; repeat' (first|refine zW ?_|apply a_n|apply a_x|refine zO ?_|refine vY ?_|(refine zGY ?_ ?_ <;> (intro _hg; try (exfalso; omega)))|fail)) <;> (try clear zz)
  refine ⟨i + 1,by omega,⟨by omega,fun j hj=>?_⟩,ag0⟩
  rcases Nat.lt_succ_iff_lt_or_eq.1 hj with h' | rfl
  ·exact h2 j h'
  ·cases hb:bO c (c.getD j default)
   ·rfl
   ·obtain ⟨q,q1,q2,q3⟩:=vV hb
    rw [k2 q (by omega) q2] at q3; cases q3
 have ix:=dI hi
 have iy:=dI hk
 by_cases hik:i=k
 ·have z:decide ((i:Int) ≠ (k:Int))=false:=decide_eq_false (by omega)
  (have zz:=aI @ak @z; repeat' (first|refine zW ?_|refine zM ?_|apply a_n|refine zO ?_|refine vY ?_|refine gFY ?_|refine cFY ?_|(refine zGY ?_ ?_ <;> (intro _hg; try (exfalso; omega)))|fail)) <;> (try clear zz)
  exact ⟨k + 1,by omega,⟨by omega,fun j hj hij=>k2 j (by omega) hij⟩,ag0⟩
 have z:decide ((i:Int) ≠ (k:Int))=true:=decide_eq_true (by omega)
 have hin:=pJ (c.getD i default) (c.getD k default) (hs _ (aO hi)) (hs _ (aO hk))
 have ht:=ur (fun s hs=>(hok.2 s hs).1) a2 hi hk hik
 cases hb:bw (c.getD i default) (c.getD k default)
 ·rw [hb] at hin
  (have zz:=aI @ak (aI @ix (aI @iy @z)); repeat' (first|refine zW ?_|refine zM ?_|apply a_n|refine zO ?_|refine vY ?_|refine cY ?_ (hp:=hin) (hs:=by (first | refine aa ?_ rfl | apply ac); (repeat' (first | exact ab | apply ag | apply ae | exact an _)); first | done | fail)|refine gTY ?_|refine cFY ?_|(refine zGY ?_ ?_ <;> (intro _hg; try (exfalso; omega)))|fail)) <;> (try clear zz)
  exact ⟨k + 1,by omega,⟨by omega,fun j hj hij=>by
   rcases Nat.lt_succ_iff_lt_or_eq.1 hj with h' | rfl
   ·exact k2 j h' hij
   ·exact hb⟩,ag0⟩
 ·rw [hb] at hin
  rw [if_pos (List.any_eq_true.2 ⟨_,aO hi,ht hb⟩)]
  (have zz:=aI @ak (aI @ix (aI @iy @z)); repeat' (first|refine zW ?_|refine zM ?_|apply a_n|apply a_r|refine zO ?_|refine vY ?_|refine cY ?_ (hp:=hin) (hs:=by (first | refine aa ?_ rfl | apply ac); (repeat' (first | exact ab | apply ag | apply ae | exact an _)); first | done | fail)|refine gTY ?_|refine cTY ?_|(refine zGY ?_ ?_ <;> (intro _hg; try (exfalso; omega)))|refine ah rfl ?_|refine r1Y ?_|fail)) <;> (try clear zz)
  exact .int _ _
theorem yi (c:List Spx) (s:Spx) (hc:Shn c) (hcs:∀ s ∈ c,Shn s) (hs:Shn s):Pure Tryz.prog 55 [dD c,ao s] (.bool (c.any fun t=>bw s t)):=by
 refine Pure.of_c2 follows BE (Nat.le_of_ble_eq_true rfl) ?_
 simp only [b55,cO,cG,cN,cM,cD,cF,cB,au,aH]
 have hc':c.length ≤ 17592186044416:=hc
 (have zz:=aI @ak (aI @az @ar); repeat' (first|refine zW ?_|apply a_n|refine zO ?_|refine vZ ?_|refine bxZ ?_|fail)) <;> (try clear zz)
 refine aM (X:=Nat) (fun k=>[(1,ao s),(2,.ptr 0 1 0),(5,.int .i64 k)]) (fun k H nx=>k ≤ c.length∧H 0=some [aC c]∧∀ i,i < k→bw s (c.getD i default)=false) (fun k=>c.length - k) 0 ⟨Nat.zero_le _,rfl,fun i h=>absurd h (by omega)⟩ (by (iterate 3 refine And.intro rfl ?_); trivial) ?_
 rintro k H nx ⟨h1,g0,h2⟩
 by_cases hk:k < c.length
 rotate_left
 ·rw [eh fun i hi=>h2 i (by omega)]
  (have zz:=aI @ak @g0; repeat' (first|refine zW ?_|apply a_n|apply a_x|refine zO ?_|refine vY ?_|(refine zGY ?_ ?_ <;> (intro _hg; try (exfalso; omega)))|refine ah rfl ?_|refine r1Y ?_|fail)) <;> (try clear zz)
  exact .bool _
 have ix:=dI hk
 have hin:=pJ s (c.getD k default) hs (hcs _ (aO hk))
 cases hb:bw s (c.getD k default)
 ·rw [hb] at hin
  (have zz:=aI @ak (aI @ix @g0); repeat' (first|refine zW ?_|apply a_n|refine zO ?_|refine vY ?_|refine cY ?_ (hp:=hin) (hs:=by (first | refine aa ?_ rfl | apply ac); (repeat' (first | exact ab | apply ag | apply ae | exact an _)); first | done | fail)|refine cFY ?_|(refine zGY ?_ ?_ <;> (intro _hg; try (exfalso; omega)))|fail)) <;> (try clear zz)
  exact ⟨k + 1,by omega,⟨by omega,g0,fun i hi=>by
   rcases Nat.lt_succ_iff_lt_or_eq.1 hi with h' | rfl
   ·exact h2 i h'
   ·exact hb⟩,ag0⟩
 ·rw [hb] at hin
  rw [vu hk hb]
  (have zz:=aI @ak (aI @ix @g0); repeat' (first|refine zW ?_|apply a_n|apply a_r|refine zO ?_|refine vY ?_|refine cY ?_ (hp:=hin) (hs:=by (first | refine aa ?_ rfl | apply ac); (repeat' (first | exact ab | apply ag | apply ae | exact an _)); first | done | fail)|refine cTY ?_|(refine zGY ?_ ?_ <;> (intro _hg; try (exfalso; omega)))|refine ah rfl ?_|refine r1Y ?_|fail)) <;> (try clear zz)
  exact .bool _
theorem ya (a b:Spx) (ha:a.length ≤ 400000) (hb:b.length ≤ 400000):Pure Tryz.prog 90 [ao a,ao b] (ao (eU aV a b)):=by
 refine Pure.of_c2 follows BW (Nat.le_of_ble_eq_true rfl) ?_
 simp only [b90,cO,cG,cN,cM,cD,cF,cB,au,aH]
 (have zz:=and_self; repeat' (first|refine zW ?_|apply a_n|refine zO ?_|refine vZ ?_|refine b0Z ?_|fail)) <;> (try clear zz)
 refine cH rfl ev0 Row.nil ev0 qd (io _) (ci _) (by omega) (by simp; omega) (by simp; omega) ?_
 rintro s1 H1 nx1 hr1 i1 i2 i3 i4
 rw [List.nil_append] at hr1
 (have zz:=and_self; repeat' (first|refine zW ?_|apply a_n|refine zO ?_|refine vZ ?_|fail)) <;> (try clear zz)
 refine n8 (X:=Nat) (fun k=>[(1,ao b),(5,ao (eU aV a (b.take k))),(6,.int .i64 k)]) (fun k H nx=>k ≤ b.length) (fun k=>b.length - k) 0 ⟨H1,a9,Fz.all,Nat.zero_le _,.inl ev0,.inr (by ((try simp only [bP,ZA,reduceEqDiff,↓reduceIte,reduceAdd,reduceLeDiff]); (try with_reducible rfl)); exact ik hr1),.inl rfl,trivial⟩ ?_
 rintro k H nx h1
 by_cases hk:k < b.length
 rotate_left
 ·rw [List.take_of_length_le (by omega)]
  (have zz:=@ai; repeat' (first|refine zW ?_|apply a_n|apply a_x|refine zO ?_|refine vY ?_|(refine zGY ?_ ?_ <;> (intro _hg; try (exfalso; omega)))|refine ah rfl ?_|refine r1Y ?_|fail)) <;> (try clear zz)
  exact an _ _
 have ix:=ix2 hk
 have hp:=xS (eU aV a (b.take k)) (b.getD k default) (by have:=jB (K:=aV) (acc:=a) (l:=b.take k); rw [List.length_take] at this; omega)
 have e:eU aV a (b.take (k + 1))=e7 aV (eU aV a (b.take k)) (b.getD k default):=by rw [bt hk,oz]
 (have zz:=aI @ai @ix; repeat' (first|refine zW ?_|apply a_n|refine zO ?_|refine vY ?_|refine cY ?_ (hp:=hp) (hs:=by (first | refine aa ?_ rfl | apply ac); (repeat' (first | exact ab | apply ag | apply ae | exact an _ | exact aP _)); first | done | fail)|(refine zGY ?_ ?_ <;> (intro _hg; try (exfalso; omega)))|fail)) <;> (try clear zz)
 exact ⟨k + 1,by omega,_,_,Fz.none,by omega,eo (have zz:=@e; agZ)⟩
end Go.Proofs.YtbgdcebmgjafjaaGreat
namespace Go.Proofs.YtbgdcebmgjafjaaGreat
open Go Go.Abs
structure MapV where
 fr:Spx
 to:Spx
 deriving Inhabited,DecidableEq
abbrev eD (m:MapV):AV:=.agg [ao m.fr,ao m.to]
theorem aW (m:MapV):Dat (eD m):=Dat.agg (DatL.cons (an _) (DatL.cons (an _) DatL.nil))
instance datI_encM {m:MapV}:DatI (eD m):=⟨aW m⟩
abbrev ShM (m:MapV):Prop:=Shn m.fr∧Shn m.to
def me (m:MapV) (k:Nat):Int:=if bu (m.fr.getD k default)=false ∨ bu (m.to.getD k default)=false then 2 else if 0 < k∧0 ≤ aV (m.fr.getD (k - 1) default) (m.fr.getD k default) then 14 else 0
def cT (m:MapV):Int:=if 4096 < m.fr.length then 5 else if m.to.length ≠ m.fr.length then 15 else bU (me m) m.fr.length
theorem go {m:MapV} (h:cT m=0):m.fr.length ≤ 4096∧m.to.length=m.fr.length∧cP aV m.fr∧(∀ v ∈ m.fr,bu v=true)∧∀ v ∈ m.to,bu v=true:=by
 unfold cT at h
 split at h
 ·exact absurd h (by decide)
 split at h
 ·exact absurd h (by decide)
 rename_i h1 h2
 have h2:=Decidable.of_not_not h2
 have hz:=e5 h
 have h3:∀ k,k < m.fr.length→(bu (m.fr.getD k default)=true∧bu (m.to.getD k default)=true)∧(0 < k→aV (m.fr.getD (k - 1) default) (m.fr.getD k default) < 0):=fun k hk=>by
  have:=hz k hk
  unfold me at this
  split at this
  ·exact absurd this (by decide)
  rename_i g1
  split at this
  ·exact absurd this (by decide)
  rename_i g2
  exact ⟨⟨by cases hr:bu (m.fr.getD k default) with
   | true=>rfl
   | false=>exact absurd (.inl hr) g1,by cases hr:bu (m.to.getD k default) with
   | true=>rfl
   | false=>exact absurd (.inr hr) g1⟩,fun h0=>by omega⟩
 refine ⟨by omega,h2,?_,fun v hv=>?_,fun v hv=>?_⟩
 ·have step:∀ j i,i < j→j < m.fr.length→aV (m.fr.getD i default) (m.fr.getD j default) < 0:=by
    intro j
    induction j with
    | zero=>intro i h; omega
    | succ j ih =>
     intro i hi hj
     have hs:=(h3 (j + 1) hj).2 (by omega)
     rw [Nat.add_sub_cancel] at hs
     by_cases e:i=j
     ·subst e; exact hs
     ·exact nF.trans (ih i (by omega) (by omega)) hs
  unfold cP
  rw [List.pairwise_iff_getElem]
  intro i j hi hj hij
  have:=step j i hij hj
  simpa [List.getD,hi,hj] using this
 ·obtain ⟨i,hi,rfl⟩:=List.getElem_of_mem hv
  have:=(h3 i hi).1.1
  simpa [List.getD,hi] using this
 ·obtain ⟨i,hi,rfl⟩:=List.getElem_of_mem hv
  have:=(h3 i (by omega)).1.2
  simpa [List.getD,hi] using this
def de (m:MapV) (v:Vtx):Vtx:=m.to.getD (m.fr.idxOf v) default
def sO (m:MapV):Bool:=decide (m.fr.length ≤ 40) && decide (m.to.length ≤ 40)
theorem lY {m:MapV} {k:Nat}:me m k=if bu (m.fr.getD k default)=false ∨ bu (m.to.getD k default)=false then 2 else if 0 < k∧0 ≤ aV (m.fr.getD (k - 1) default) (m.fr.getD k default) then 14 else 0:=rfl
attribute [local irreducible] aG al bg bc aN aR aE aS bf br Go.Abs.Fn aY Go.Abs.Pure aA aL Yl
theorem qv (m:MapV) (hm:ShM m):Pure Tryz.prog 34 [eD m] (.int .i64 (cT m)):=by
 refine Pure.of_c2 follows zy (Nat.le_of_ble_eq_true rfl) ?_
 simp only [b34,cO,cG,cN,cM,cD,cF,cB,au,aH]
 obtain ⟨hm1,hm2⟩:=hm
 have hm1':m.fr.length ≤ 17592186044416:=hm1
 have hm2':m.to.length ≤ 17592186044416:=hm2
 by_cases h0:4096 < m.fr.length
 ·rw [show cT m=5 by unfold cT; rw [if_pos h0]]
  (have zz:=aI @ai (aI @ay @ap); repeat' (first|refine zW ?_|apply a_n|apply a_r|refine zO ?_|refine vZ ?_|refine bxZ ?_|(refine zGZ ?_ ?_ <;> (intro _hg; try (exfalso; omega)))|refine ah rfl ?_|refine r1Z ?_|fail)) <;> (try clear zz)
  all_goals exact bC rfl
 by_cases h8:m.to.length ≠ m.fr.length
 ·rw [show cT m=15 by unfold cT; rw [if_neg h0,if_pos h8]]
  have z:decide ((m.to.length:Int) ≠ m.fr.length)=true:=decide_eq_true (by omega)
  (have zz:=aI @ai (aI @ay (aI @ap @z)); repeat' (first|refine zW ?_|apply a_n|apply a_r|refine zO ?_|refine vZ ?_|refine bxZ ?_|refine cTZ ?_|(refine zGZ ?_ ?_ <;> (intro _hg; try (exfalso; omega)))|refine ah rfl ?_|refine r1Z ?_|fail)) <;> (try clear zz)
  all_goals exact bC rfl
 rw [show cT m=bU (me m) m.fr.length by unfold cT; rw [if_neg h0,if_neg h8]]
 have h8':=Decidable.of_not_not h8
 have z:decide ((m.to.length:Int) ≠ m.fr.length)=false:=decide_eq_false (by omega)
 (have zz:=aI @ai (aI @ay (aI @ap @z)); repeat' (first|refine zW ?_|apply a_n|refine zO ?_|refine vZ ?_|refine bxZ ?_|refine cFZ ?_|(refine zGZ ?_ ?_ <;> (intro _hg; try (exfalso; omega)))|fail)) <;> (try clear zz)
 refine aM (X:=Nat) (fun k=>[(1,.ptr 0 2 0),(19,ao m.fr),(20,.int .i64 m.fr.length),(21,.int .i64 k)]) (fun k H nx=>k ≤ m.fr.length∧H 0=some [ao m.fr,ao m.to]∧1 ≤ nx∧∀ i,i < k→me m i=0) (fun k=>m.fr.length - k) 0 ⟨Nat.zero_le _,rfl,by omega,fun i h=>absurd h (by omega)⟩ (by (iterate 4 refine And.intro rfl ?_); trivial) ?_
 rintro k H nx ⟨h1,g0,hnx,h2⟩
 by_cases hk:k < m.fr.length
 rotate_left
 ·rw [cI fun i hi=>h2 i (by omega)]
  (have zz:=@ai; repeat' (first|refine zW ?_|apply a_n|apply a_x|refine zO ?_|refine vY ?_|(refine zGY ?_ ?_ <;> (intro _hg; try (exfalso; omega)))|refine ah rfl ?_|refine r1Y ?_|fail)) <;> (try clear zz)
  exact .int _ _
 have ix:=ix2 hk
 have it:=ix2 (l:=m.to) (k:=k) (by omega)
 have hp:=qT (m.fr.getD k default)
 have hq:=qT (m.to.getD k default)
 have hs:=lY (m:=m) (k:=k)
 have done:me m k=0→∀ i,i < k + 1→me m i=0:=fun h i hi=>by
  rcases Nat.lt_succ_iff_lt_or_eq.1 hi with h' | rfl
  ·exact h2 i h'
  ·exact h
 cases hr:bu (m.fr.getD k default)
 ·rw [hr] at hp
  rw [if_pos (.inl hr)] at hs
  rw [bB hk h2 (by rw [hs]; decide),hs]
  (have zz:=aI @ai (aI @ix (aI @it @g0)); repeat' (first|refine zW ?_|apply a_n|apply a_r|refine zO ?_|refine vY ?_|refine cY ?_ (hp:=hp) (hs:=by (first | refine aa ?_ rfl | apply ac); (repeat' (first | exact ab | apply ag | apply ae | exact aP _)); first | done | fail)|refine alY ?_|refine stY ?_|refine gFY ?_|refine cTY ?_|(refine zGY ?_ ?_ <;> (intro _hg; try (exfalso; omega)))|refine ah rfl ?_|refine r1Y ?_|fail)) <;> (try clear zz)
  exact .int _ _
 rw [hr] at hp
 cases hr2:bu (m.to.getD k default)
 ·rw [hr2] at hq
  rw [if_pos (.inr hr2)] at hs
  rw [bB hk h2 (by rw [hs]; decide),hs]
  (have zz:=aI @ai (aI @ix (aI @it @g0)); repeat' (first|refine zW ?_|apply a_n|apply a_r|refine zO ?_|refine vY ?_|refine cY ?_ (hp:=by first | exact hp | exact hq) (hs:=by (first | refine aa ?_ rfl | apply ac); (repeat' (first | exact ab | apply ag | apply ae | exact aP _)); first | done | fail)|refine alY ?_|refine stY ?_|refine gTY ?_|refine cTY ?_|(refine zGY ?_ ?_ <;> (intro _hg; try (exfalso; omega)))|refine ah rfl ?_|refine r1Y ?_|fail)) <;> (try clear zz)
  exact .int _ _
 rw [hr2] at hq
 rw [if_neg (by rw [hr,hr2]; rintro (h | h) <;> cases h)] at hs
 have gk:∀ {cs:List AV},am H nx cs 0=some [ao m.fr,ao m.to]:=fun {cs}=>by rw [af (by omega)]; exact g0
 by_cases hk0:0 < k
 rotate_left
 ·rw [if_neg (fun h=>hk0 h.1)] at hs
  have zk:decide (0 < (k:Int))=false:=decide_eq_false (by omega)
  (have zz:=aI @ai (aI @ix (aI @it (aI @zk @g0))); repeat' (first|refine zW ?_|refine zM ?_|apply a_n|refine zO ?_|refine vY ?_|refine cY ?_ (hp:=by first | exact hp | exact hq) (hs:=by (first | refine aa ?_ rfl | apply ac); (repeat' (first | exact ab | apply ag | apply ae | exact aP _)); first | done | fail)|refine alY ?_|refine stY ?_|refine gTY ?_|refine gFY ?_|refine cFY ?_|(refine zGY ?_ ?_ <;> (intro _hg; try (exfalso; omega)))|fail)) <;> (try clear zz)
  exact ⟨k + 1,by omega,⟨by omega,by (repeat rw [af (by omega)]); exact g0,by omega,done hs⟩,ag0⟩
 have zk:decide (0 < (k:Int))=true:=decide_eq_true (by omega)
 have iy:d7 2 (ao m.fr) (.int .i64 ((k:Int) - 1))=some (.iptr [.int .i64 (m.fr.getD (k - 1) default).color,.int .i64 (m.fr.getD (k - 1) default).label] 0):=by
  have:=ix2 (l:=m.fr) (k:=k - 1) (by omega)
  rwa [show ((k - 1:Nat):Int)=(k:Int) - 1 by omega] at this
 have hc:=nD (m.fr.getD (k - 1) default) (m.fr.getD k default)
 by_cases hv:0 ≤ aV (m.fr.getD (k - 1) default) (m.fr.getD k default)
 ·have z:decide (0 ≤ aV (m.fr.getD (k - 1) default) (m.fr.getD k default))=true:=decide_eq_true hv
  rw [if_pos ⟨hk0,hv⟩] at hs
  rw [bB hk h2 (by rw [hs]; decide),hs]
  (have zz:=aI @ai (aI @ix (aI @it (aI @iy (aI @zk (aI @z @g0))))); repeat' (first|refine zW ?_|refine zM ?_|apply a_n|apply a_r|refine zO ?_|refine vY ?_|refine cY ?_ (hp:=by first | exact hp | exact hq | exact hc) (hs:=by (first | refine aa ?_ rfl | apply ac); (repeat' (first | exact ab | apply ag | apply ae | exact aP _)); first | done | fail)|refine alY ?_|refine stY ?_|refine gTY ?_|refine cTY ?_|refine cFY ?_|(refine zGY ?_ ?_ <;> (intro _hg; try (exfalso; omega)))|refine ah rfl ?_|refine r1Y ?_|fail)) <;> (try clear zz)
  exact .int _ _
 ·have z:decide (0 ≤ aV (m.fr.getD (k - 1) default) (m.fr.getD k default))=false:=decide_eq_false hv
  rw [if_neg (fun h=>hv h.2)] at hs
  (have zz:=aI @ai (aI @ix (aI @it (aI @iy (aI @zk (aI @z @g0))))); repeat' (first|refine zW ?_|refine zM ?_|apply a_n|refine zO ?_|refine vY ?_|refine cY ?_ (hp:=by first | exact hp | exact hq | exact hc) (hs:=by (first | refine aa ?_ rfl | apply ac); (repeat' (first | exact ab | apply ag | apply ae | exact aP _)); first | done | fail)|refine alY ?_|refine stY ?_|refine gTY ?_|refine cFY ?_|(refine zGY ?_ ?_ <;> (intro _hg; try (exfalso; omega)))|fail)) <;> (try clear zz)
  exact ⟨k + 1,by omega,⟨by omega,by (repeat rw [af (by omega)]); exact g0,by omega,done hs⟩,ag0⟩
theorem oT (m:MapV) (hm:ShM m):Pure Tryz.prog 50 [eD m] (.int .i64 (cT m)):=by
 refine Pure.of_c2 follows BM (Nat.le_of_ble_eq_true rfl) ?_
 simp only [b50,cO,cG,cN,cM,cD,cF,cB,au,aH]
 obtain ⟨hm1,hm2⟩:=hm
 have hm1':m.fr.length ≤ 17592186044416:=hm1
 have hm2':m.to.length ≤ 17592186044416:=hm2
 by_cases h0:4096 < m.fr.length
 ·rw [show cT m=5 by unfold cT; rw [if_pos h0]]
  (have zz:=aI @ai (aI @ay @ap); repeat' (first|refine zW ?_|apply a_n|apply a_r|refine zO ?_|refine vZ ?_|refine bxZ ?_|(refine zGZ ?_ ?_ <;> (intro _hg; try (exfalso; omega)))|refine ah rfl ?_|refine r1Z ?_|fail)) <;> (try clear zz)
  all_goals exact bC rfl
 by_cases h8:m.to.length ≠ m.fr.length
 ·rw [show cT m=15 by unfold cT; rw [if_neg h0,if_pos h8]]
  have z:decide ((m.to.length:Int) ≠ m.fr.length)=true:=decide_eq_true (by omega)
  (have zz:=aI @ai (aI @ay (aI @ap @z)); repeat' (first|refine zW ?_|apply a_n|apply a_r|refine zO ?_|refine vZ ?_|refine bxZ ?_|refine cTZ ?_|(refine zGZ ?_ ?_ <;> (intro _hg; try (exfalso; omega)))|refine ah rfl ?_|refine r1Z ?_|fail)) <;> (try clear zz)
  all_goals exact bC rfl
 rw [show cT m=bU (me m) m.fr.length by unfold cT; rw [if_neg h0,if_neg h8]]
 have h8':=Decidable.of_not_not h8
 have z:decide ((m.to.length:Int) ≠ m.fr.length)=false:=decide_eq_false (by omega)
 (have zz:=aI @ai (aI @ay (aI @ap @z)); repeat' (first|refine zW ?_|apply a_n|refine zO ?_|refine vZ ?_|refine bxZ ?_|refine cFZ ?_|(refine zGZ ?_ ?_ <;> (intro _hg; try (exfalso; omega)))|fail)) <;> (try clear zz)
 refine aM (X:=Nat) (fun k=>[(1,.ptr 0 2 0),(3,.int .i64 k)]) (fun k H nx=>k ≤ m.fr.length∧H 0=some [ao m.fr,ao m.to]∧1 ≤ nx∧∀ i,i < k→me m i=0) (fun k=>m.fr.length - k) 0 ⟨Nat.zero_le _,rfl,by omega,fun i h=>absurd h (by omega)⟩ (by (iterate 2 refine And.intro rfl ?_); trivial) ?_
 rintro k H nx ⟨h1,g0,hnx,h2⟩
 by_cases hk:k < m.fr.length
 rotate_left
 ·rw [cI fun i hi=>h2 i (by omega)]
  (have zz:=aI @ai @g0; repeat' (first|refine zW ?_|apply a_n|apply a_x|refine zO ?_|refine vY ?_|(refine zGY ?_ ?_ <;> (intro _hg; try (exfalso; omega)))|refine ah rfl ?_|refine r1Y ?_|fail)) <;> (try clear zz)
  exact .int _ _
 have ix:=ix2 hk
 have it:=ix2 (l:=m.to) (k:=k) (by omega)
 have hp:=ky (m.fr.getD k default)
 have hq:=ky (m.to.getD k default)
 have hs:=lY (m:=m) (k:=k)
 have done:me m k=0→∀ i,i < k + 1→me m i=0:=fun h i hi=>by
  rcases Nat.lt_succ_iff_lt_or_eq.1 hi with h' | rfl
  ·exact h2 i h'
  ·exact h
 cases hr:bu (m.fr.getD k default)
 ·rw [hr] at hp
  rw [if_pos (.inl hr)] at hs
  rw [bB hk h2 (by rw [hs]; decide),hs]
  (have zz:=aI @ai (aI @ix (aI @it @g0)); repeat' (first|refine zW ?_|apply a_n|apply a_r|refine zO ?_|refine vY ?_|refine cY ?_ (hp:=hp) (hs:=by (first | refine aa ?_ rfl | apply ac); (repeat' (first | exact ab | apply ag | apply ae | exact aP _)); first | done | fail)|refine gFY ?_|refine cTY ?_|(refine zGY ?_ ?_ <;> (intro _hg; try (exfalso; omega)))|refine ah rfl ?_|refine r1Y ?_|fail)) <;> (try clear zz)
  exact .int _ _
 rw [hr] at hp
 cases hr2:bu (m.to.getD k default)
 ·rw [hr2] at hq
  rw [if_pos (.inr hr2)] at hs
  rw [bB hk h2 (by rw [hs]; decide),hs]
  (have zz:=aI @ai (aI @ix (aI @it @g0)); repeat' (first|refine zW ?_|apply a_n|apply a_r|refine zO ?_|refine vY ?_|refine cY ?_ (hp:=by first | exact hp | exact hq) (hs:=by (first | refine aa ?_ rfl | apply ac); (repeat' (first | exact ab | apply ag | apply ae | exact aP _)); first | done | fail)|refine gTY ?_|refine cTY ?_|(refine zGY ?_ ?_ <;> (intro _hg; try (exfalso; omega)))|refine ah rfl ?_|refine r1Y ?_|fail)) <;> (try clear zz)
  exact .int _ _
 rw [hr2] at hq
 rw [if_neg (by rw [hr,hr2]; rintro (h | h) <;> cases h)] at hs
 by_cases hk0:0 < k
 rotate_left
 ·rw [if_neg (fun h=>hk0 h.1)] at hs
  have zk:decide (0 < (k:Int))=false:=decide_eq_false (by omega)
  (have zz:=aI @ai (aI @ix (aI @it (aI @zk @g0))); repeat' (first|refine zW ?_|refine zM ?_|apply a_n|refine zO ?_|refine vY ?_|refine cY ?_ (hp:=by first | exact hp | exact hq) (hs:=by (first | refine aa ?_ rfl | apply ac); (repeat' (first | exact ab | apply ag | apply ae | exact aP _)); first | done | fail)|refine gTY ?_|refine gFY ?_|refine cFY ?_|(refine zGY ?_ ?_ <;> (intro _hg; try (exfalso; omega)))|fail)) <;> (try clear zz)
  exact ⟨k + 1,by omega,⟨by omega,g0,by omega,done hs⟩,ag0⟩
 have zk:decide (0 < (k:Int))=true:=decide_eq_true (by omega)
 have iy:d7 2 (ao m.fr) (.int .i64 ((k:Int) - 1))=some (.iptr [.int .i64 (m.fr.getD (k - 1) default).color,.int .i64 (m.fr.getD (k - 1) default).label] 0):=by
  have:=ix2 (l:=m.fr) (k:=k - 1) (by omega)
  rwa [show ((k - 1:Nat):Int)=(k:Int) - 1 by omega] at this
 have hc:=gu (m.fr.getD (k - 1) default) (m.fr.getD k default)
 by_cases hv:0 ≤ aV (m.fr.getD (k - 1) default) (m.fr.getD k default)
 ·have z:decide (0 ≤ aV (m.fr.getD (k - 1) default) (m.fr.getD k default))=true:=decide_eq_true hv
  rw [if_pos ⟨hk0,hv⟩] at hs
  rw [bB hk h2 (by rw [hs]; decide),hs]
  (have zz:=aI @ai (aI @ix (aI @it (aI @iy (aI @zk (aI @z @g0))))); repeat' (first|refine zW ?_|refine zM ?_|apply a_n|apply a_r|refine zO ?_|refine vY ?_|refine cY ?_ (hp:=by first | exact hp | exact hq | exact hc) (hs:=by (first | refine aa ?_ rfl | apply ac); (repeat' (first | exact ab | apply ag | apply ae | exact aP _)); first | done | fail)|refine gTY ?_|refine cTY ?_|refine cFY ?_|(refine zGY ?_ ?_ <;> (intro _hg; try (exfalso; omega)))|refine ah rfl ?_|refine r1Y ?_|fail)) <;> (try clear zz)
  exact .int _ _
 ·have z:decide (0 ≤ aV (m.fr.getD (k - 1) default) (m.fr.getD k default))=false:=decide_eq_false hv
  rw [if_neg (fun h=>hv h.2)] at hs
  (have zz:=aI @ai (aI @ix (aI @it (aI @iy (aI @zk (aI @z @g0))))); repeat' (first|refine zW ?_|refine zM ?_|apply a_n|refine zO ?_|refine vY ?_|refine cY ?_ (hp:=by first | exact hp | exact hq | exact hc) (hs:=by (first | refine aa ?_ rfl | apply ac); (repeat' (first | exact ab | apply ag | apply ae | exact aP _)); first | done | fail)|refine gTY ?_|refine cFY ?_|(refine zGY ?_ ?_ <;> (intro _hg; try (exfalso; omega)))|fail)) <;> (try clear zz)
  exact ⟨k + 1,by omega,⟨by omega,g0,by omega,done hs⟩,ag0⟩
theorem wh (m:MapV) (hm:ShM m):Pure Tryz.prog 9 [eD m] (.bool (sO m)):=by
 refine Pure.of_c2 follows is9 (Nat.le_of_ble_eq_true rfl) ?_
 simp only [b9,cO,cG,cN,cM,cD,cF,cB,au,aH]
 unfold sO
 (have zz:=aI @ai (aI @ay @ap); repeat' (first|refine zW ?_|apply a_n|refine zO ?_|refine vZ ?_|refine bxZ ?_|refine gTZ ?_|refine gFZ ?_|(refine zGZ ?_ ?_ <;> (intro _hg; try (exfalso; omega)))|refine ah rfl ?_|refine r1Z ?_|fail)) <;> (try clear zz)
 all_goals (refine bj ?_; rw [Bool.eq_iff_iff]; simp only [Bool.and_eq_true,decide_eq_true_iff,Bool.false_eq_true,false_iff]; omega)
theorem fc {H:Hp} {a b:Bool} {e f:Int} (h1:a=b) (h2:e=f):Snap H (.tup [.bool a,.int .i64 e]) (.tup [.bool b,.int .i64 f]):=by
 subst h1 h2; exact fi (ax (.bool _) (ax (.int _ _) ab))
theorem yB {l:Spx} {v:Vtx} {k:Nat} (hk:k < l.length) (h:∀ i,i < k→l.getD i default ≠ v) (hv:l.getD k default=v):v ∈ l∧l.idxOf v=k:=by
 have e:l.getD k default=l[k]:=by simp [List.getD,hk]
 have hm:v ∈ l:=by rw [← hv,e]; exact List.getElem_mem hk
 refine ⟨hm,?_⟩
 have h1:l.idxOf v ≤ k:=by
  by_cases hlt:l.idxOf v ≤ k
  ·exact hlt
  ·exfalso
   have:=List.not_of_lt_findIdx (xs:=l) (p:=(· == v)) (i:=k) (by simp only [List.idxOf] at hlt; omega)
   rw [← e,hv] at this; simp at this
 have h2:k ≤ l.idxOf v:=by
  by_cases hlt:k ≤ l.idxOf v
  ·exact hlt
  ·exfalso
   have hi:=List.idxOf_lt_length_iff.2 hm
   have:=h (l.idxOf v) (by omega)
   apply this
   simp [List.getD,hi]
 omega
theorem mc (m:MapV) (v:Vtx) (hm:ShM m):Pure Tryz.prog 56 [eD m,bh v] (.int .i64 (if v ∈ m.fr then (m.fr.idxOf v:Nat) else -1)):=by
 refine Pure.of_c2 follows BZ (Nat.le_of_ble_eq_true rfl) ?_
 simp only [b56,cO,cG,cN,cM,cD,cF,cB,au,aH]
 have hm1':m.fr.length ≤ 17592186044416:=hm.1
 (have zz:=aI @ai (aI @ay @ap); repeat' (first|refine zW ?_|apply a_n|refine zO ?_|refine vZ ?_|refine bxZ ?_|fail)) <;> (try clear zz)
 refine aM (X:=Nat) (fun k=>[(2,.ptr 0 2 0),(3,.ptr 1 2 0),(5,.int .i64 k)]) (fun k H nx=>k ≤ m.fr.length∧H 0=some [ao m.fr,ao m.to]∧H 1=some [.int .i64 v.color,.int .i64 v.label]∧∀ i,i < k→m.fr.getD i default ≠ v) (fun k=>m.fr.length - k) 0 ⟨Nat.zero_le _,rfl,rfl,fun i h=>absurd h (by omega)⟩ (by (iterate 3 refine And.intro rfl ?_); trivial) ?_
 rintro k H nx ⟨h1,g0,g1,h2⟩
 by_cases hk:k < m.fr.length
 rotate_left
 ·(have zz:=aI @ai @g0; repeat' (first|refine zW ?_|apply a_n|apply a_x|refine zO ?_|refine vY ?_|(refine zGY ?_ ?_ <;> (intro _hg; try (exfalso; omega)))|refine ah rfl ?_|refine r1Y ?_|fail)) <;> (try clear zz)
  refine bC ?_
  rw [if_neg]
  intro hmem
  obtain ⟨i,hi,e⟩:=List.getElem_of_mem hmem
  exact h2 i (by omega) (by simp [List.getD,hi,e])
 have ix:=ix2 hk
 have hd:=gx (m.fr.getD k default) v
 by_cases he:m.fr.getD k default=v
 ·rw [decide_eq_true he] at hd
  obtain ⟨e1,e2⟩:=yB hk h2 he
  rw [if_pos e1,e2]
  (have zz:=aI @ai (aI @ix (aI @g0 (aI @g1 (aI @acq @hd)))); repeat' (first|refine zW ?_|apply a_n|apply a_r|refine zO ?_|refine vY ?_|refine cTY ?_|(refine zGY ?_ ?_ <;> (intro _hg; try (exfalso; omega)))|refine ah rfl ?_|refine r1Y ?_|fail)) <;> (try clear zz)
  exact .int _ _
 ·rw [decide_eq_false he] at hd
  (have zz:=aI @ai (aI @ix (aI @g0 (aI @g1 (aI @acq @hd)))); repeat' (first|refine zW ?_|apply a_n|refine zO ?_|refine vY ?_|refine cFY ?_|(refine zGY ?_ ?_ <;> (intro _hg; try (exfalso; omega)))|fail)) <;> (try clear zz)
  exact ⟨k + 1,by omega,⟨by omega,g0,g1,fun i hi=>by
   rcases Nat.lt_succ_iff_lt_or_eq.1 hi with h' | rfl
   ·exact h2 i h'
   ·exact he⟩,ag0⟩
def bD (m:MapV) (l:Spx):Bool:=l.all fun v=>decide (v ∈ m.fr)
theorem qR (m:MapV) (l:Spx) (hm:ShM m) (hl:Shn l):Pure Tryz.prog 52 [eD m,ao l] (.bool (bD m l)):=by
 refine Pure.of_c2 follows B2 (Nat.le_of_ble_eq_true rfl) ?_
 simp only [b52,cO,cG,cN,cM,cD,cF,cB,au,aH]
 have hl':l.length ≤ 17592186044416:=hl
 (have zz:=aI @ai (aI @ay @ap); repeat' (first|refine zW ?_|apply a_n|refine zO ?_|refine vZ ?_|refine bxZ ?_|fail)) <;> (try clear zz)
 refine aM (X:=Nat) (fun k=>[(1,ao l),(2,.ptr 0 2 0),(5,.int .i64 k)]) (fun k H nx=>k ≤ l.length∧H 0=some [ao m.fr,ao m.to]∧∀ i,i < k→decide (l.getD i default ∈ m.fr)=true) (fun k=>l.length - k) 0 ⟨Nat.zero_le _,rfl,fun i h=>absurd h (by omega)⟩ (by (iterate 3 refine And.intro rfl ?_); trivial) ?_
 rintro k H nx ⟨h1,g0,h2⟩
 by_cases hk:k < l.length
 rotate_left
 ·(have zz:=aI @ai @g0; repeat' (first|refine zW ?_|apply a_n|apply a_x|refine zO ?_|refine vY ?_|(refine zGY ?_ ?_ <;> (intro _hg; try (exfalso; omega)))|refine ah rfl ?_|refine r1Y ?_|fail)) <;> (try clear zz)
  exact bj (eA fun i hi=>h2 i (by omega)).symm
 have ix:=ix2 hk
 have hc:=mc m (l.getD k default) hm
 cases hd:decide (l.getD k default ∈ m.fr)
 ·rw [if_neg (of_decide_eq_false hd)] at hc
  rw [show bD m l=false from dM hk hd]
  (have zz:=aI @ai (aI @ix @g0); repeat' (first|refine zW ?_|refine zM ?_|apply a_n|apply a_r|refine zO ?_|refine vY ?_|refine cY ?_ (hp:=hc) (hs:=by (first | refine aa ?_ rfl | apply ac); (repeat' (first | exact ab | apply ag | apply ae | exact aW _ | exact aP _)); first | done | fail)|(refine zGY ?_ ?_ <;> (intro _hg; try (exfalso; omega)))|refine ah rfl ?_|refine r1Y ?_|fail)) <;> (try clear zz)
  exact .bool _
 ·rw [if_pos (of_decide_eq_true hd)] at hc
  have z:decide (((m.fr.idxOf (l.getD k default):Nat):Int) < 0)=false:=decide_eq_false (by omega)
  (have zz:=aI @ai (aI @ix (aI @g0 @z)); repeat' (first|refine zW ?_|refine zM ?_|apply a_n|refine zO ?_|refine vY ?_|refine cY ?_ (hp:=hc) (hs:=by (first | refine aa ?_ rfl | apply ac); (repeat' (first | exact ab | apply ag | apply ae | exact aW _ | exact aP _)); first | done | fail)|refine cFY ?_|(refine zGY ?_ ?_ <;> (intro _hg; try (exfalso; omega)))|fail)) <;> (try clear zz)
  exact ⟨k + 1,by omega,⟨by omega,g0,fun i hi=>by
   rcases Nat.lt_succ_iff_lt_or_eq.1 hi with h' | rfl
   ·exact h2 i h'
   ·exact hd⟩,ag0⟩
end Go.Proofs.YtbgdcebmgjafjaaGreat
namespace Go.Proofs.YtbgdcebmgjafjaaGreat
open Go Go.Abs
def bZ (m:MapV) (l:Spx):Spx:=fS aV (l.map (de m))
theorem wN {l:Spx} {v:Vtx} (h:v ∈ l):e7 aV l v=l:=by unfold e7; rw [if_pos h]
def c7 (c:List Spx):Spx:=c.foldl (eU aV) []
theorem qG {c:List Spx} {s:Spx}:c7 (c ++ [s])=eU aV (c7 c) s:=by unfold c7; rw [List.foldl_append]; rfl
theorem iX {n:Nat}:∀ (c:List Spx) (acc:Spx),(∀ s ∈ c,s.length ≤ n)→(c.foldl (eU aV) acc).length ≤ acc.length + c.length * n
 | [],acc,_=>by simp
 | s :: c,acc,h=>by
  rw [List.foldl_cons]
  have h1:=iX c (eU aV acc s) fun s hs=>h s (List.mem_cons_of_mem _ hs)
  have h2:=jB (K:=aV) (acc:=acc) (l:=s)
  have h3:=h s List.mem_cons_self
  rw [List.length_cons,Nat.add_mul,Nat.one_mul]; omega
theorem ni {v:Vtx}:∀ (c:List Spx) (acc:Spx),v ∈ c.foldl (eU aV) acc ↔ v ∈ acc ∨ ∃ s ∈ c,v ∈ s
 | [],acc=>by simp
 | s :: c,acc=>by
  rw [List.foldl_cons,ni c,mR]
  simp only [List.mem_cons,exists_eq_or_imp,or_assoc]
attribute [local irreducible] aG al bg bc aN aR aE aS bf br Go.Abs.Fn aY Go.Abs.Pure aA aL Yl
theorem tn (c:List Spx) (hc:c.length ≤ 5000) (hs:∀ s ∈ c,s.length ≤ 10):Pure Tryz.prog 53 [dD c] (ao (c7 c)):=by
 refine Pure.of_c2 follows B0 (Nat.le_of_ble_eq_true rfl) ?_
 simp only [b53,cO,cG,cN,cM,cD,cF,cB,au,aH]
 (have zz:=aI @ak (aI @az @ar); repeat' (first|refine zW ?_|apply a_n|refine zO ?_|refine vZ ?_|refine bxZ ?_|fail)) <;> (try clear zz)
 refine n8 (X:=Nat) (fun k=>[(1,.iptr [aC c] 0),(3,ao (c7 (c.take k))),(4,.int .i64 k)]) (fun k H nx=>k ≤ c.length) (fun k=>c.length - k) 0 ⟨_,a9,Fz.all,Nat.zero_le _,.inr (ew rfl rfl (ax (bl _ _) ab)),.inr (.eslsl 2),.inl rfl,trivial⟩ ?_
 rintro k H nx h1
 by_cases hk:k < c.length
 rotate_left
 ·rw [List.take_of_length_le (by omega)]
  (have zz:=@ak; repeat' (first|refine zW ?_|apply a_n|apply a_x|refine zO ?_|refine vY ?_|(refine zGY ?_ ?_ <;> (intro _hg; try (exfalso; omega)))|refine ah rfl ?_|refine r1Y ?_|fail)) <;> (try clear zz)
  exact an _ _
 have ix:=dI hk
 have hp:=ya (c7 (c.take k)) (c.getD k default) (by
  have:=iX (n:=10) (c.take k) [] fun s hs'=>hs s (List.mem_of_mem_take hs')
  rw [List.length_take] at this
  unfold c7
  simp only [List.length_nil] at this
  omega) (by have:=hs _ (aO hk); omega)
 have e:c7 (c.take (k + 1))=eU aV (c7 (c.take k)) (c.getD k default):=by rw [bt hk,qG]
 (have zz:=aI @ak @ix; repeat' (first|refine zW ?_|apply a_n|refine zO ?_|refine vY ?_|refine cY ?_ (hp:=hp) (hs:=by (first | refine aa ?_ rfl | apply ac); (repeat' (first | exact ab | apply ag | apply ae | exact an _)); first | done | fail)|(refine zGY ?_ ?_ <;> (intro _hg; try (exfalso; omega)))|fail)) <;> (try clear zz)
 exact ⟨k + 1,by omega,_,_,Fz.none,by omega,eo (have zz:=@e; agZ)⟩
theorem xz (m:MapV) (l:Spx) (hm:ShM m) (hlen:m.to.length=m.fr.length) (hl:l.length ≤ 100000) (ht:bD m l=true):Pure Tryz.prog 61 [eD m,ao l] (ao (bZ m l)):=by
 refine Pure.of_c2 follows BD (Nat.le_of_ble_eq_true rfl) ?_
 simp only [b61,cO,cG,cN,cM,cD,cF,cB,au,aH]
 (have zz:=aI @ai (aI @ay @ap); repeat' (first|refine zW ?_|apply a_n|refine zO ?_|refine vZ ?_|refine bxZ ?_|fail)) <;> (try clear zz)
 refine n8 (X:=Nat) (fun k=>[(1,ao l),(2,.iptr [ao m.fr,ao m.to] 0),(5,ao (bZ m (l.take k))),(6,.int .i64 k)]) (fun k H nx=>k ≤ l.length) (fun k=>l.length - k) 0 ⟨_,a9,Fz.all,Nat.zero_le _,.inl rfl,.inr (ew rfl rfl (ax (an _ _) (ax (an _ _) ab))),.inr (.eslsl 2),.inl rfl,trivial⟩ ?_
 rintro k H nx h1
 by_cases hk:k < l.length
 rotate_left
 ·rw [List.take_of_length_le (by omega)]
  (have zz:=@ai; repeat' (first|refine zW ?_|apply a_n|apply a_x|refine zO ?_|refine vY ?_|(refine zGY ?_ ?_ <;> (intro _hg; try (exfalso; omega)))|refine ah rfl ?_|refine r1Y ?_|fail)) <;> (try clear zz)
  exact an _ _
 have ix:=ix2 hk
 have hv:l.getD k default ∈ m.fr:=of_decide_eq_true (List.all_eq_true.1 ht _ (aO hk))
 have hi:=mc m (l.getD k default) hm
 rw [if_pos hv] at hi
 have it:=ix2 (l:=m.to) (k:=m.fr.idxOf (l.getD k default)) (by have:=(iA hv).1; omega)
 rw [show m.to.getD (m.fr.idxOf (l.getD k default)) default=de m (l.getD k default) from rfl] at it
 have hls:(bZ m (l.take k)).length ≤ 100000:=by
  unfold bZ
  have:=e9 (K:=aV) (l:=(l.take k).map (de m))
  rw [List.length_map,List.length_take] at this
  omega
 have hh:=ww (bZ m (l.take k)) (de m (l.getD k default)) (show _ ≤ _ by omega)
 have hp:=xS (bZ m (l.take k)) (de m (l.getD k default)) (by omega)
 have e:bZ m (l.take (k + 1))=e7 aV (bZ m (l.take k)) (de m (l.getD k default)):=by
  unfold bZ; rw [bt hk,List.map_append]; exact nW
 generalize de m (l.getD k default)=w at *
 by_cases hw:w ∈ bZ m (l.take k)
 ·rw [decide_eq_true hw] at hh
  rw [wN hw] at e
  (have zz:=aI @ai (aI @ix @it); repeat' (first|refine zW ?_|apply a_n|refine zO ?_|refine vY ?_|refine cY ?_ (hp:=by first | exact hi | exact hh) (hs:=by (first | refine aa ?_ rfl | apply ac); (repeat' (first | exact ab | apply ag | apply ae | exact aW _ | exact aP _ | exact an _)); first | done | fail)|refine alY ?_|refine stY ?_|refine cFY ?_|(refine zGY ?_ ?_ <;> (intro _hg; try (exfalso; omega)))|fail)) <;> (try clear zz)
  exact ⟨k + 1,by omega,_,_,Fz.none,by omega,eo (have zz:=@e; agZ)⟩
 ·rw [decide_eq_false hw] at hh
  (have zz:=aI @ai (aI @ix @it); repeat' (first|refine zW ?_|apply a_n|refine zO ?_|refine vY ?_|refine cY ?_ (hp:=by first | exact hi | exact hh | exact hp) (hs:=by (first | refine aa ?_ rfl | apply ac); (repeat' (first | exact ab | apply ag | apply ae | exact aW _ | exact aP _ | exact an _)); first | done | fail)|refine alY ?_|refine stY ?_|refine cTY ?_|(refine zGY ?_ ?_ <;> (intro _hg; try (exfalso; omega)))|fail)) <;> (try clear zz)
  exact ⟨k + 1,by omega,_,_,Fz.none,by omega,eo (have zz:=@e; agZ)⟩
theorem uA (m:MapV) (c:List Spx) (hm:ShM m) (hlen:m.to.length=m.fr.length) (hc:c.length ≤ 5000) (hs:∀ s ∈ c,s.length ≤ 1000∧bD m s=true):Pure Tryz.prog 54 [eD m,dD c] (aC (c.map (bZ m))):=by
 refine Pure.of_c2 follows BR (Nat.le_of_ble_eq_true rfl) ?_
 simp only [b54,cO,cG,cN,cM,cD,cF,cB,au,aH]
 (have zz:=aI @ak (aI @ay (aI @ap (aI @az @ar))); repeat' (first|refine zW ?_|apply a_n|refine zO ?_|refine vZ ?_|refine bxZ ?_|fail)) <;> (try clear zz)
 refine aM (X:=AV × Nat) (fun x=>[(2,.ptr 0 2 0),(3,.ptr 1 1 0),(5,x.1),(6,.int .i64 x.2)]) (fun x H nx=>x.2 ≤ c.length∧H 0=some [ao m.fr,ao m.to]∧H 1=some [aC c]∧Row H 1 x.1 (((c.take x.2).map (bZ m)).map ao)∧(∀ b,bE x.1=some b→2 ≤ b∧b < nx)∧2 ≤ nx) (fun x=>c.length - x.2) (.esl,0) ⟨Nat.zero_le _,rfl,rfl,Row.nil,fun b h=>(by cases h),by omega⟩ (by (iterate 4 refine And.intro rfl ?_); trivial) ?_
 rintro ⟨sv,k⟩ H nx ⟨h1,g0,g1,hrow,hbd,hnx⟩
 dsimp only at h1 hrow hbd ⊢
 by_cases hk:k < c.length
 rotate_left
 ·rw [List.take_of_length_le (by omega)] at hrow
  (have zz:=aI @ak @g1; repeat' (first|refine zW ?_|apply a_n|apply a_x|refine zO ?_|refine vY ?_|(refine zGY ?_ ?_ <;> (intro _hg; try (exfalso; omega)))|refine ah rfl ?_|refine r1Y ?_|fail)) <;> (try clear zz)
  exact ga hrow
 have ix:=dI hk
 obtain ⟨q1,q2⟩:=hs _ (aO hk)
 have ho:=xz m (c.getD k default) hm hlen (by omega) q2
 have hl:(((c.take k).map (bZ m)).map ao).length=k:=by rw [List.length_map,List.length_map,List.length_take]; omega
 have e:(c.take (k + 1)).map (bZ m)=(c.take k).map (bZ m) ++ [bZ m (c.getD k default)]:=by rw [bt hk,List.map_append]; rfl
 generalize bZ m (c.getD k default)=w at *
 (have zz:=aI @ak (aI @g0 (aI @g1 (aI @ix (aI @ay @ap)))); repeat' (first|refine zW ?_|refine zM ?_|apply a_n|refine zO ?_|refine vY ?_|refine cY ?_ (hp:=ho) (hs:=by (first | refine aa ?_ rfl | apply ac); (repeat' (first | exact ab | apply ag | apply ae | exact aW _ | exact an _)); first | done | fail)|refine blY ?_|(refine zGY ?_ ?_ <;> (intro _hg; try (exfalso; omega)))|fail)) <;> (try clear zz)
 refine cH rfl ev0 (hrow.same fun b hb=>?_) ev0 ca rfl rfl Nat.one_pos (by omega) (by omega) ?_
 ·have:=hbd b hb; rw [af (by omega)]
 rintro s2 H2 nx2 hr2 i1 i2 i3 i4
 (have zz:=and_self; repeat' (first|apply a_n|refine zO ?_|refine vY ?_|fail)) <;> (try clear zz)
 refine ⟨(s2,k + 1),by dsimp only; omega,⟨by dsimp only; omega,?_,?_,?_,fun b hb=>?_,by omega⟩,ag0⟩
 ·rw [i3 0 (by omega) (fun h=>by have:=hbd 0 h; omega),af (by omega)]; exact g0
 ·rw [i3 1 (by omega) (fun h=>by have:=hbd 1 h; omega),af (by omega)]; exact g1
 ·dsimp only
  rw [e,List.map_append]; exact hr2
 ·rcases i4 b hb with h | h
  ·have:=hbd b h; omega
  ·omega
end Go.Proofs.YtbgdcebmgjafjaaGreat
namespace Go.Proofs.YtbgdcebmgjafjaaGreat
open Go Go.Abs
open Nat (reduceEqDiff reduceAdd reduceLeDiff)
theorem vL {l:Spx} (ha:cP aV l) {k:Nat} (hk:k < l.length):l.getD k default ∉ l.take k:=fun hm=>by
 obtain ⟨i,hi,e⟩:=List.getElem_of_mem hm
 rw [List.length_take] at hi
 rw [List.getElem_take] at e
 have:=cS ha (i:=i) (j:=k) (by omega) hk
 rw [show l.getD i default=l[i] by simp [List.getD,show i < l.length by omega],e] at this
 exact nF.ord.irr _ this
theorem pZ {m:MapV} {v:Vtx} (h:m.to.length=m.fr.length) (hv:v ∈ m.fr):(m.to.map bh).getD (m.fr.idxOf v) .undef=bh (de m v):=by
 have:=(iA hv).1
 unfold de
 simp [List.getD,show m.fr.idxOf v < m.to.length by omega]
theorem rE {H:Hp} {B n len:Nat} {C:List AV} {l:Spx} (hB:H B=some C) (hn:C.length=n) (hf:len * 2 ≤ n) (hl:l.length=len) (ht:C.take (len * 2)=cX l):Snap H (.msl B n 2 0 len) (ao l):=by
 refine .msl B n 2 0 len C (l.map bh) hB hn (by omega) (by simp [hl]) (fun y hy=>?_) (fun i j y a c hy hc ha=>?_)
 ·obtain ⟨v,_,rfl⟩:=List.mem_map.1 hy; rfl
 ·have hi:i < l.length:=by
    have:=(List.getElem?_eq_some_iff.1 hy).1
    simpa using this
  have hy':y=bh (l.getD i default):=by
   rw [List.getElem?_map,List.getElem?_eq_getElem hi] at hy
   simp at hy
   rw [← hy]; simp [List.getD,hi]
  subst hy'
  have hj:j < 2:=(List.getElem?_eq_some_iff.1 hc).1
  have h1:C[0 + i * 2 + j]?=(cX l)[i * 2 + j]?:=by
   rw [← ht,List.getElem?_take,if_pos (by omega)]; congr 1; omega
  have h2:(cX l)[i * 2 + j]?=(((cX l).drop (i * 2)).take 2)[j]?:=by
   rw [List.getElem?_take,if_pos hj,List.getElem?_drop]
  rw [h1,h2,rdX hi] at ha
  have:[AV.int .i64 (l.getD i default).color,AV.int .i64 (l.getD i default).label][j]?=some c:=hc
  rw [this] at ha
  cases ha
  match j,hj with
  | 0,_=>cases this; exact .int _ _
  | 1,_=>cases this; exact .int _ _
attribute [local irreducible] aG al bg bc aN aR aE aS bf br Go.Abs.Fn aY Go.Abs.Pure aA aL Yl
set_option maxHeartbeats 1000000 in
theorem ry (m:MapV) (hm:ShM m) (H:Hp) (nx:Nat):Abs.Fn Tryz.prog 41 [eD m] H nx fun r H' nx'=>(∀ x,x < nx→H' x=H x)∧nx ≤ nx'∧((cT m=0∧∃ b,r=.tup [.mp b,.int .i64 0]∧nx ≤ b∧b < nx'∧H' b=some [.omap (m.fr.map bh) (m.to.map bh)]) ∨ (cT m ≠ 0∧r=.tup [.undef,.int .i64 (cT m)])):=by
 refine Abs.Fn.of_c2 follows AK (Nat.le_of_ble_eq_true rfl) ?_
 simp only [b41,cO,cG,cN,cM,cD,cF,cB,au,aH]
 have hc:=qv m hm
 have hm1':m.fr.length ≤ 17592186044416:=hm.1
 by_cases he:cT m=0
 rotate_left
 ·have z:decide (cT m ≠ 0)=true:=decide_eq_true he
  (have zz:=aI @ai (aI @ay (aI @ap @z)); repeat' (first|refine zW ?_|apply a_n|apply a_r|refine zO ?_|refine vY ?_|refine cY ?_ (hp:=hc) (hs:=by (first | refine aa ?_ rfl | apply ac); (repeat' (first | exact ab | apply ag | apply ae | exact aW _)); first | done | fail)|refine bxY ?_|refine cTY ?_|refine ah rfl ?_|refine r2Y ?_|fail)) <;> (try clear zz)
  exact ⟨fun x hx=>af (by omega),by omega,.inr ⟨he,rfl⟩⟩
 rw [he] at hc
 obtain ⟨q1,q2,q3,q4,q5⟩:=go he
 have z:decide ((0:Int) ≠ 0)=false:=rfl
 (have zz:=aI @ai (aI @ay (aI @ap @z)); repeat' (first|refine zW ?_|apply a_n|refine zO ?_|refine vY ?_|refine cY ?_ (hp:=hc) (hs:=by (first | refine aa ?_ rfl | apply ac); (repeat' (first | exact ab | apply ag | apply ae | exact aW _)); first | done | fail)|refine bxY ?_|refine cFY ?_|fail)) <;> (try clear zz)
 refine uV ?_
 (have zz:=@ai; repeat' (first|refine zW ?_|apply a_n|refine zO ?_|refine vY ?_|fail)) <;> (try clear zz)
 refine aM (X:=Nat) (fun k=>[(1,.ptr nx 2 0),(5,.mp (nx + 1)),(15,ao m.fr),(16,.int .i64 m.fr.length),(17,.int .i64 k)]) (fun k H' nx'=>k ≤ m.fr.length∧H' nx=some [ao m.fr,ao m.to]∧H' (nx + 1)=some [.omap ((m.fr.take k).map bh) ((m.to.take k).map bh)]∧(∀ x,x < nx→H' x=H x)∧nx + 2 ≤ nx') (fun k=>m.fr.length - k) 0 ⟨Nat.zero_le _,by rw [af (by omega),aj],aj,fun x hx=>by rw [af (by omega),af (by omega)],by omega⟩ (by simp (disch:=omega) only [agr,ZG,reduceEqDiff,↓reduceIte,List.length_cons,List.length_nil,Nat.zero_add,reduceAdd]) ?_
 rintro k H1 nx1 ⟨h1,g0,g1,h2,hnx⟩
 by_cases hk:k < m.fr.length
 rotate_left
 ·obtain rfl:k=m.fr.length:=by omega
  rw [List.take_length,List.take_of_length_le (by omega)] at g1
  (have zz:=and_self; repeat' (first|refine zW ?_|apply a_n|apply a_x|refine zO ?_|refine vY ?_|(refine zGY ?_ ?_ <;> (intro _hg; try (exfalso; omega)))|refine ah rfl ?_|refine r2Y ?_|fail)) <;> (try clear zz)
  exact ⟨h2,by omega,.inl ⟨he,nx + 1,rfl,by omega,by omega,g1⟩⟩
 have ix:=ix2 hk
 have it:=ix2 (l:=m.to) (k:=k) (by omega)
 have hnt:=vL q3 hk
 have hmf:=lP (m.fr.getD k default) (m.fr.take k)
 rw [if_neg hnt] at hmf
 have e1:(m.fr.take (k + 1)).map bh=(m.fr.take k).map bh ++ [bh (m.fr.getD k default)]:=by rw [bt hk,List.map_append]; rfl
 have e2:(m.to.take (k + 1)).map bh=(m.to.take k).map bh ++ [bh (m.to.getD k default)]:=by rw [bt (by omega),List.map_append]; rfl
 generalize m.fr.getD k default=v at *
 generalize m.to.getD k default=w at *
 (have zz:=@ix; repeat' (first|refine zW ?_|apply a_n|refine zO ?_|refine vY ?_|refine alY ?_|refine stY ?_|(refine zGY ?_ ?_ <;> (intro _hg; try (exfalso; omega)))|fail)) <;> (try clear zz)
 refine jV (c2:=[.int .i64 v.color,.int .i64 v.label]) nx nx1 (by rw [af (by omega),af (by omega)]; exact g0) (by rw [aj]; rfl) (by omega) fun S hS0 hS1 _=>?_
 (have zz:=aI @hS0 (aI @hS1 @it); repeat' (first|apply a_n|refine zO ?_|refine nvY ?_|apply gD|fail)) <;> (try clear zz)
 refine uE ev0 (by rw [af (by omega),af (by omega)]; exact g1) ev0 ev0 (kQ v) hmf ?_
 (have zz:=and_self; repeat' (first|apply a_n|refine zO ?_|refine vY ?_|fail)) <;> (try clear zz)
 refine ⟨k + 1,by omega,⟨by omega,by (repeat rw [af (by omega)]); exact g0,?_,fun x hx=>by (repeat rw [af (by omega)]); exact h2 x hx,by omega⟩,ag0⟩
 rw [aj,e1,e2]; rfl
theorem BS:Cmp2 Tryz.prog bh aV (fun _=>True) 74 [] where
 len _:=rfl
 agg _:=rfl
 ones _:=rfl
 dat x:=aP x
 dcaps x hx:=by cases hx
 run x y _ _:=nD x y
 ord:=nF.ord
theorem zd (m:MapV) (l:Spx) (hlen:m.to.length=m.fr.length) (hl:l.length ≤ 100000) (hl0:l ≠ []) (b:Nat) (H:Hp) (nx:Nat) (hb:H b=some [.omap (m.fr.map bh) (m.to.map bh)]) (hbn:b < nx):Abs.Fn Tryz.prog 57 [.mp b,ao l] H nx fun r H' nx'=>nx ≤ nx'∧((bD m l=false∧r=.tup [.esl,.bool false]∧∀ x,x < nx→H' x=H x) ∨ (bD m l=true∧∃ sv Hf H2,r=.tup [sv,.bool true]∧sv.one=true∧Fz Hf H' H2∧Snap Hf sv (ao (bZ m l))∧∀ x,x < nx→H2 x=H x)):=by
 refine Abs.Fn.of_c2 follows AR (Nat.le_of_ble_eq_true rfl) ?_
 simp only [b57,cO,cG,cN,cM,cD,cF,cB,au,aH]
 (have zz:=@ai; repeat' (first|refine zW ?_|apply a_n|refine zO ?_|refine vY ?_|fail)) <;> (try clear zz)
 refine aM (X:=AV × Nat) (fun x=>[(0,.mp b),(6,x.1),(11,ao l),(12,.int .i64 l.length),(13,.int .i64 x.2)]) (fun x H' nx'=>x.2 ≤ l.length∧(∀ y,y < nx→H' y=H y)∧nx ≤ nx'∧Row H' 2 x.1 (cX ((l.take x.2).map (de m)))∧(∀ B,bE x.1=some B→nx ≤ B∧B < nx')∧∀ i,i < x.2→decide (l.getD i default ∈ m.fr)=true) (fun x=>l.length - x.2) (.esl,0) ⟨Nat.zero_le _,fun _ _=>rfl,Nat.le_refl _,Row.nil,fun B h=>(by cases h),fun i h=>absurd h (by omega)⟩ ag0 ?_
 rintro ⟨sv,k⟩ H1 nx1 ⟨h1,h2,h3,hrow,hbd,hz⟩
 dsimp only at h1 hrow hbd hz ⊢
 by_cases hk:k < l.length
 rotate_left
 ·rw [List.take_of_length_le (by omega)] at hrow
  have ht:bD m l=true:=eA fun i hi=>hz i (by omega)
  have hpos:0 < l.length:=List.length_pos_iff.2 hl0
  generalize hM:l.map (de m)=M at *
  have hMl:M.length=l.length:=by rw [← hM,List.length_map]
  have himg:bZ m l=fS aV M:=by unfold bZ; rw [hM]
  obtain ⟨B,rfl,hB⟩:∃ B,sv=.msl B (M.length * 2) 2 0 M.length∧H1 B=some (cX M):=by
   generalize hcs:cX M=cs at hrow
   have hcl:=ci M
   cases hrow with
   | nil=>rw [hcs] at hcl; simp at hcl; omega
   | box B len cs g1 g2 =>
    obtain rfl:len=M.length:=by rw [← hcs,hcl] at g2; omega
    exact ⟨B,rfl,g1⟩
  have hBb:=hbd B rfl
  (have zz:=and_self; repeat' (first|refine zW ?_|apply a_n|apply a_x|refine zO ?_|refine vY ?_|(refine zGY ?_ ?_ <;> (intro _hg; try (exfalso; omega)))|fail)) <;> (try clear zz)
  refine aD ev0 ev0 (wG BS (L:=M) (b:=B) (nx:=nx1) (n:=M.length) hB (by omega) rfl (by omega) (fun _ _=>trivial) (by omega)) ?_
  rintro _ H3 nx3 ⟨L,ps,hperm,hsort⟩
  have hLl:L.length=M.length:=hperm.length_eq
  have hL0:L ≠ []:=fun e=>by rw [e] at hLl; simp at hLl; omega
  have hB3:H3 B=some (cX L):=ps.at_
  rw [← hLl]
  (have zz:=and_self; repeat' (first|refine zW ?_|apply a_n|refine zO ?_|refine vY ?_|fail)) <;> (try clear zz)
  refine aD ev0 ev0 (rk L (show _ ≤ _ by omega) hL0 H3 B nx3 hB3 (by have:=ps.le; omega)) ?_
  rintro _ H4 nx4 ⟨rfl,⟨C,rfl,c1,c2⟩,rfl⟩
  have hd:dT L L.length=fS aV M:=uz nF hperm (by rw [hLl]; exact hsort)
  rw [hd] at c2
  have hle:=vN L L.length
  have hdl:=uc L L.length
  rw [hd] at hdl
  (have zz:=and_self; repeat' (first|apply a_n|refine zO ?_|refine vY ?_|refine ah rfl ?_|refine r2Y ?_|fail)) <;> (try clear zz)
  refine ⟨by have:=ps.le; omega,.inr ⟨ht,.msl B (L.length * 2) 2 0 (bQ L L.length),only B C,bN (am H3 B C) B,rfl,rfl,Fz.one aj,?_,fun x hx=>?_⟩⟩
  ·rw [himg]
   exact rE jK c1 (by omega) hdl c2
  ·rw [fx (by omega),af (by omega),ps.fr x (by omega) (by omega)]; exact h2 x hx
 have ix:=ix2 hk
 have hb1:H1 b=some [.omap (m.fr.map bh) (m.to.map bh)]:=(h2 b hbn).trans hb
 have hmf:=lP (l.getD k default) m.fr
 have hcl:(cX ((l.take k).map (de m))).length=k * 2:=by rw [ci,List.length_map,List.length_take]; omega
 have e1:(l.take (k + 1)).map (de m)=(l.take k).map (de m) ++ [de m (l.getD k default)]:=by rw [bt hk,List.map_append]; rfl
 by_cases hv:l.getD k default ∈ m.fr
 rotate_left
 ·have ht:bD m l=false:=dM hk (decide_eq_false hv)
  rw [if_neg hv] at hmf
  generalize l.getD k default=v at *
  (have zz:=@ix; repeat' (first|refine zW ?_|apply a_n|refine zO ?_|refine vY ?_|refine alY ?_|refine stY ?_|(refine zGY ?_ ?_ <;> (intro _hg; try (exfalso; omega)))|fail)) <;> (try clear zz)
  refine i5 ev0 (by rw [af (by omega),af (by omega)]; exact hb1) ev0 (kQ v) hmf ?_
  rw [show mget (.agg [.int .i64 0,.int .i64 0]) true none (m.to.map bh)=.tup [.agg [.int .i64 0,.int .i64 0],.bool false] from rfl]
  (have zz:=and_self; repeat' (first|refine zW ?_|apply a_n|apply a_r|refine zO ?_|refine vY ?_|refine alY ?_|refine stY ?_|refine cTY ?_|refine ah rfl ?_|refine r2Y ?_|fail)) <;> (try clear zz)
  exact ⟨by omega,.inl ⟨ht,rfl,fun x hx=>by (repeat rw [af (by omega)]); exact h2 x hx⟩⟩
 rw [if_pos hv] at hmf
 have hmg:=pZ hlen hv
 have hzz:∀ i,i < k + 1→decide (l.getD i default ∈ m.fr)=true:=fun i hi=>by
  rcases Nat.lt_succ_iff_lt_or_eq.1 hi with h' | rfl
  ·exact hz i h'
  ·exact decide_eq_true hv
 generalize l.getD k default=v at *
 generalize de m v=w at *
 (have zz:=@ix; repeat' (first|refine zW ?_|apply a_n|refine zO ?_|refine vY ?_|refine alY ?_|refine stY ?_|(refine zGY ?_ ?_ <;> (intro _hg; try (exfalso; omega)))|fail)) <;> (try clear zz)
 refine i5 ev0 (by rw [af (by omega),af (by omega)]; exact hb1) ev0 (kQ v) hmf ?_
 rw [show mget (.agg [.int .i64 0,.int .i64 0]) true (some (m.fr.idxOf v)) (m.to.map bh)=.tup [(m.to.map bh).getD (m.fr.idxOf v) .undef,.bool true] from rfl,hmg]
 (have zz:=and_self; repeat' (first|refine zW ?_|apply a_n|refine zO ?_|refine vY ?_|refine alY ?_|refine stY ?_|refine blY ?_|refine cFY ?_|fail)) <;> (try clear zz)
 refine cH rfl ev0 (hrow.same fun B hB=>?_) ev0 cV rfl rfl (by omega) (by omega) (by omega) ?_
 ·have:=hbd B hB; (repeat rw [af (by omega)])
 rintro s2 H2 nx2 hr2 i1 i2 i3 i4
 (have zz:=and_self; repeat' (first|apply a_n|refine zO ?_|refine vY ?_|fail)) <;> (try clear zz)
 refine ⟨(s2,k + 1),by dsimp only; omega,⟨by dsimp only; omega,fun y hy=>?_,by omega,?_,fun B hB=>?_,hzz⟩,ag0⟩
 ·rw [i3 y (by omega) (fun h=>by have:=hbd y h; omega)]
  (repeat rw [af (by omega)]); exact h2 y hy
 ·dsimp only
  rw [e1,cq]; exact hr2
 ·rcases i4 B hB with h | h
  ·have:=hbd B h; omega
  ·omega
end Go.Proofs.YtbgdcebmgjafjaaGreat
namespace Go.Proofs.YtbgdcebmgjafjaaGreat
open Go Go.Abs
def ck (m:MapV) (a b:List Spx):Bool × Int:=if cT m ≠ 0 then (false,cT m) else if be a ≠ 0 then (false,be a) else if be b ≠ 0 then (false,be b) else if a.all (bD m)=false then (false,6) else ((a.map (bZ m)).all fun s=>b.any fun t=>bw s t,0)
theorem oO {m:MapV} {c:List Spx}:bD m (c7 c)=c.all (bD m):=by
 rw [Bool.eq_iff_iff]
 unfold bD
 rw [List.all_eq_true,List.all_eq_true]
 have hp:∀ v,v ∈ c7 c ↔ ∃ s ∈ c,v ∈ s:=fun v=>by
  unfold c7; rw [ni]; simp
 constructor
 ·intro h s hs
  rw [List.all_eq_true]
  exact fun v hv=>h v ((hp v).2 ⟨s,hs,hv⟩)
 ·intro h v hv
  obtain ⟨s,hs,hvs⟩:=(hp v).1 hv
  exact List.all_eq_true.1 (h s hs) v hvs
theorem sL {α:Type} {l:List α} {p:α→Bool}:(!l.any fun x=>!p x)=l.all p:=by
 rw [List.any_eq_not_all_not]; simp
attribute [local irreducible] aG al bg bc aN aR aE aS bf br Go.Abs.Fn aY Go.Abs.Pure aA aL Yl
set_option maxHeartbeats 1000000 in
theorem wq (m:MapV) (c:List Spx) (hlen:m.to.length=m.fr.length) (hc:c.length ≤ 5000) (hs:∀ s ∈ c,s.length ≤ 1000∧s ≠ []) (b:Nat) (H:Hp) (nx:Nat) (hb:H b=some [.omap (m.fr.map bh) (m.to.map bh)]) (hbn:b < nx):Abs.Fn Tryz.prog 42 [.mp b,dD c] H nx fun r H' nx'=>nx ≤ nx'∧(∀ x,x < nx→H' x=H x)∧((c.all (bD m)=false∧r=.tup [.esl,.bool false]) ∨ (c.all (bD m)=true∧∃ sv,r=.tup [sv,.bool true]∧Row H' 1 sv ((c.map (bZ m)).map ao)∧∀ B,bE sv=some B→nx ≤ B∧B < nx')):=by
 refine Abs.Fn.of_c2 follows A8 (Nat.le_of_ble_eq_true rfl) ?_
 simp only [b42,cO,cG,cN,cM,cD,cF,cB,au,aH]
 (have zz:=aI @ak (aI @az @ar); repeat' (first|refine zW ?_|apply a_n|refine zO ?_|refine vY ?_|refine bxY ?_|fail)) <;> (try clear zz)
 refine aM (X:=AV × Nat) (fun x=>[(0,.mp b),(6,x.1),(12,aC c),(13,.int .i64 c.length),(14,.int .i64 x.2)]) (fun x H' nx'=>x.2 ≤ c.length∧(∀ y,y < nx→H' y=H y)∧nx ≤ nx'∧Row H' 1 x.1 (((c.take x.2).map (bZ m)).map ao)∧(∀ B,bE x.1=some B→nx ≤ B∧B < nx')∧∀ i,i < x.2→bD m (c.getD i default)=true) (fun x=>c.length - x.2) (.esl,0) ⟨Nat.zero_le _,fun y hy=>af (by omega),by omega,Row.nil,fun B h=>(by cases h),fun i h=>absurd h (by omega)⟩ ag0 ?_
 rintro ⟨svo,k⟩ H1 nx1 ⟨h1,h2,h3,hrow,hbd,hz⟩
 dsimp only at h1 hrow hbd hz ⊢
 by_cases hk:k < c.length
 rotate_left
 ·rw [List.take_of_length_le (by omega)] at hrow
  (have zz:=and_self; repeat' (first|refine zW ?_|apply a_n|apply a_x|refine zO ?_|refine vY ?_|(refine zGY ?_ ?_ <;> (intro _hg; try (exfalso; omega)))|refine ah rfl ?_|refine r2Y ?_|fail)) <;> (try clear zz)
  exact ⟨h3,h2,.inr ⟨eA fun i hi=>hz i (by omega),svo,rfl,hrow,hbd⟩⟩
 have ix:=dI hk
 obtain ⟨s1,s2⟩:=hs _ (aO hk)
 have hcl:(((c.take k).map (bZ m)).map ao).length=k:=by rw [List.length_map,List.length_map,List.length_take]; omega
 have e1:(c.take (k + 1)).map (bZ m)=(c.take k).map (bZ m) ++ [bZ m (c.getD k default)]:=by rw [bt hk,List.map_append]; rfl
 have hall:bD m (c.getD k default)=false→c.all (bD m)=false:=fun h=>dM hk h
 have hzz:bD m (c.getD k default)=true→∀ i,i < k + 1→bD m (c.getD i default)=true:=fun h i hi=>by
  rcases Nat.lt_succ_iff_lt_or_eq.1 hi with h' | rfl
  ·exact hz i h'
  ·exact h
 have ho:=zd m (c.getD k default) hlen (by omega) s2 b H1 nx1 ((h2 b hbn).trans hb) (by omega)
 obtain ⟨o1,o2⟩:=hrow.one
 generalize c.getD k default=s at *
 (have zz:=@ix; repeat' (first|refine zW ?_|apply a_n|refine zO ?_|refine vY ?_|(refine zGY ?_ ?_ <;> (intro _hg; try (exfalso; omega)))|fail)) <;> (try clear zz)
 refine aD ev0 ev0 ho ?_
 rintro _ H2 nx2 ⟨hle,h⟩
 rcases h with ⟨ht,rfl,hsm⟩ | ⟨ht,sv2,Hf,H3,rfl,hone,hfz,hsn,hsm⟩
 ·(have zz:=and_self; repeat' (first|refine zW ?_|apply a_n|apply a_r|refine zO ?_|refine vY ?_|refine cTY ?_|refine ah rfl ?_|refine r2Y ?_|fail)) <;> (try clear zz)
  exact ⟨by omega,fun x hx=>(hsm x (by omega)).trans (h2 x hx),.inl ⟨hall ht,rfl⟩⟩
 (have zz:=and_self; repeat' (first|apply a_n|refine zO ?_|refine vY ?_|fail)) <;> (try clear zz)
 refine d8 (d8 ?_)
 refine pE Hf H3 [(0,.mp b),(6,svo),(9,ao (bZ m s)),(10,.bool true),(12,aC c),(13,.int .i64 c.length),(14,.int .i64 k)] hfz ⟨.inl rfl,.inl rfl,.inr hsn,.inl rfl,.inl rfl,.inl rfl,.inl rfl,trivial⟩ ?_
 (have zz:=aI @ay @ap; repeat' (first|apply a_n|refine zO ?_|refine vY ?_|refine blY ?_|refine cFY ?_|fail)) <;> (try clear zz)
 refine cH rfl ev0 (hrow.same fun B hB=>?_) ev0 ca rfl rfl Nat.one_pos (by omega) (by omega) ?_
 ·have:=hbd B hB; rw [af (by omega)]; exact hsm B (by omega)
 rintro s3 H4 nx4 hr4 i1 i2 i3 i4
 (have zz:=and_self; repeat' (first|apply a_n|refine zO ?_|refine vY ?_|fail)) <;> (try clear zz)
 refine ⟨(s3,k + 1),by dsimp only; omega,⟨by dsimp only; omega,fun y hy=>?_,by omega,?_,fun B hB=>?_,hzz ht⟩,ag0⟩
 ·rw [i3 y (by omega) (fun h=>by have:=hbd y h; omega),af (by omega),hsm y (by omega)]; exact h2 y hy
 ·dsimp only
  rw [e1,List.map_append]; exact hr4
 ·rcases i4 B hB with h | h
  ·have:=hbd B h; omega
  ·omega
theorem y3 (v:Vtx) (t:Spx) (ht:Shn t):Pure Tryz.prog 45 [bh v,.iptr [ao t] 0] (.bool (!decide (v ∈ t))):=by
 refine Pure.of_c2 follows zg (Nat.le_of_ble_eq_true rfl) ?_
 simp only [b45,cO,cG,cN,cM,cD,cF,cB,au,aH]
 have h:=qU t v ht
 (have zz:=and_self; repeat' (first|refine zW ?_|apply a_n|refine zO ?_|refine vZ ?_|refine cZ ?_ (hp:=h) (hs:=by (first | refine aa ?_ rfl | apply ac); (repeat' (first | exact ab | apply ag | apply ae | exact an _ | exact aP _)); first | done | fail)|refine bxZ ?_|refine ah rfl ?_|refine r1Z ?_|fail)) <;> (try clear zz)
 exact .bool _
theorem Bs (s t:Spx) (hs:Shn s) (ht:Shn t):Pure Tryz.prog 43 [ao s,ao t] (.bool (bw s t)):=by
 refine Pure.of_c2 follows zE (Nat.le_of_ble_eq_true rfl) ?_
 simp only [b43,cO,cG,cN,cM,cD,cF,cB,au,aH]
 have h:=pt s (fun v=>!decide (v ∈ t)) 45 [.iptr [ao t] 0] (DatL.cons (Dat.iptr (DatL.cons (an _) DatL.nil)) DatL.nil) (fun v _=>y3 v t ht) hs
 (have zz:=aI @ay @ap; repeat' (first|refine zW ?_|apply a_n|refine zO ?_|refine vZ ?_|refine bxZ ?_|fail)) <;> (try clear zz)
 refine co ev0 ev0 h (aa (ax (an _ _) (ax (iv (ax (ew rfl rfl (ax (an _ _) ab)) ab)) ab)) rfl) ?_
 (have zz:=and_self; repeat' (first|apply a_n|refine zO ?_|refine vZ ?_|refine ah rfl ?_|refine r1Z ?_|fail)) <;> (try clear zz)
 exact bj sL
theorem yG (s t:Spx) (hs:Shn s) (ht:Shn t):Pure Tryz.prog 49 [ao t,.iptr [.func 43 []] 0,.iptr [ao s] 0] (.bool (bw s t)):=by
 refine Pure.of_c2 follows AU (Nat.le_of_ble_eq_true rfl) ?_
 simp only [b49,cO,cG,cN,cM,cD,cF,cB,au,aH]
 have h:=Bs s t hs ht
 (have zz:=and_self; repeat' (first|refine zW ?_|apply a_n|refine zO ?_|refine vZ ?_|refine cZ ?_ (hp:=h) (hs:=by (first | refine aa ?_ rfl | apply ac); (repeat' (first | exact ab | apply ag | apply ae | exact an _)); first | done | fail)|refine ah rfl ?_|refine r1Z ?_|fail)) <;> (try clear zz)
 exact .bool _
theorem zB (b:List Spx) (s:Spx) (hb:Shn b) (hbs:∀ t ∈ b,Shn t) (hs:Shn s):Pure Tryz.prog 48 [ao s,.iptr [aC b] 0,.iptr [.func 43 []] 0] (.bool (!b.any fun t=>bw s t)):=by
 refine Pure.of_c2 follows Bu (Nat.le_of_ble_eq_true rfl) ?_
 simp only [b48,cO,cG,cN,cM,cD,cF,cB,au,aH]
 have h:=jI b (fun t=>bw s t) 49 [.iptr [.func 43 []] 0,.iptr [ao s] 0] (DatL.cons (Dat.iptr (DatL.cons (Dat.func DatL.nil) DatL.nil)) (DatL.cons (Dat.iptr (DatL.cons (an _) DatL.nil)) DatL.nil)) (fun t ht=>yG s t hs (hbs t ht)) hb
 (have zz:=aI @ay @ap; repeat' (first|refine zW ?_|apply a_n|refine zO ?_|refine vZ ?_|refine bxZ ?_|fail)) <;> (try clear zz)
 refine co ev0 ev0 h (aa (ax (bl _ _) (ax (iv (ax (Dat.iptr (DatL.cons (Dat.func DatL.nil) DatL.nil) _) (ax (ew rfl rfl (ax (an _ _) ab)) ab))) ab)) rfl) ?_
 (have zz:=and_self; repeat' (first|apply a_n|refine zO ?_|refine vZ ?_|refine ah rfl ?_|refine r1Z ?_|fail)) <;> (try clear zz)
 exact .bool _
set_option maxHeartbeats 2000000 in
theorem oS (m:MapV) (a b:List Spx) (hm:ShM m) (ha:Shn a) (has:∀ s ∈ a,Shn s) (hb:Shn b) (hbs:∀ s ∈ b,Shn s):Pure Tryz.prog 12 [eD m,dD a,dD b] (.tup [.bool (ck m a b).1,.int .i64 (ck m a b).2]):=by
 refine Pure.of_c2 follows AY (Nat.le_of_ble_eq_true rfl) ?_
 simp only [b12,cO,cG,cN,cM,cD,cF,cB,au,aH]
 have hca:=nt a ha has
 have hcb:=nt b hb hbs
 unfold ck
 (have zz:=aI @ay (aI @ap (aI @az @ar)); repeat' (first|refine zW ?_|apply a_n|refine zO ?_|refine vZ ?_|refine bxZ ?_|fail)) <;> (try clear zz)
 refine aD ev0 ev0 (ry m hm _ _) ?_
 rintro _ H1 nx1 ⟨hsm,hle,h⟩
 rcases h with ⟨he,B,rfl,hB1,hB2,hB3⟩ | ⟨he,rfl⟩
 rotate_left
 ·rw [if_pos he]
  have z:decide (cT m ≠ 0)=true:=decide_eq_true he
  (have zz:=@z; repeat' (first|refine zW ?_|apply a_n|apply a_r|refine zO ?_|refine vY ?_|refine cTY ?_|refine ah rfl ?_|refine r2Y ?_|fail)) <;> (try clear zz)
  exact fc rfl rfl
 rw [if_neg (fun h=>h he)]
 obtain ⟨q1,q2,q3,q4,q5⟩:=go he
 have g1:H1 1=some [aC a]:=hsm 1 (by omega)
 have g2:H1 2=some [aC b]:=hsm 2 (by omega)
 have z0:decide ((0:Int) ≠ 0)=false:=rfl
 (have zz:=aI @g1 (aI @g2 @z0); repeat' (first|apply a_n|refine zO ?_|refine vY ?_|fail)) <;> (try clear zz)
 refine d8 (d8 ?_)
 (have zz:=aI @g1 (aI @g2 @z0); repeat' (first|apply a_n|refine zO ?_|refine vY ?_|refine cFY ?_|fail)) <;> (try clear zz)
 by_cases hea:be a=0
 rotate_left
 ·rw [if_pos hea]
  have z:decide (be a ≠ 0)=true:=decide_eq_true hea
  (have zz:=aI @g1 (aI @g2 (aI @az @ar)); repeat' (first|refine zW ?_|apply a_n|refine zO ?_|refine vY ?_|refine blY ?_|fail)) <;> (try clear zz)
  refine aM (X:=Nat) (fun k=>[(4,.ptr 1 1 0),(26,.msl nx1 2 1 0 2),(27,.int .i64 2),(28,.int .i64 k)]) (fun k H nx=>k=0∧H nx1=some [aC a,aC b]) (fun _=>0) 0 ⟨rfl,aj⟩ (by (iterate 4 refine And.intro rfl ?_); trivial) ?_
  rintro k H nx ⟨rfl,g⟩
  (have zz:=aI @g (aI @z (aI @Nat.zero_mul (aI @az @ar))); repeat' (first|refine zW ?_|apply a_n|apply a_r|refine zO ?_|refine vY ?_|refine cY ?_ (hp:=hca) (hs:=by (first | refine aa ?_ rfl | apply ac); (repeat' (first | exact ab | apply ag | apply ae | exact a7 _)); first | done | fail)|refine alY ?_|refine stY ?_|refine cTY ?_|(refine zGY ?_ ?_ <;> (intro _hg; try (exfalso; omega)))|refine ah rfl ?_|refine r2Y ?_|fail)) <;> (try clear zz)
  exact fc rfl rfl
 rw [if_neg (fun h=>h hea)]
 rw [hea] at hca
 by_cases heb:be b=0
 rotate_left
 ·rw [if_pos heb]
  have z:decide (be b ≠ 0)=true:=decide_eq_true heb
  (have zz:=aI @g1 (aI @g2 (aI @az @ar)); repeat' (first|refine zW ?_|apply a_n|refine zO ?_|refine vY ?_|refine blY ?_|fail)) <;> (try clear zz)
  refine aM (X:=Nat) (fun k=>[(26,.msl nx1 2 1 0 2),(27,.int .i64 2),(28,.int .i64 k)]) (fun k H nx=>k ≤ 1∧H nx1=some [aC a,aC b]∧nx1 < nx) (fun k=>2 - k) 0 ⟨by omega,aj,by omega⟩ (by (iterate 3 refine And.intro rfl ?_); trivial) ?_
  rintro k H nx ⟨hk,g,hnx⟩
  rcases (by omega:k=0 ∨ k=1) with rfl | rfl
  ·(have zz:=aI @g (aI @z0 (aI @Nat.zero_mul (aI @az @ar))); repeat' (first|refine zW ?_|apply a_n|refine zO ?_|refine vY ?_|refine cY ?_ (hp:=hca) (hs:=by (first | refine aa ?_ rfl | apply ac); (repeat' (first | exact ab | apply ag | apply ae | exact a7 _)); first | done | fail)|refine alY ?_|refine stY ?_|refine cFY ?_|(refine zGY ?_ ?_ <;> (intro _hg; try (exfalso; omega)))|fail)) <;> (try clear zz)
   exact ⟨1,by omega,⟨by omega,by (repeat rw [af (by omega)]); exact g,by omega⟩,by (iterate 3 refine And.intro rfl ?_); trivial⟩
  ·(have zz:=aI @g (aI @z (aI @Nat.one_mul (aI @az @ar))); repeat' (first|refine zW ?_|apply a_n|apply a_r|refine zO ?_|refine vY ?_|refine cY ?_ (hp:=hcb) (hs:=by (first | refine aa ?_ rfl | apply ac); (repeat' (first | exact ab | apply ag | apply ae | exact a7 _)); first | done | fail)|refine alY ?_|refine stY ?_|refine cTY ?_|(refine zGY ?_ ?_ <;> (intro _hg; try (exfalso; omega)))|refine ah rfl ?_|refine r2Y ?_|fail)) <;> (try clear zz)
   exact fc rfl rfl
 rw [if_neg (fun h=>h heb)]
 rw [heb] at hcb
 obtain ⟨a1,a2,a3,a4⟩:=cK hea
 refine aQ (fun T H nx=>T 4=.ptr 1 1 0∧T 5=.ptr 2 1 0∧T 8=.mp B∧H 1=some [aC a]∧H 2=some [aC b]∧H B=some [.omap (m.fr.map bh) (m.to.map bh)]∧B < nx∧3 ≤ nx) ?_ ?_
 ·(have zz:=aI @g1 (aI @g2 (aI @az @ar)); repeat' (first|refine zW ?_|apply a_n|refine zO ?_|refine vY ?_|refine blY ?_|fail)) <;> (try clear zz)
  refine aM (X:=Nat) (fun k=>[(4,.ptr 1 1 0),(5,.ptr 2 1 0),(8,.mp B),(26,.msl nx1 2 1 0 2),(27,.int .i64 2),(28,.int .i64 k)]) (fun k H nx=>k ≤ 2∧H nx1=some [aC a,aC b]∧nx1 < nx∧H 1=some [aC a]∧H 2=some [aC b]∧H B=some [.omap (m.fr.map bh) (m.to.map bh)]) (fun k=>2 - k) 0 ⟨by omega,aj,by omega,by rw [af (by omega)]; exact g1,by rw [af (by omega)]; exact g2,by rw [af (by omega)]; exact hB3⟩ (by (iterate 6 refine And.intro rfl ?_); trivial) ?_
  rintro k H nx ⟨hk,g,hnx,g1,g2,g3⟩
  rcases (by omega:k=0 ∨ k=1 ∨ k=2) with rfl | rfl | rfl
  ·(have zz:=aI @g (aI @z0 (aI @Nat.zero_mul (aI @az @ar))); repeat' (first|refine zW ?_|apply a_n|refine zO ?_|refine vY ?_|refine cY ?_ (hp:=hca) (hs:=by (first | refine aa ?_ rfl | apply ac); (repeat' (first | exact ab | apply ag | apply ae | exact a7 _)); first | done | fail)|refine alY ?_|refine stY ?_|refine cFY ?_|(refine zGY ?_ ?_ <;> (intro _hg; try (exfalso; omega)))|fail)) <;> (try clear zz)
   exact ⟨1,by omega,⟨by omega,by (repeat rw [af (by omega)]); exact g,by omega,by (repeat rw [af (by omega)]); exact g1,by (repeat rw [af (by omega)]); exact g2,by (repeat rw [af (by omega)]); exact g3⟩,by (iterate 6 refine And.intro rfl ?_); trivial⟩
  ·(have zz:=aI @g (aI @z0 (aI @Nat.one_mul (aI @az @ar))); repeat' (first|refine zW ?_|apply a_n|refine zO ?_|refine vY ?_|refine cY ?_ (hp:=hcb) (hs:=by (first | refine aa ?_ rfl | apply ac); (repeat' (first | exact ab | apply ag | apply ae | exact a7 _)); first | done | fail)|refine alY ?_|refine stY ?_|refine cFY ?_|(refine zGY ?_ ?_ <;> (intro _hg; try (exfalso; omega)))|fail)) <;> (try clear zz)
   exact ⟨2,by omega,⟨by omega,by (repeat rw [af (by omega)]); exact g,by omega,by (repeat rw [af (by omega)]); exact g1,by (repeat rw [af (by omega)]); exact g2,by (repeat rw [af (by omega)]); exact g3⟩,by (iterate 6 refine And.intro rfl ?_); trivial⟩
  ·(have zz:=and_self; repeat' (first|refine zW ?_|apply a_n|apply a_x|refine zO ?_|refine vY ?_|(refine zGY ?_ ?_ <;> (intro _hg; try (exfalso; omega)))|fail)) <;> (try clear zz)
   exact ⟨rfl,rfl,rfl,g1,g2,g3,by omega,by omega⟩
 clear g1 g2 hB3 hsm
 rintro T H nx ⟨t4,t5,t8,g1,g2,g3,hBn,hnx⟩
 (have zz:=aI @t4 (aI @t5 (aI @t8 @g1)); repeat' (first|refine zW ?_|apply a_n|refine zO ?_|refine vY ?_|fail)) <;> (try clear zz)
 refine aD ev0 (have zz:=@t8; evZ) (wq m a q2 (by omega) (fun s hs=>by obtain ⟨p1,p2,p3,p4⟩:=c8 (a2 s hs); exact ⟨by omega,fun e=>by rw [e] at p1; simp at p1⟩) B H nx g3 hBn) ?_
 rintro _ H3 nx3 ⟨hle3,hsm3,h⟩
 rcases h with ⟨ht,rfl⟩ | ⟨ht,sv,rfl,hrow,hbd⟩
 ·rw [if_pos ht]
  (have zz:=and_self; repeat' (first|refine zW ?_|apply a_n|apply a_r|refine zO ?_|refine vY ?_|refine cTY ?_|refine ah rfl ?_|refine r2Y ?_|fail)) <;> (try clear zz)
  exact fc rfl rfl
 rw [if_neg (by rw [ht]; decide)]
 have g2':H3 2=some [aC b]:=(hsm3 2 (by omega)).trans g2
 have hcs:=jI (a.map (bZ m)) (fun s=>!b.any fun t=>bw s t) 48 [.iptr [aC b] 0,.iptr [.func 43 []] 0] (DatL.cons (Dat.iptr (DatL.cons (bl _) DatL.nil)) (DatL.cons (Dat.iptr (DatL.cons (Dat.func DatL.nil) DatL.nil)) DatL.nil)) (fun s hs=>by
  obtain ⟨s0,hs0,rfl⟩:=List.mem_map.1 hs
  refine zB b _ hb hbs ?_
  obtain ⟨p1,p2,p3,p4⟩:=c8 (a2 s0 hs0)
  have:=e9 (K:=aV) (l:=s0.map (de m))
  rw [List.length_map] at this
  show (bZ m s0).length ≤ _
  unfold bZ; omega) (by show _ ≤ _; rw [List.length_map]; omega)
 (have zz:=@t5; repeat' (first|refine zW ?_|apply a_n|refine zO ?_|refine vY ?_|refine alY ?_|refine stY ?_|refine cFY ?_|fail)) <;> (try clear zz)
 refine co ev0 (have zz:=@t5; evZ) hcs (aa (ax (ga (hrow.same fun B hB=>by have:=hbd B hB; (repeat rw [af (by omega)]))) (ax (iv (ax (ew (by (repeat rw [af (by omega)]); exact g2') rfl (ax (bl _ _) ab)) (ax (ew (by rw [aj]; rfl) rfl (ax (Dat.func DatL.nil _) ab)) ab))) ab)) rfl) ?_
 (have zz:=and_self; repeat' (first|apply a_n|refine zO ?_|refine vY ?_|refine ah rfl ?_|refine r2Y ?_|fail)) <;> (try clear zz)
 exact fc sL rfl
end Go.Proofs.YtbgdcebmgjafjaaGreat
namespace Go.Proofs.YtbgdcebmgjafjaaGreat
open Go Go.Abs
theorem eb {c:List Spx}:dZ c=true ↔ c.length ≤ 30∧∀ s ∈ c,s.length ≤ 10:=by
 unfold dZ
 rw [Bool.and_eq_true,decide_eq_true_iff,List.all_eq_true]
 simp only [decide_eq_true_iff]
attribute [local irreducible] aG al bg bc aN aR aE aS bf br Go.Abs.Fn aY Go.Abs.Pure aA aL Yl
set_option maxHeartbeats 1000000 in
theorem wC (m:MapV) (a b:List Spx) (hm:ShM m) (fa:dZ a=true) (fb:dZ b=true):Pure Tryz.prog 13 [eD m,dD a,dD b] (.tup [.bool (ck m a b).1,.int .i64 (ck m a b).2]):=by
 obtain ⟨la,ls⟩:=eb.1 fa
 obtain ⟨lb,lt⟩:=eb.1 fb
 have ha:Shn a:=show _ ≤ _ by omega
 have has:∀ s ∈ a,Shn s:=fun s hs=>show _ ≤ _ by have:=ls s hs; omega
 have hb:Shn b:=show _ ≤ _ by omega
 have hbs:∀ s ∈ b,Shn s:=fun s hs=>show _ ≤ _ by have:=lt s hs; omega
 refine Pure.of_c2 follows BF (Nat.le_of_ble_eq_true rfl) ?_
 simp only [b13,cO,cG,cN,cM,cD,cF,cB,au,aH]
 have hcm:=oT m hm
 have hca:=pd a ha has
 have hcb:=pd b hb hbs
 have hpt:=tn a (by omega) ls
 have hto:=qR m (c7 a) hm (by have:=iX (n:=10) a [] ls; show _ ≤ _; unfold c7; simp only [List.length_nil] at this; omega)
 rw [oO] at hto
 have z0:decide ((0:Int) ≠ 0)=false:=rfl
 unfold ck
 by_cases he:cT m ≠ 0
 ·rw [if_pos he]
  have z:decide (cT m ≠ 0)=true:=decide_eq_true he
  (have zz:=aI @z (aI @ay (aI @ap (aI @az @ar))); repeat' (first|refine zW ?_|apply a_n|apply a_r|refine zO ?_|refine vY ?_|refine cY ?_ (hp:=hcm) (hs:=by (first | refine aa ?_ rfl | apply ac); (repeat' (first | exact ab | apply ag | apply ae | exact aW _)); first | done | fail)|refine bxY ?_|refine cTY ?_|refine ah rfl ?_|refine r2Y ?_|fail)) <;> (try clear zz)
  exact fc rfl rfl
 rw [if_neg he]
 have he:=Decidable.of_not_not he
 rw [he] at hcm
 obtain ⟨q1,q2,q3,q4,q5⟩:=go he
 by_cases hea:be a ≠ 0
 ·rw [if_pos hea]
  have z:decide (be a ≠ 0)=true:=decide_eq_true hea
  (have zz:=aI @z (aI @z0 (aI @ay (aI @ap (aI @az @ar)))); repeat' (first|refine zW ?_|apply a_n|apply a_r|refine zO ?_|refine vY ?_|refine cY ?_ (hp:=by first | exact hcm | exact hca) (hs:=by (first | refine aa ?_ rfl | apply ac); (repeat' (first | exact ab | apply ag | apply ae | exact aW _ | exact a7 _)); first | done | fail)|refine bxY ?_|refine cTY ?_|refine cFY ?_|refine ah rfl ?_|refine r2Y ?_|fail)) <;> (try clear zz)
  exact fc rfl rfl
 rw [if_neg hea]
 have hea:=Decidable.of_not_not hea
 rw [hea] at hca
 by_cases heb:be b ≠ 0
 ·rw [if_pos heb]
  have z:decide (be b ≠ 0)=true:=decide_eq_true heb
  (have zz:=aI @z (aI @z0 (aI @ay (aI @ap (aI @az @ar)))); repeat' (first|refine zW ?_|apply a_n|apply a_r|refine zO ?_|refine vY ?_|refine cY ?_ (hp:=by first | exact hcm | exact hca | exact hcb) (hs:=by (first | refine aa ?_ rfl | apply ac); (repeat' (first | exact ab | apply ag | apply ae | exact aW _ | exact a7 _)); first | done | fail)|refine bxY ?_|refine cTY ?_|refine cFY ?_|refine ah rfl ?_|refine r2Y ?_|fail)) <;> (try clear zz)
  exact fc rfl rfl
 rw [if_neg heb]
 have heb:=Decidable.of_not_not heb
 rw [heb] at hcb
 cases ht:a.all (bD m)
 ·rw [ht] at hto
  rw [if_pos rfl]
  (have zz:=aI @z0 (aI @ay (aI @ap (aI @az @ar))); repeat' (first|refine zW ?_|refine zM ?_|apply a_n|apply a_r|refine zO ?_|refine vY ?_|refine cY ?_ (hp:=by first | exact hcm | exact hca | exact hcb | exact hpt | exact hto) (hs:=by (first | refine aa ?_ rfl | apply ac); (repeat' (first | exact ab | apply ag | apply ae | exact aW _ | exact a7 _ | exact an _)); first | done | fail)|refine bxY ?_|refine cTY ?_|refine cFY ?_|refine ah rfl ?_|refine r2Y ?_|fail)) <;> (try clear zz)
  exact fc rfl rfl
 rw [ht] at hto
 rw [if_neg (by decide)]
 have him:=uA m a hm q2 (by omega) (fun s hs=>⟨by have:=ls s hs; omega,List.all_eq_true.1 ht s hs⟩)
 have hlen:(a.map (bZ m)).length=a.length:=List.length_map _
 have hsm:∀ s ∈ a.map (bZ m),Shn s:=fun s hs=>by
  obtain ⟨s0,h0,rfl⟩:=List.mem_map.1 hs
  have h1:=e9 (K:=aV) (l:=s0.map (de m))
  have h2:=ls s0 h0
  rw [List.length_map] at h1
  show (bZ m s0).length ≤ _
  unfold bZ; omega
 generalize a.map (bZ m)=c at *
 (have zz:=aI @z0 (aI @ay (aI @ap (aI @az @ar))); repeat' (first|refine zW ?_|refine zM ?_|apply a_n|refine zO ?_|refine vY ?_|refine cY ?_ (hp:=by first | exact hcm | exact hca | exact hcb | exact hpt | exact hto | exact him) (hs:=by (first | refine aa ?_ rfl | apply ac); (repeat' (first | exact ab | apply ag | apply ae | exact aW _ | exact a7 _ | exact an _)); first | done | fail)|refine bxY ?_|refine cFY ?_|fail)) <;> (try clear zz)
 refine aM (X:=Nat) (fun k=>[(5,.ptr 2 1 0),(11,aC c),(12,.int .i64 k)]) (fun k H nx=>k ≤ c.length∧H 2=some [aC b]∧∀ i,i < k→(b.any fun t=>bw (c.getD i default) t)=true) (fun k=>c.length - k) 0 ⟨Nat.zero_le _,rfl,fun i h=>absurd h (by omega)⟩ (by (iterate 3 refine And.intro rfl ?_); trivial) ?_
 rintro k H nx ⟨h1,g0,h2⟩
 by_cases hk:k < c.length
 rotate_left
 ·(have zz:=@ak; repeat' (first|refine zW ?_|apply a_n|apply a_x|refine zO ?_|refine vY ?_|(refine zGY ?_ ?_ <;> (intro _hg; try (exfalso; omega)))|refine ah rfl ?_|refine r2Y ?_|fail)) <;> (try clear zz)
  exact fc (eA fun i hi=>h2 i (by omega)).symm rfl
 have ix:=dI hk
 have hh:=yi b (c.getD k default) hb hbs (hsm _ (aO hk))
 cases hd:b.any fun t=>bw (c.getD k default) t
 ·rw [hd] at hh
  (have zz:=aI @ak (aI @ix @g0); repeat' (first|refine zW ?_|refine zM ?_|apply a_n|apply a_r|refine zO ?_|refine vY ?_|refine cY ?_ (hp:=hh) (hs:=by (first | refine aa ?_ rfl | apply ac); (repeat' (first | exact ab | apply ag | apply ae | exact a7 _ | exact an _)); first | done | fail)|refine cTY ?_|(refine zGY ?_ ?_ <;> (intro _hg; try (exfalso; omega)))|refine ah rfl ?_|refine r2Y ?_|fail)) <;> (try clear zz)
  exact fc (dM hk hd).symm rfl
 ·rw [hd] at hh
  (have zz:=aI @ak (aI @ix @g0); repeat' (first|refine zW ?_|refine zM ?_|apply a_n|refine zO ?_|refine vY ?_|refine cY ?_ (hp:=hh) (hs:=by (first | refine aa ?_ rfl | apply ac); (repeat' (first | exact ab | apply ag | apply ae | exact a7 _ | exact an _)); first | done | fail)|refine cFY ?_|(refine zGY ?_ ?_ <;> (intro _hg; try (exfalso; omega)))|fail)) <;> (try clear zz)
  exact ⟨k + 1,by omega,⟨by omega,g0,fun i hi=>by
   rcases Nat.lt_succ_iff_lt_or_eq.1 hi with h' | rfl
   ·exact h2 i h'
   ·exact hd⟩,by (iterate 3 refine And.intro rfl ?_); trivial⟩
end Go.Proofs.YtbgdcebmgjafjaaGreat
namespace Go.Proofs.YtbgdcebmgjafjaaGreat
open Go Go.Abs
def bx:Spx→Nat→List Spx
 | _,0=>[[]]
 | [],_ + 1=>[]
 | x :: l,k + 1=>(bx l k).map (x :: ·) ++ bx l (k + 1)
theorem mM {l:Spx}:bx l 0=[[]]:=by cases l <;> rfl
theorem qy {k:Nat}:bx [] (k + 1)=[]:=rfl
theorem kr {x:Vtx} {l:Spx} {k:Nat}:bx (x :: l) (k + 1)=(bx l k).map (x :: ·) ++ bx l (k + 1):=rfl
theorem dp:∀ {l:Spx} {k:Nat} {s:Spx},s ∈ bx l k ↔ s.Sublist l∧s.length=k
 | l,0,s=>by
  rw [mM,List.mem_singleton]
  exact ⟨fun h=>by subst h; exact ⟨List.nil_sublist _,rfl⟩,fun h=>List.length_eq_zero_iff.1 h.2⟩
 | [],k + 1,s=>by
  rw [qy]
  refine ⟨fun h=>(by cases h),fun ⟨h1,h2⟩=>?_⟩
  rw [List.sublist_nil] at h1
  subst h1; simp at h2
 | x :: l,k + 1,s=>by
  rw [kr,List.mem_append,List.mem_map,dp]
  constructor
  ·rintro (⟨t,ht,rfl⟩ | ⟨h1,h2⟩)
   ·have:=dp.1 ht
    exact ⟨this.1.cons_cons x,by simp [this.2]⟩
   ·exact ⟨h1.cons x,h2⟩
  ·rintro ⟨h1,h2⟩
   cases h1 with
   | cons _ h=>exact .inr ⟨h,h2⟩
   | cons_cons _ h=>exact .inl ⟨_,dp.2 ⟨h,by simpa using h2⟩,rfl⟩
theorem i8 {l:Spx} {k:Nat} (h:l.length < k):bx l k=[]:=by
 cases e:bx l k with
 | nil=>rfl
 | cons a r =>
  have:=dp.1 (show a ∈ bx l k by rw [e]; exact List.mem_cons_self)
  have:=this.1.length_le
  omega
def chK:Nat→Nat→Nat
 | _,0=>1
 | 0,_ + 1=>0
 | n + 1,k + 1=>chK n k + chK n (k + 1)
theorem zQ {n:Nat}:chK n 0=1:=by cases n <;> rfl
theorem nG:∀ {l:Spx} {k:Nat},(bx l k).length=chK l.length k
 | l,0=>by rw [mM,zQ]; rfl
 | [],k + 1=>rfl
 | x :: l,k + 1=>by
  rw [kr,List.length_append,List.length_map,nG,nG]; rfl
theorem yn {n k:Nat} (hn:n ≤ 8):chK n k ≤ 70:=by
 by_cases hk:k ≤ 8
 ·have:∀ n,n < 9→∀ k,k < 9→chK n k ≤ 70:=by decide
  exact this n (by omega) k (by omega)
 ·have:∀ n k,n < k→chK n k=0:=by
    intro n
    induction n with
    | zero=>intro k h; match k,h with | k + 1,_=>rfl
    | succ n ih=>intro k h; match k,h with | k + 1,h=>show chK n k + chK n (k + 1)=0; rw [ih k (by omega),ih (k + 1) (by omega)]
  rw [this n k (by omega)]; omega
theorem lD {l:Spx} {k:Nat} (h:l.length ≤ 8):(bx l k).length ≤ 70:=by rw [nG]; exact yn h
theorem nR {l:Spx} {i k:Nat} (hi:i < l.length):bx (l.drop i) (k + 1)=(bx (l.drop (i + 1)) k).map (l.getD i default :: ·) ++ bx (l.drop (i + 1)) (k + 1):=by
 rw [List.drop_eq_getElem_cons hi,kr]
 simp [List.getD,hi]
end Go.Proofs.YtbgdcebmgjafjaaGreat
namespace Go.Proofs.YtbgdcebmgjafjaaGreat
open Go Go.Abs
open Nat (reduceEqDiff reduceAdd reduceLeDiff)
attribute [local irreducible] aG al bg bc aN aR aE aS bf br Go.Abs.Fn aY Go.Abs.Pure aA aL Yl
theorem uO (s:AV) (l:Spx) (hl:l.length ≤ 1000000) (h0:l ≠ []) (H:Hp) (nx:Nat) (hn:eZ s=some l.length) (hs:∀ H',(∀ x,x < nx→H' x=H x)→dz 2 H' s=some (l.length,cX l)):Abs.Fn Tryz.prog 31 [s] H nx fun r H' nx'=>r=.msl nx (l.length * 2) 2 0 l.length∧H'=am H nx (cX l)∧nx'=nx + 1:=by
 have hpos:=List.length_pos_iff.2 h0
 refine Abs.Fn.of_c2 follows yX (Nat.le_of_ble_eq_true rfl) ?_
 simp only [b31,cO,cG,cN,cM,cD,cF,cB,au,aH]
 (have zz:=and_self; repeat' (first|refine zW ?_|apply a_n|refine zO ?_|refine vY ?_|fail)) <;> (try clear zz)
 refine uN (k:=l.length) (by ((try simp only [bP,ZA,reduceEqDiff,↓reduceIte,reduceAdd,reduceLeDiff]); (try with_reducible rfl)); exact hn) (fun h=>?_) (fun h=>by omega) (fun h=>by omega)
 (have zz:=and_self; repeat' (first|refine zW ?_|apply a_n|refine zO ?_|refine vY ?_|refine b0Y ?_|refine cFY ?_|fail)) <;> (try clear zz)
 refine ph rfl ev0 ev0 (hs _ fun x _=>rfl) (io _) (by omega) (by omega) ?_
 (have zz:=and_self; repeat' (first|apply a_n|refine zO ?_|refine vY ?_|refine ah rfl ?_|refine r1Y ?_|fail)) <;> (try clear zz)
 exact ⟨rfl,rfl,rfl⟩
theorem y5 {y lo kb sb k N:Nat} {s:Spx} (hs:s.length ≤ 1000) (hk:k ≤ 1000) (I:List Spx→Hp→Nat→Prop)
    (hp:∀ S H nx,I S H nx→H kb=some [.int .i64 k]∧H sb=some [ao s]∧lo + 3 ≤ nx∧kb < lo∧sb < lo)
    (stab:∀ S H H' nx nx',I S H nx→nx ≤ nx'→(∀ i,i < nx→¬ (lo ≤ i∧i < lo + 3)→H' i=H i)→I S H' nx')
    (rnd:∀ S f H nx,I S H nx→f.length=k→f ≠ []→S.length < N→Yl Tryz.prog y [.msl nx (k * 2) 2 0 k] (am H nx (cX f)) (nx + 1) fun r H' nx'=>r=.bool true∧I (S ++ [f]) H' nx'∧nx ≤ nx'∧∀ i,lo ≤ i→i < lo + 3→H' i=H i) :
    ∀ (j:Nat) (ch:Spx) (at_:Nat) (S:List Spx) (H:Hp) (nx:Nat),0 < k→ch.length + j=k→S.length + (bx (s.drop at_) j).length ≤ N→at_ ≤ s.length→I S H nx→H lo=some [.yld y]→H (lo + 1)=some [.func 114 [.ptr kb 1 0,.ptr lo 1 0,.ptr sb 1 0,.ptr (lo + 1) 1 0]]→(∃ C,H (lo + 2)=some C∧C.length=k * 2∧C.take (ch.length * 2)=cX ch) →
     Abs.Fn Tryz.prog 114 [.int .i64 at_,.msl (lo + 2) (k * 2) 2 0 ch.length,.ptr kb 1 0,.ptr lo 1 0,.ptr sb 1 0,.ptr (lo + 1) 1 0] H nx fun r H' nx'=>r=.bool true∧I (S ++ (bx (s.drop at_) j).map (ch ++ ·)) H' nx'∧nx ≤ nx'∧H' lo=H lo∧H' (lo + 1)=H (lo + 1)∧∃ C,H' (lo + 2)=some C∧C.length=k * 2∧C.take (ch.length * 2)=cX ch:=by
 intro j
 induction j with
 | zero =>
  intro ch at_ S H nx hk0 hj hN hat hI h1 h2 ⟨C,h3,hc1,hc2⟩
  obtain ⟨g1,g2,g3,g4,g5⟩:=hp _ _ _ hI
  have hlen:ch.length=k:=by omega
  have hne:ch ≠ []:=fun e=>by rw [e] at hlen; simp at hlen; omega
  obtain rfl:C=cX ch:=by rw [← hc2,List.take_of_length_le (by omega)]
  refine Abs.Fn.of_c2 follows wk (Nat.le_of_ble_eq_true rfl) ?_
  simp only [w9,cO,cG,cN,cM,cD,cF,cB,au,aH]
  have hcl:=uO (.msl (lo + 2) (k * 2) 2 0 k) ch (by omega) hne H nx (by rw [hlen]; rfl) (fun H' hH'=>by rw [hlen]; exact (hU (n:=k * 2) (off:=0) (len:=k) ((hH' (lo + 2) (by omega)).trans h3) hc1 (by omega)).trans (by rw [List.drop_zero,List.take_of_length_le (by omega)]))
  rw [hlen] at hcl
  rw [hlen]
  have z:decide ((k:Int)=k)=true:=decide_eq_true rfl
  (have zz:=aI @g1 (aI @g2 (aI @h1 (aI @h2 @z))); repeat' (first|refine zW ?_|apply a_n|refine zO ?_|refine vY ?_|(refine zGY ?_ ?_ <;> (intro _hg; try (exfalso; omega)))|fail)) <;> (try clear zz)
  refine o7 lo h1 fun S0 hS hsub=>?_
  (have zz:=@hS; repeat' (first|apply a_n|refine zO ?_|refine nvY ?_|fail)) <;> (try clear zz)
  refine fF ?_
  refine aD ev0 ev0 hcl ?_
  rintro _ H2 nx2 ⟨rfl,rfl,rfl⟩
  refine kW ⟨hsub _ (by rw [af (by omega)]; exact h1),?_⟩
  refine gD ?_
  refine xd ev0 ev0 (Yl.mono (rnd S ch H nx hI hlen hne (by rw [mM] at hN; exact hN)) ?_)
  rintro r H3 nx3 ⟨rfl,e1,e2,e3⟩
  (have zz:=and_self; repeat' (first|apply a_n|apply a_r|refine zO ?_|refine nvY ?_|refine ah rfl ?_|refine r1Y ?_|fail)) <;> (try clear zz)
  refine ⟨rfl,?_,e2,e3 _ (by omega) (by omega),e3 _ (by omega) (by omega),cX ch,(e3 _ (by omega) (by omega)).trans h3,hc1,by rw [← hlen]; exact hc2⟩
  rw [mM,List.map_cons,List.map_nil,List.append_nil]
  exact e1
 | succ j ih =>
  intro ch at_ S H nx hk0 hj hN hat hI h1 h2 ⟨C,h3,hc1,hc2⟩
  obtain ⟨g1,g2,g3,g4,g5⟩:=hp _ _ _ hI
  refine Abs.Fn.of_c2 follows wk (Nat.le_of_ble_eq_true rfl) ?_
  simp only [w9,cO,cG,cN,cM,cD,cF,cB,au,aH]
  have z:decide ((ch.length:Int)=k)=false:=decide_eq_false (by omega)
  (have zz:=aI @g1 (aI @g2 (aI @h1 (aI @h2 @z))); repeat' (first|refine zW ?_|apply a_n|refine zO ?_|refine vY ?_|refine cFY ?_|fail)) <;> (try clear zz)
  refine aM (X:=Nat × List Spx) (fun x=>[(1,.msl (lo + 2) (k * 2) 2 0 ch.length),(4,.ptr sb 1 0),(5,.ptr (lo + 1) 1 0),(9,.int .i64 x.1)]) (fun x H' nx'=>x.1 ≤ s.length∧I x.2 H' nx'∧nx ≤ nx'∧H' lo=H lo∧H' (lo + 1)=H (lo + 1)∧(∃ C,H' (lo + 2)=some C∧C.length=k * 2∧C.take (ch.length * 2)=cX ch)∧x.2 ++ (bx (s.drop x.1) (j + 1)).map (ch ++ ·)=S ++ (bx (s.drop at_) (j + 1)).map (ch ++ ·)) (fun x=>s.length - x.1) (at_,S) ⟨hat,hI,Nat.le_refl _,rfl,rfl,⟨C,h3,hc1,hc2⟩,rfl⟩ ag0 ?_
  rintro ⟨i,S1⟩ H1 nx1 ⟨i1,hI1,i2,i3,i4,⟨C1,k3,d1,d2⟩,htot⟩
  dsimp only at i1 hI1 htot ⊢
  obtain ⟨q1,q2,q3,q4,q5⟩:=hp _ _ _ hI1
  have w1:=i3.trans h1
  have w2:=i4.trans h2
  by_cases hi:i < s.length
  rotate_left
  ·(have zz:=aI @q1 (aI @q2 @ai); repeat' (first|refine zW ?_|apply a_n|apply a_x|refine zO ?_|refine vY ?_|(refine zGY ?_ ?_ <;> (intro _hg; try (exfalso; omega)))|refine ah rfl ?_|refine r1Y ?_|fail)) <;> (try clear zz)
   rw [show s.drop i=[] from List.drop_eq_nil_of_le (by omega),qy,List.map_nil,List.append_nil] at htot
   exact ⟨rfl,by rw [← htot]; exact hI1,i2,i3,i4,C1,k3,d1,d2⟩
  have ix:=ix2 hi
  rw [nR hi,List.map_append,List.map_map,← List.append_assoc] at htot
  have hmm:(bx (s.drop (i + 1)) j).map ((fun x=>ch ++ x) ∘ fun x=>s.getD i default :: x)=(bx (s.drop (i + 1)) j).map ((ch ++ [s.getD i default]) ++ ·):=List.map_congr_left fun x _=>by simp
  rw [hmm] at htot
  generalize s.getD i default=v at *
  (have zz:=aI @q1 (aI @q2 @ai); repeat' (first|refine zW ?_|apply a_n|refine zO ?_|refine vY ?_|(refine zGY ?_ ?_ <;> (intro _hg; try (exfalso; omega)))|fail)) <;> (try clear zz)
  refine jV sb (lo + 1) q2 w2 (by omega) fun S0 hS1 hS2 hsub=>?_
  (have zz:=aI @hS1 (aI @hS2 @ix); repeat' (first|apply a_n|refine zO ?_|refine nvY ?_|fail)) <;> (try clear zz)
  refine fF ?_
  (have zz:=and_self; repeat' (first|apply a_n|refine zO ?_|refine blY ?_|fail)) <;> (try clear zz)
  refine ⟨hsub _ (by rw [af (by omega)]; exact q2) (by rw [af (by omega)]; exact w2),?_⟩
  refine fF ?_
  refine yL (b:=lo + 2) (m:=k * 2) (off:=0) (len:=ch.length) (n:=1) rfl ev0 (by rw [af (by omega)]; exact k3) ev0 cV rfl d1 (fun _=>by omega) (by omega) (by omega) ?_
  refine kW ⟨hsub _ (by rw [af (by omega),af (by omega)]; exact q2) (by rw [af (by omega),af (by omega)]; exact w2),?_⟩
  refine gD ?_
  have hl1:(ch ++ [v]).length=ch.length + 1:=by simp
  have hcc:=ci ch
  have hput:(bb C1 (0 + ch.length * 2) [.int .i64 v.color,.int .i64 v.label]).length=k * 2∧(bb C1 (0 + ch.length * 2) [.int .i64 v.color,.int .i64 v.label]).take ((ch.length + 1) * 2)=cX (ch ++ [v]):=by
   rw [Nat.zero_add]
   simp only [bb]
   refine ⟨by simp [d1]; omega,?_⟩
   rw [d2,cq,yf,List.take_append_of_le_length (by simp [hcc]; omega),List.take_of_length_le (by simp [hcc]; omega)]
  have hN1:S1.length + (bx (s.drop (i + 1)) j).length ≤ N:=by
   have:=congrArg List.length htot
   simp only [List.length_append,List.length_map] at this
   omega
  have hih:=ih (ch ++ [v]) (i + 1) S1 (am (am H1 nx1 [.int .i64 v.color,.int .i64 v.label]) (lo + 2) (bb C1 (0 + ch.length * 2) [.int .i64 v.color,.int .i64 v.label])) (nx1 + 1) hk0 (by omega) hN1 (by omega) (stab _ _ _ _ _ hI1 (by omega) (fun x hx hn=>by rw [af (by omega),af (by omega)])) (by rw [af (by omega),af (by omega)]; exact w1) (by rw [af (by omega),af (by omega)]; exact w2) ⟨_,aj,hput.1,by rw [hl1]; exact hput.2⟩
  rw [hl1,show ((i + 1:Nat):Int)=(i:Int) + 1 by omega] at hih
  refine aD ev0 ev0 hih ?_
  rintro r H4 nx4 ⟨rfl,f1,f2,f3,f4,C4,f5,f6,f7⟩
  (have zz:=and_self; repeat' (first|apply a_n|refine zO ?_|refine vY ?_|refine nvY ?_|refine cFY ?_|fail)) <;> (try clear zz)
  refine ⟨(i + 1,S1 ++ (bx (s.drop (i + 1)) j).map ((ch ++ [v]) ++ ·)),by dsimp only; omega,⟨by dsimp only; omega,f1,by omega,f3.trans ?_,f4.trans ?_,⟨C4,f5,f6,?_⟩,htot⟩,ag0⟩
  ·rw [af (by omega),af (by omega)]; exact i3
  ·rw [af (by omega),af (by omega)]; exact i4
  ·have:=congrArg (List.take (ch.length * 2)) f7
   rw [List.take_take,Nat.min_eq_left (by omega),cq,List.take_append_of_le_length (by omega)] at this
   rw [this]
   exact List.take_of_length_le (by omega)
end Go.Proofs.YtbgdcebmgjafjaaGreat
namespace Go.Proofs.YtbgdcebmgjafjaaGreat
open Go Go.Abs
open Nat (reduceEqDiff reduceAdd reduceLeDiff)
attribute [local irreducible] aG al bg bc aN aR aE aS bf br Go.Abs.Fn aY Go.Abs.Pure aA aL Yl
theorem vh {y kb sb k:Nat} {s:Spx} {H:Hp} {nx:Nat} (hs:s.length ≤ 1000) (hk0:0 < k) (hk:k ≤ 1000) (I:List Spx→Hp→Nat→Prop)
    (hp:∀ S H nx',I S H nx'→H kb=some [.int .i64 k]∧H sb=some [ao s]∧nx + 3 ≤ nx'∧kb < nx∧sb < nx)
    (stab:∀ S H H' nx1 nx',I S H nx1→nx1 ≤ nx'→(∀ i,i < nx1→¬ (nx ≤ i∧i < nx + 3)→H' i=H i)→I S H' nx')
    (rnd:∀ S f H nx1,I S H nx1→f.length=k→f ≠ []→S.length < (bx s k).length→Yl Tryz.prog y [.msl nx1 (k * 2) 2 0 k] (am H nx1 (cX f)) (nx1 + 1) fun r H' nx'=>r=.bool true∧I (S ++ [f]) H' nx'∧nx1 ≤ nx'∧∀ i,nx ≤ i→i < nx + 3→H' i=H i)
    (gk:H kb=some [.int .i64 k]) (lk:kb < nx) (h0:∀ H',(∀ i,i < nx→H' i=H i)→I [] H' (nx + 3)) :
    Abs.Fn Tryz.prog 113 [.yld y,.ptr kb 1 0,.ptr sb 1 0] H nx fun _ H' nx'=>I (bx s k) H' nx':=by
 refine Abs.Fn.of_c2 follows x5 (Nat.le_of_ble_eq_true rfl) ?_
 simp only [yo,cO,cG,cN,cM,cD,cF,cB,au,aH]
 (have zz:=@gk; repeat' (first|refine zW ?_|apply a_n|refine zO ?_|refine vY ?_|refine alY ?_|refine bxY ?_|refine stY ?_|fail)) <;> (try clear zz)
 generalize hH:am (am (am H nx [.yld y]) (nx + 1) [.nilf]) (nx + 1) (bb [.nilf] 0 [.func 114 [.ptr kb 1 0,.ptr nx 1 0,.ptr sb 1 0,.ptr (nx + 1) 1 0]])=H1
 have hfn:H1 (nx + 1)=some [.func 114 [.ptr kb 1 0,.ptr nx 1 0,.ptr sb 1 0,.ptr (nx + 1) 1 0]]:=by rw [← hH,aj]; rfl
 have hfk:H1 kb=some [.int .i64 k]:=by rw [← hH,af (by omega),af (by omega),af (by omega)]; exact gk
 have hfy:H1 nx=some [.yld y]:=by rw [← hH,af (by omega),af (by omega),aj]
 have hfo:∀ i,i < nx→H1 i=H i:=fun i hi=>by rw [← hH,af (by omega),af (by omega),af (by omega)]
 clear hH
 refine jV kb (nx + 1) hfk hfn (by omega) fun S0 hS1 hS2 hsub=>?_
 (have zz:=aI @hS1 @hS2; repeat' (first|apply a_n|refine zO ?_|refine nvY ?_|fail)) <;> (try clear zz)
 refine fF ?_
 refine xA (k1:=.i64) (k2:=.i64) (n:=0) (m:=k) rfl ev0 ev0 (Int.le_refl _) (by omega) (by omega) (by omega) ?_
 refine kW ⟨hsub _ (by rw [af (by omega)]; exact hfk) (by rw [af (by omega)]; exact hfn),?_⟩
 refine gD ?_
 have hz:(aZ (AV.agg [AV.int .i64 0,AV.int .i64 0]) k).length=k * 2:=by simp [aZ,AV.cells]
 have hih:=y5 (y:=y) (N:=(bx s k).length) (lo:=nx) (kb:=kb) (sb:=sb) (k:=k) (s:=s) hs hk I hp stab rnd k [] 0 [] (am H1 (nx + 2) (aZ (AV.agg [AV.int .i64 0,AV.int .i64 0]) k)) (nx + 3) hk0 (by simp) (by simp) (Nat.zero_le _) (h0 _ (fun i hi=>by rw [af (by omega)]; exact hfo i hi)) (by rw [af (by omega)]; exact hfy) (by rw [af (by omega)]; exact hfn) ⟨_,aj,hz,rfl⟩
 refine aD ev0 (by ((try simp only [bP,ZA,reduceEqDiff,↓reduceIte,reduceAdd,reduceLeDiff]); (try with_reducible rfl)); rfl) hih ?_
 rintro r H4 nx4 ⟨rfl,f1,-⟩
 (have zz:=and_self; repeat' (first|apply a_n|refine zO ?_|apply xD|refine ah rfl ?_|fail)) <;> (try clear zz)
 rw [List.drop_zero,List.nil_append,show (fun x:Spx=>([]:Spx) ++ x)=id from rfl,List.map_id] at f1
 exact f1
theorem qI {kb sb k:Nat} {s:Spx} {H:Hp} {nx:Nat} (hs:s.length ≤ 8) (hk0:0 < k) (hk:k ≤ 1000) (gk:H kb=some [.int .i64 k]) (gs:H sb=some [ao s]) (lk:kb < nx) (ls:sb < nx) :
    Abs.Fn Tryz.prog 112 [.esl,.func 113 [.ptr kb 1 0,.ptr sb 1 0]] H nx fun r H' nx'=>Row H' 1 r ((bx s k).map ao)∧nx ≤ nx'∧∀ b',bE r=some b'→nx ≤ b'∧b' < nx':=by
 refine Abs.Fn.of_c2 follows xK (Nat.le_of_ble_eq_true rfl) ?_
 simp only [yz,cO,cG,cN,cM,cD,cF,cB,au,aH]
 (have zz:=and_self; repeat' (first|refine zW ?_|apply a_n|refine zO ?_|refine vY ?_|refine bxY ?_|fail)) <;> (try clear zz)
 refine tT (nx + 1) (nx + 2) rfl rfl ev0 (fun c0 cj hy=>?_)
 refine Abs.Fn.mono (vh (nx:=nx + 2) (kb:=kb) (sb:=sb) (k:=k) (s:=s) (by omega) hk0 hk (fun S H' nx'=>nx + 5 ≤ nx'∧H' kb=some [.int .i64 k]∧H' sb=some [ao s]∧H' (nx + 1)=some [c0]∧∃ sv,H' nx=some [sv]∧Row H' 1 sv (S.map ao)∧∀ b',bE sv=some b'→nx + 5 ≤ b'∧b' < nx') ?_ ?_ ?_ ?_ ?_ ?_) ?_
 ·rintro S H' nx' ⟨h1,h2,h3,h4,h5⟩
  exact ⟨h2,h3,by omega,by omega,by omega⟩
 ·rintro S H1 H2 a c ⟨h1,h2,h3,h4,sv,h5,h6,h7⟩ hac hs'
  refine ⟨by omega,(hs' _ (by omega) (by omega)).trans h2,(hs' _ (by omega) (by omega)).trans h3,(hs' _ (by omega) (by omega)).trans h4,sv,(hs' _ (by omega) (by omega)).trans h5,h6.same (fun b' hb'=>hs' _ (h7 b' hb').2 (by have:=h7 b' hb'; omega)),fun b' hb'=>⟨(h7 b' hb').1,by have:=h7 b' hb'; omega⟩⟩
 ·rintro S f H' nx' ⟨h1,h2,h3,h4,sv,h5,h6,h7⟩ hfl hf0 hSN
  have h4':am H' nx' (cX f) (nx + 1)=some [c0]:=by rw [af (by omega)]; exact h4
  refine hy _ _ _ _ h4' rfl ?_
  clear hy
  (have zz:=and_self; repeat' (first|apply a_n|refine zO ?_|refine vZ ?_|fail)) <;> (try clear zz)
  refine ⟨h4',?_⟩
  have hS70:=Nat.lt_of_lt_of_le hSN (lD (k:=k) hs)
  have hd:bN (am H' nx' (cX f)) (nx + 1) nx'=some (cX f):=by rw [fx (by omega),aj]
  have hdo:∀ x,x < nx'→x ≠ nx + 1→bN (am H' nx' (cX f)) (nx + 1) x=H' x:=fun x a b=>by rw [fx b,af (by omega)]
  generalize bN (am H' nx' (cX f)) (nx + 1)=H1 at *
  refine du ?_
  refine pE (only nx' (cX f)) (bN H1 nx') [(2,.ptr nx 1 0),(5,ao f)] (Fz.one hd) ⟨.inl rfl,.inr (ik (s:=.msl nx' (k * 2) 2 0 k) (by rw [← hfl]; exact Row.box nx' f.length (cX f) jK (ci f))),trivial⟩ ?_
  have he:∀ x,x < nx'→x ≠ nx + 1→bN H1 nx' x=H' x:=fun x a b=>by rw [fx (by omega)]; exact hdo x a b
  have g5:bN H1 nx' nx=some [sv]:=(he nx (by omega) (by omega)).trans h5
  clear hd hdo
  generalize bN H1 nx'=H2 at *
  (have zz:=aI @g5 (aI @ay @ap); repeat' (first|apply a_n|refine zO ?_|refine vY ?_|refine blY ?_|fail)) <;> (try clear zz)
  refine cH rfl ev0 (h6.same fun b' hb'=>?_) ev0 ca rfl rfl Nat.one_pos (by rw [List.length_map]; omega) (by rw [List.length_map]; omega) ?_
  ·have:=h7 b' hb'
   rw [af (by omega)]; exact he _ (by omega) (by omega)
  rintro sv' H3 nx3 r1 r2 r3 r4 r5
  have zs:∀ x,x < nx + 5→bE sv ≠ some x:=fun x hx e=>by have:=h7 x e; omega
  have z:∀ x,x < nx'→x ≠ nx + 1→bE sv ≠ some x→H3 x=H' x:=fun x a1 a2 a3=>(r4 x (by omega) a3).trans (by rw [af (by omega)]; exact he x a1 a2)
  have g6:H3 nx=some [sv]:=(z nx (by omega) (by omega) (zs _ (by omega))).trans h5
  obtain ⟨q1,q2⟩:=r1.one
  (have zz:=aI @g6 (aI @q1 @q2); repeat' (first|apply a_n|refine zO ?_|refine stY ?_|fail)) <;> (try clear zz)
  have w:∀ x,x ≠ nx→x ≠ nx + 1→am (am H3 nx (bb [sv] 0 [sv'])) (nx + 1) [c0] x=H3 x:=fun x a1 a2=>by rw [af a2,af a1]
  have u7:∀ b',bE sv'=some b'→nx + 5 ≤ b'∧b' < nx3:=fun b' hb'=>by
   rcases r5 b' hb' with e | ⟨e1,e2⟩
   ·have:=h7 b' e; omega
   ·omega
  refine ⟨rfl,⟨by omega,?_,?_,aj,sv',?_,?_,u7⟩,by omega,fun x x1 x2=>?_⟩
  ·rw [w _ (by omega) (by omega),z _ (by omega) (by omega) (zs _ (by omega)),h2]
  ·rw [w _ (by omega) (by omega),z _ (by omega) (by omega) (zs _ (by omega)),h3]
  ·rw [af (by omega),aj]; rfl
  ·rw [List.map_append]
   exact r1.same (fun b' hb'=>w b' (by have:=u7 b' hb'; omega) (by have:=u7 b' hb'; omega))
  ·rw [w _ (by omega) (by omega),z _ (by omega) (by omega) (zs _ (by omega))]
 ·rw [af (by omega),af (by omega)]; exact gk
 ·omega
 ·intro H' hH'
  refine ⟨by omega,?_,?_,?_,.esl,?_,.nil,fun b' hb'=>(by cases hb')⟩
  ·rw [hH' _ (by omega),af (by omega),af (by omega),gk]
  ·rw [hH' _ (by omega),af (by omega),af (by omega),gs]
  ·rw [hH' _ (by omega),aj]
  ·rw [hH' _ (by omega),af (by omega),aj]
 ·rintro r H' nx' ⟨h1,h2,h3,h4,sv,h5,h6,h7⟩
  refine .inl ⟨h4,?_⟩
  (have zz:=@h5; repeat' (first|refine zW ?_|apply a_n|refine zO ?_|refine vY ?_|refine ah rfl ?_|refine r1Y ?_|fail)) <;> (try clear zz)
  exact ⟨h6.same (fun b' hb'=>fx (by have:=h7 b' hb'; omega)),by omega,fun b' hb'=>by have:=h7 b' hb'; omega⟩
end Go.Proofs.YtbgdcebmgjafjaaGreat
namespace Go.Proofs.YtbgdcebmgjafjaaGreat
open Go Go.Abs
theorem su {m:MapV} {l:Spx}:(bZ m l).length ≤ l.length:=by
 unfold bZ
 have:=e9 (K:=aV) (l:=l.map (de m))
 rwa [List.length_map] at this
theorem ff {m:MapV} {l:Spx}:bD m l=true ↔ ∀ v ∈ l,v ∈ m.fr:=by
 unfold bD; simp [List.all_eq_true]
end Go.Proofs.YtbgdcebmgjafjaaGreat
namespace Go.Proofs.YtbgdcebmgjafjaaGreat
open Go Go.Abs
attribute [local irreducible] aG al bg bc aN aR aE aS bf br Go.Abs.Fn aY Go.Abs.Pure aA aL Yl
end Go.Proofs.YtbgdcebmgjafjaaGreat
namespace Go.Proofs.YtbgdcebmgjafjaaGreat
open Go Go.Abs
def lX (s:Spx) (k:Int):List Spx × Int:=if bL s ≠ 0 then ([],bL s) else if k < 1 ∨ (s.length:Int) < k then ([],2) else (bx s k.toNat,0)
theorem fC {H:Hp} {s:AV} {l:List Spx} {e f:Int} (h:Snap H s (aC l)) (he:e=f):Snap H (.tup [s,.int .i64 e]) (.tup [aC l,.int .i64 f]):=by
 subst he; exact fi (ax h (ax (.int _ _) ab))
attribute [local irreducible] aG al bg bc aN aR aE aS bf br Go.Abs.Fn aY Go.Abs.Pure aA aL Yl
theorem vC (s:Spx) (k:Nat) (H:Hp) (nx:Nat):Abs.Fn Tryz.prog 76 [ao s,.int .i64 k] H nx fun r H' nx'=>r=.func 113 [.ptr (nx + 1) 1 0,.ptr nx 1 0]∧H'=am (am H nx [ao s]) (nx + 1) [.int .i64 k]∧nx'=nx + 2:=by
 refine Abs.Fn.of_c2 follows Ar (Nat.le_of_ble_eq_true rfl) ?_
 simp only [b76,cO,cG,cN,cM,cD,cF,cB,au,aH]
 (have zz:=aI @ay @ap; repeat' (first|refine zW ?_|apply a_n|refine zO ?_|refine vY ?_|refine bxY ?_|refine ah rfl ?_|refine r1Y ?_|fail)) <;> (try clear zz)
 exact ⟨rfl,rfl,rfl⟩
theorem um {kb sb k:Nat} {s:Spx} {H:Hp} {nx:Nat} (hs:s.length ≤ 8) (hk0:0 < k) (hk:k ≤ 1000) (gk:H kb=some [.int .i64 k]) (gs:H sb=some [ao s]) (lk:kb < nx) (ls:sb < nx) :
    Abs.Fn Tryz.prog 75 [.func 113 [.ptr kb 1 0,.ptr sb 1 0]] H nx fun r H' nx'=>Row H' 1 r ((bx s k).map ao)∧nx ≤ nx':=by
 refine Abs.Fn.of_c2 follows zp (Nat.le_of_ble_eq_true rfl) ?_
 simp only [b75,cO,cG,cN,cM,cD,cF,cB,au,aH]
 (have zz:=and_self; repeat' (first|refine zW ?_|apply a_n|refine zO ?_|refine vY ?_|fail)) <;> (try clear zz)
 refine aD ev0 ev0 (qI hs hk0 hk gk gs lk ls) ?_
 rintro r H1 nx1 ⟨r1,r2,r3⟩
 obtain ⟨q1,q2⟩:=r1.one
 (have zz:=aI @q1 @q2; repeat' (first|apply a_n|refine zO ?_|refine vY ?_|refine ah rfl ?_|refine r1Y ?_|fail)) <;> (try clear zz)
 exact ⟨r1,r2⟩
theorem uS (s:Spx) (k:Int) (hs:Shn s):Pure Tryz.prog 35 [ao s,.int .i64 k] (.tup [aC (lX s k).1,.int .i64 (lX s k).2]):=by
 refine Pure.of_c2 follows zT (Nat.le_of_ble_eq_true rfl) ?_
 simp only [b35,cO,cG,cN,cM,cD,cF,cB,au,aH]
 have hc:=nw s hs
 unfold lX
 by_cases he:bL s=0
 rotate_left
 ·rw [if_pos he]
  have z:decide (bL s ≠ 0)=true:=decide_eq_true he
  (have zz:=@z; repeat' (first|refine zW ?_|apply a_n|apply a_r|refine zO ?_|refine vY ?_|refine cY ?_ (hp:=hc) (hs:=by (first | refine aa ?_ rfl | apply ac); (repeat' (first | exact ab | apply ag | apply ae | exact an _)); first | done | fail)|refine cTY ?_|refine ah rfl ?_|refine r2Y ?_|fail)) <;> (try clear zz)
  exact fC (.eslsl _) rfl
 rw [if_neg (fun h=>h he)]
 rw [he] at hc
 obtain ⟨p1,p2,p3,p4⟩:=c8 he
 have z0:decide ((0:Int) ≠ 0)=false:=rfl
 by_cases hk:k < 1 ∨ (s.length:Int) < k
 ·rw [if_pos hk]
  (have zz:=aI @z0 @ai; repeat' (first|refine zW ?_|apply a_n|apply a_r|refine zO ?_|refine vY ?_|refine cY ?_ (hp:=hc) (hs:=by (first | refine aa ?_ rfl | apply ac); (repeat' (first | exact ab | apply ag | apply ae | exact an _)); first | done | fail)|refine gTY ?_|refine gFY ?_|refine cTY ?_|refine cFY ?_|(refine zGY ?_ ?_ <;> (intro _hg; try (exfalso; omega)))|refine ah rfl ?_|refine r2Y ?_|fail)) <;> (try clear zz)
  all_goals first | exact fC (.eslsl _) rfl | (exfalso; omega)
 rw [if_neg hk]
 obtain ⟨n,rfl⟩:∃ n:Nat,k=n:=⟨k.toNat,by omega⟩
 rw [Int.toNat_natCast]
 (have zz:=aI @z0 @ai; repeat' (first|refine zW ?_|apply a_n|refine zO ?_|refine vY ?_|refine cY ?_ (hp:=hc) (hs:=by (first | refine aa ?_ rfl | apply ac); (repeat' (first | exact ab | apply ag | apply ae | exact an _)); first | done | fail)|refine gTY ?_|refine cFY ?_|(refine zGY ?_ ?_ <;> (intro _hg; try (exfalso; omega)))|fail)) <;> (try clear zz)
 refine aD ev0 ev0 (vC s n _ _) ?_
 rintro _ H1 nx1 ⟨rfl,rfl,rfl⟩
 refine aD ev0 ev0 (um (kb:=0 + 1) (sb:=0) (k:=n) (s:=s) p2 (by omega) (by omega) aj (by rw [af (by omega),aj]) (by omega) (by omega)) ?_
 rintro r H2 nx2 ⟨r1,r2⟩
 obtain ⟨q1,q2⟩:=r1.one
 (have zz:=aI @q1 @q2; repeat' (first|apply a_n|refine zO ?_|refine vY ?_|refine ah rfl ?_|refine r2Y ?_|fail)) <;> (try clear zz)
 exact fC (ga r1) rfl
end Go.Proofs.YtbgdcebmgjafjaaGreat
namespace Go.Proofs.YtbgdcebmgjafjaaGreat
open Go Go.Abs
def oI (l:List Spx) (v:Spx) (k:Nat):List Spx:=if (l.take k).any (fun y=>decide (bi v y < 0))=true then fT bi (l.take k) v else l.take k
theorem ui {l:List Spx} {v:Spx} {k:Nat} (hk:k < l.length):oI l v (k + 1)=(if (l.take k).any (fun y=>decide (bi v y < 0))=false∧bi v (l.getD k default) < 0 then oI l v k ++ [v] else oI l v k) ++ [l.getD k default]∧(l.take (k + 1)).any (fun y=>decide (bi v y < 0))=((l.take k).any (fun y=>decide (bi v y < 0)) || decide (bi v (l.getD k default) < 0)):=by
 unfold oI
 rw [bt hk,qM]
 refine ⟨?_,rfl⟩
 by_cases hv:bi v (l.getD k default) < 0
 ·rw [decide_eq_true hv,Bool.or_true,if_pos rfl]
  cases ha:(l.take k).any fun y=>decide (bi v y < 0)
  ·rw [if_pos ⟨rfl,hv⟩,if_neg (by decide),n9 ha hv]
  ·rw [if_neg (fun h=>by cases h.1),if_pos rfl,js ha]
 ·rw [decide_eq_false hv,Bool.or_false]
  cases ha:(l.take k).any fun y=>decide (bi v y < 0)
  ·simp
   simpa using hv
  ·simp [hv,js ha]
theorem uT {l:List Spx} {v:Spx} {k:Nat}:(oI l v k).length ≤ l.length + 1:=by
 unfold oI
 split
 ·rw [mI,List.length_take]; omega
 ·rw [List.length_take]; omega
attribute [local irreducible] aG al bg bc aN aR aE aS bf br Go.Abs.Fn aY Go.Abs.Pure aA aL Yl
theorem wQ (l:List Spx) (v:Spx) (hl:l.length ≤ 1000000) (hs:∀ s ∈ l,Shn s) (hv:Shn v):Pure Tryz.prog 102 [aC l,ao v] (aC (e7 bi l v)):=by
 refine Pure.of_c2 follows AN (Nat.le_of_ble_eq_true rfl) ?_
 simp only [AD,cO,cG,cN,cM,cD,cF,cB,au,aH]
 (have zz:=@ak; repeat' (first|refine zW ?_|apply a_n|refine zO ?_|refine vY ?_|fail)) <;> (try clear zz)
 refine aM (X:=Nat × AV) (fun x=>[(0,aC l),(1,ao v),(5,x.2),(6,.bool ((l.take x.1).any fun y=>decide (bi v y < 0))),(7,.int .i64 x.1)]) (fun x H nx=>x.1 ≤ l.length∧Row H 1 x.2 ((oI l v x.1).map ao)∧(∀ b,bE x.2=some b→b < nx)∧∀ i,i < x.1→l.getD i default ≠ v) (fun x=>l.length - x.1) (0,.esl) ⟨Nat.zero_le _,Row.nil,fun b h=>(by cases h),fun i h=>absurd h (by omega)⟩ (by (iterate 5 refine And.intro rfl ?_); trivial) ?_
 rintro ⟨k,sv⟩ H nx ⟨hk,hrow,hbd,hne⟩
 dsimp only at hk hrow hbd hne ⊢
 by_cases hk2:k < l.length
 rotate_left
 ·obtain rfl:k=l.length:=by omega
  unfold oI at hrow
  rw [List.take_length] at hrow ⊢
  have hnm:v ∉ l:=fun hm=>by
   obtain ⟨i,hi,e⟩:=List.getElem_of_mem hm
   exact hne i hi (by simp [List.getD,hi,e])
  unfold e7
  rw [if_neg hnm]
  cases ha:l.any fun y=>decide (bi v y < 0)
  ·rw [ha,if_neg (by decide)] at hrow
   (have zz:=aI @ak (aI @ay @ap); repeat' (first|refine zW ?_|apply a_n|apply a_x|refine zO ?_|refine vY ?_|refine blY ?_|refine cTY ?_|(refine zGY ?_ ?_ <;> (intro _hg; try (exfalso; omega)))|fail)) <;> (try clear zz)
   refine cH rfl ev0 (hrow.same fun b hb=>?_) ev0 ca rfl rfl (by omega) (by simp; omega) (by simp; omega) ?_
   ·have:=hbd b hb; rw [af (by omega)]
   rintro s2 H2 nx2 hr2 _ _ _ _
   obtain ⟨o1,o2⟩:=hr2.one
   (have zz:=aI @o1 @o2; repeat' (first|refine zW ?_|apply a_n|refine zO ?_|refine vY ?_|refine ah rfl ?_|refine r1Y ?_|fail)) <;> (try clear zz)
   rw [nZ ha]
   refine ga ?_
   rw [List.map_append]; exact hr2
  ·rw [ha,if_pos rfl] at hrow
   obtain ⟨o1,o2⟩:=hrow.one
   (have zz:=aI @ak (aI @o1 @o2); repeat' (first|refine zW ?_|apply a_n|apply a_x|refine zO ?_|refine vY ?_|refine cFY ?_|(refine zGY ?_ ?_ <;> (intro _hg; try (exfalso; omega)))|refine ah rfl ?_|refine r1Y ?_|fail)) <;> (try clear zz)
   exact ga hrow
 have ix:=dI hk2
 have hc:=ef v (l.getD k default) hv (hs _ (aO hk2))
 have hz:=@n7 v (l.getD k default)
 obtain ⟨e1,e2⟩:=ui (v:=v) hk2
 have hl1:((oI l v k).map ao).length ≤ 1000001:=by rw [List.length_map]; have:=uT (l:=l) (v:=v) (k:=k); omega
 have hmem:l.getD k default ∈ l:=aO hk2
 by_cases h0:bi v (l.getD k default)=0
 ·have e:=hz.1 h0
  have hp:e7 bi l v=l:=by unfold e7; rw [if_pos (by rw [e]; exact hmem)]
  rw [hp]
  rw [h0] at hc
  have z0:decide ((0:Int)=0)=true:=rfl
  generalize l.getD k default=w at *
  (have zz:=aI @ak (aI @ix (aI @z0 (aI @ay @ap))); repeat' (first|refine zW ?_|apply a_n|apply a_r|refine zO ?_|refine vY ?_|refine cY ?_ (hp:=hc) (hs:=by (first | refine aa ?_ rfl | apply ac); (repeat' (first | exact ab | apply ag | apply ae | exact an _)); first | done | fail)|(refine zGY ?_ ?_ <;> (intro _hg; try (exfalso; omega)))|refine ah rfl ?_|refine r1Y ?_|fail)) <;> (try clear zz)
  exact bl _ _
 have hnew:∀ i,i < k + 1→l.getD i default ≠ v:=fun i hi=>by
  rcases Nat.lt_succ_iff_lt_or_eq.1 hi with h' | rfl
  ·exact hne i h'
  ·exact fun e=>h0 (hz.2 e.symm)
 have z0:decide (bi v (l.getD k default)=0)=false:=decide_eq_false h0
 by_cases hd:(l.take k).any (fun y=>decide (bi v y < 0))=false∧bi v (l.getD k default) < 0
 ·rw [if_pos hd] at e1
  rw [hd.1,decide_eq_true hd.2,Bool.false_or] at e2
  obtain ⟨d1,d2⟩:=hd
  rw [d1]
  have z:decide (bi v (l.getD k default) < 0)=true:=decide_eq_true d2
  generalize bi v (l.getD k default)=cv at *
  generalize l.getD k default=w at *
  (have zz:=aI @ak (aI @ix (aI @z (aI @z0 (aI @ay @ap)))); repeat' (first|refine zW ?_|apply a_n|refine zO ?_|refine vY ?_|refine cY ?_ (hp:=hc) (hs:=by (first | refine aa ?_ rfl | apply ac); (repeat' (first | exact ab | apply ag | apply ae | exact an _)); first | done | fail)|refine blY ?_|refine gTY ?_|refine cTY ?_|refine cFY ?_|(refine zGY ?_ ?_ <;> (intro _hg; try (exfalso; omega)))|fail)) <;> (try clear zz)
  refine cH rfl ev0 (hrow.same fun b hb=>?_) ev0 ca rfl rfl (by omega) (by omega) (by omega) ?_
  ·have:=hbd b hb; rw [af (by omega)]
  rintro s1 H1 nx1 hr1 j1 j2 j3 j4
  have hb1:∀ b,bE s1=some b→b < nx1:=fun b hb=>by
   rcases j4 b hb with h | h
   ·have:=hbd b h; omega
   ·omega
  obtain ⟨o1,o2⟩:=hr1.one
  (have zz:=aI @ix (aI @o1 (aI @o2 (aI @ay @ap))); repeat' (first|apply a_n|refine zO ?_|refine vY ?_|refine blY ?_|fail)) <;> (try clear zz)
  refine cH rfl ev0 (hr1.same fun b hb=>?_) ev0 ca rfl rfl (by omega) (by simp at hl1 ⊢; omega) (by simp at hl1 ⊢; omega) ?_
  ·have:=hb1 b hb; rw [af (by omega)]
  rintro s2 H2 nx2 hr2 i1 i2 i3 i4
  (have zz:=@e2; repeat' (first|apply a_n|refine zO ?_|refine vY ?_|fail)) <;> (try clear zz)
  refine ⟨(k + 1,s2),by dsimp only; omega,⟨by dsimp only; omega,?_,fun b hb=>?_,hnew⟩,(have zz:=@e2; agZ)⟩
  ·dsimp only
   rw [e1,List.map_append,List.map_append]; exact hr2
  ·rcases i4 b hb with h | h
   ·have:=hb1 b h; omega
   ·omega
 rw [if_neg hd] at e1
 cases ha:(l.take k).any fun y=>decide (bi v y < 0)
 ·have d2:¬ bi v (l.getD k default) < 0:=fun h=>hd ⟨ha,h⟩
  rw [ha,decide_eq_false d2,Bool.false_or] at e2
  have z:decide (bi v (l.getD k default) < 0)=false:=decide_eq_false d2
  generalize bi v (l.getD k default)=cv at *
  generalize l.getD k default=w at *
  (have zz:=aI @ak (aI @ix (aI @z (aI @z0 (aI @ay @ap)))); repeat' (first|refine zW ?_|apply a_n|refine zO ?_|refine vY ?_|refine cY ?_ (hp:=hc) (hs:=by (first | refine aa ?_ rfl | apply ac); (repeat' (first | exact ab | apply ag | apply ae | exact an _)); first | done | fail)|refine blY ?_|refine gTY ?_|refine cFY ?_|(refine zGY ?_ ?_ <;> (intro _hg; try (exfalso; omega)))|fail)) <;> (try clear zz)
  refine cH rfl ev0 (hrow.same fun b hb=>?_) ev0 ca rfl rfl (by omega) (by omega) (by omega) ?_
  ·have:=hbd b hb; rw [af (by omega)]
  rintro s2 H2 nx2 hr2 i1 i2 i3 i4
  (have zz:=@e2; repeat' (first|apply a_n|refine zO ?_|refine vY ?_|fail)) <;> (try clear zz)
  refine ⟨(k + 1,s2),by dsimp only; omega,⟨by dsimp only; omega,?_,fun b hb=>?_,hnew⟩,(have zz:=@e2; agZ)⟩
  ·dsimp only
   rw [e1,List.map_append]; exact hr2
  ·rcases i4 b hb with h | h
   ·have:=hbd b h; omega
   ·omega
 ·rw [ha,Bool.true_or] at e2
  generalize bi v (l.getD k default)=cv at *
  generalize l.getD k default=w at *
  (have zz:=aI @ak (aI @ix (aI @z0 (aI @ay @ap))); repeat' (first|refine zW ?_|apply a_n|refine zO ?_|refine vY ?_|refine cY ?_ (hp:=hc) (hs:=by (first | refine aa ?_ rfl | apply ac); (repeat' (first | exact ab | apply ag | apply ae | exact an _)); first | done | fail)|refine blY ?_|refine gFY ?_|refine cFY ?_|(refine zGY ?_ ?_ <;> (intro _hg; try (exfalso; omega)))|fail)) <;> (try clear zz)
  refine cH rfl ev0 (hrow.same fun b hb=>?_) ev0 ca rfl rfl (by omega) (by omega) (by omega) ?_
  ·have:=hbd b hb; rw [af (by omega)]
  rintro s2 H2 nx2 hr2 i1 i2 i3 i4
  (have zz:=@e2; repeat' (first|apply a_n|refine zO ?_|refine vY ?_|fail)) <;> (try clear zz)
  refine ⟨(k + 1,s2),by dsimp only; omega,⟨by dsimp only; omega,?_,fun b hb=>?_,hnew⟩,(have zz:=@e2; agZ)⟩
  ·dsimp only
   rw [e1,List.map_append]; exact hr2
  ·rcases i4 b hb with h | h
   ·have:=hbd b h; omega
   ·omega
end Go.Proofs.YtbgdcebmgjafjaaGreat
namespace Go.Proofs.YtbgdcebmgjafjaaGreat
open Go Go.Abs
attribute [local irreducible] aG al bg bc aN aR aE aS bf br Go.Abs.Fn aY Go.Abs.Pure aA aL Yl
end Go.Proofs.YtbgdcebmgjafjaaGreat
namespace Go.Proofs.YtbgdcebmgjafjaaGreat
open Go Go.Abs
theorem kN {H:Hp} {t x x':AV} {cs c:List AV} {nb:Nat} (hrow:Row H 1 t (cs ++ [x])) (hx:H nb=some c) (hs:Snap (only nb c) x x') (hne:bE t ≠ some nb):∃ H',Fz (only nb c) H H'∧Row H' 1 t (cs ++ [x'])∧∀ y,y ≠ nb→bE t ≠ some y→H' y=H y:=by
 generalize hcs:cs ++ [x]=ds at hrow
 cases hrow with
 | nil=>exact absurd (congrArg List.length hcs) (by simp)
 | box b len ds g1 g2 =>
  have hb:b ≠ nb:=fun e=>hne (by rw [e]; rfl)
  refine ⟨am (bN H nb) b (cs ++ [x']),⟨fun y d h=>?_,fun y d h=>?_⟩,Row.box b len _ aj (by rw [← g2,← hcs]; simp),fun y h1 h2=>?_⟩
  ·unfold only at h
   split at h
   ·rename_i e; rw [e,hx]; exact h
   ·cases h
  ·by_cases e:y=b
   ·subst e
    rw [aj] at h; cases h
    exact ⟨ds,g1,if_neg hb,by rw [← hcs]; exact d5.snoc hs⟩
   ·rw [af e] at h
    by_cases e2:y=nb
    ·rw [e2] at h; exact absurd h (by simp [bN])
    ·rw [fx e2] at h
     exact ⟨d,h,if_neg e2,d5.refl _ _⟩
  ·rw [af (fun e=>h2 (by rw [e]; rfl)),fx h1]
theorem rD {l:Spx} {k:Nat} (h:k ≤ l.length):lN 2 (ao l) (some (.int .i64 k)) none none=some (ao (l.drop k)):=jl h
attribute [local irreducible] aG al bg bc aN aR aE aS bf br Go.Abs.Fn aY Go.Abs.Pure aA aL Yl
theorem rj:∀ (k:Nat) (s:Spx),k ≤ 1000→s.length ≤ 8→Pure Tryz.prog 124 [ao s,.int .i64 k] (aC (bx s k)):=by
 intro k
 induction k with
 | zero =>
  intro s hkk hs
  refine Pure.of_c2 follows xF (Nat.le_of_ble_eq_true rfl) ?_
  simp only [yE,cO,cG,cN,cM,cD,cF,cB,au,aH]
  rw [mM]
  have z:decide (((0:Nat):Int)=0)=true:=rfl
  (have zz:=@z; repeat' (first|refine zW ?_|apply a_n|apply a_r|refine zO ?_|refine vY ?_|refine blY ?_|refine cTY ?_|refine ah rfl ?_|refine r1Y ?_|fail)) <;> (try clear zz)
  refine mC (l:=[ao []]) aj rfl (by simp) rfl (fun y hy=>?_) (fun i a c ha hc=>?_)
  ·simp at hy; subst hy; rfl
  ·match i with
   | 0=>simp at ha hc; subst ha hc; exact .eslsl 2
 | succ k ih =>
  intro s hkk hs
  refine Pure.of_c2 follows xF (Nat.le_of_ble_eq_true rfl) ?_
  simp only [yE,cO,cG,cN,cM,cD,cF,cB,au,aH]
  have z:decide (((k + 1:Nat):Int)=0)=false:=decide_eq_false (by omega)
  have htot:=lD (l:=s) (k:=k + 1) hs
  (have zz:=@z; repeat' (first|refine zW ?_|apply a_n|refine zO ?_|refine vY ?_|refine cFY ?_|fail)) <;> (try clear zz)
  refine aM (X:=Nat × AV × List Spx) (fun x=>[(0,ao s),(1,.int .i64 ((k + 1:Nat):Int)),(5,x.2.1),(6,.int .i64 x.1)]) (fun x H nx=>x.1 ≤ s.length∧Row H 1 x.2.1 (x.2.2.map ao)∧(∀ b,bE x.2.1=some b→b < nx)∧x.2.2 ++ bx (s.drop x.1) (k + 1)=bx s (k + 1)) (fun x=>s.length - x.1) (0,.esl,[]) ⟨Nat.zero_le _,Row.nil,fun b h=>(by cases h),rfl⟩ (by (iterate 4 refine And.intro rfl ?_); trivial) ?_
  rintro ⟨i,sv,D⟩ H nx ⟨h1,hrow,hbd,hD⟩
  dsimp only at h1 hrow hbd hD ⊢
  by_cases hi:i + (k + 1) ≤ s.length
  rotate_left
  ·have z2:decide ((i:Int) + ((k + 1:Nat):Int) ≤ s.length)=false:=decide_eq_false (by omega)
   obtain ⟨o1,o2⟩:=hrow.one
   (have zz:=aI @ai (aI @z2 (aI @o1 @o2)); repeat' (first|refine zW ?_|apply a_n|apply a_x|refine zO ?_|refine vY ?_|refine cFY ?_|refine ah rfl ?_|refine r1Y ?_|fail)) <;> (try clear zz)
   rw [i8 (by rw [List.length_drop]; omega),List.append_nil] at hD
   rw [← hD]
   exact ga hrow
  have z2:decide ((i:Int) + ((k + 1:Nat):Int) ≤ s.length)=true:=decide_eq_true (by omega)
  have hi2:i < s.length:=by omega
  have tk:((k + 1:Nat):Int) - 1=(k:Nat):=by omega
  have ti:(i:Int) + 1=(i + 1:Nat):=by omega
  have hsl:=rD (l:=s) (k:=i + 1) (by omega)
  have hcall:=ih (s.drop (i + 1)) (by omega) (by rw [List.length_drop]; omega)
  have hR:=lD (l:=s.drop (i + 1)) (k:=k) (by rw [List.length_drop]; omega)
  have hRl:∀ f ∈ bx (s.drop (i + 1)) k,f.length ≤ 8:=fun f hf=>by
   have:=(dp.1 hf).1.length_le
   rw [List.length_drop] at this; omega
  have ix:=ix2 hi2
  have hDD:D ++ (bx (s.drop (i + 1)) k).map (s.getD i default :: ·) ++ bx (s.drop (i + 1)) (k + 1)=bx s (k + 1):=by rw [← hD,nR hi2,List.append_assoc]
  have hDl:D.length + (bx (s.drop (i + 1)) k).length ≤ 70:=by
   have:=congrArg List.length hDD
   rw [List.length_append,List.length_append,List.length_map] at this
   omega
  clear hD htot
  generalize bx (s.drop (i + 1)) k=R at *
  generalize s.getD i default=v at *
  obtain ⟨o1,o2⟩:=hrow.one
  (have zz:=aI @ai (aI @ak (aI @z2 (aI @tk (aI @ti (aI @hsl (aI @o1 @o2)))))); repeat' (first|refine zW ?_|apply a_n|refine zO ?_|refine vY ?_|refine cY ?_ (hp:=hcall) (hs:=by (first | refine aa ?_ rfl | apply ac); (repeat' (first | exact ab | apply ag | apply ae | exact an _)); first | done | fail)|refine cTY ?_|fail)) <;> (try clear zz)
  refine n8 (X:=Nat × AV) (fun x=>[(0,ao s),(1,.int .i64 ((k + 1:Nat):Int)),(5,x.2),(6,.int .i64 i),(7,aC R),(8,.int .i64 x.1)]) (fun x H nx=>x.1 ≤ R.length∧Row H 1 x.2 ((D ++ (R.take x.1).map (v :: ·)).map ao)∧∀ b,bE x.2=some b→b < nx) (fun x=>R.length - x.1) (0,sv) ⟨a9,_,Fz.none,⟨Nat.zero_le _,by rw [List.take_zero,List.map_nil,List.append_nil]; exact hrow,hbd⟩,eo ag0⟩ ?_
  clear hrow hbd o1 o2
  rintro ⟨j,sv⟩ H1 nx1 ⟨j1,hrow,hbd⟩
  dsimp only at j1 hrow hbd ⊢
  obtain ⟨o1,o2⟩:=hrow.one
  by_cases hj:j < R.length
  rotate_left
  ·rw [List.take_of_length_le (by omega)] at hrow
   (have zz:=aI @ak (aI @o1 @o2); repeat' (first|refine zW ?_|apply a_n|apply a_x|refine zO ?_|refine vY ?_|(refine zGY ?_ ?_ <;> (intro _hg; try (exfalso; omega)))|fail)) <;> (try clear zz)
   exact ⟨(i + 1,sv,D ++ R.map (v :: ·)),by dsimp only; omega,⟨by dsimp only; omega,hrow,hbd,hDD⟩,ag0⟩
  have iy:=dI hj
  have hfl:=hRl _ (aO hj)
  have e1:(D ++ (R.take (j + 1)).map (v :: ·)).map ao=(D ++ (R.take j).map (v :: ·)).map ao ++ [ao (v :: R.getD j default)]:=by
   simp only [bt hj,List.map_append,List.append_assoc,List.map_cons,List.map_nil]
  have hln:((D ++ (R.take j).map (v :: ·)).map ao).length ≤ 70:=by simp; omega
  generalize R.getD j default=f at *
  (have zz:=aI @ak (aI @ix (aI @iy (aI @o1 @o2))); repeat' (first|refine zW ?_|apply a_n|refine zO ?_|refine vY ?_|(refine zGY ?_ ?_ <;> (intro _hg; try (exfalso; omega)))|fail)) <;> (try clear zz)
  refine pi a9 rfl (fun y cs h=>by cases h) ?_
  (have zz:=aI @ix @iy; repeat' (first|apply a_n|refine zO ?_|refine nvY ?_|fail)) <;> (try clear zz)
  refine fF ?_
  (have zz:=and_self; repeat' (first|apply a_n|refine zO ?_|refine blY ?_|fail)) <;> (try clear zz)
  refine ⟨fun y cs h=>(by cases h),?_⟩
  refine gD ?_
  refine cH (sv:=.msl nx1 2 2 0 1) (cs:=[.int .i64 v.color,.int .i64 v.label]) rfl ev0 (Row.box nx1 1 _ aj rfl) ev0 qd (io f) (ci f) (by omega) (by simp; omega) (by simp; omega) ?_
  rintro s2 H2 nx2 r1 r2 r3 r4 r5
  obtain ⟨b2,rfl,hb2,hb3⟩:∃ b2,s2=.msl b2 ((f.length + 1) * 2) 2 0 (f.length + 1)∧H2 b2=some (cX (v :: f))∧nx1 ≤ b2∧b2 < nx2:=by
   have hcl:=ci (v :: f)
   have h5:=r5
   have r1':Row H2 2 s2 (cX (v :: f)):=r1
   generalize cX (v :: f)=cs at r1' hcl ⊢
   cases r1' with
   | nil=>simp at hcl
   | box b len cs g1 g2 =>
    obtain rfl:len=f.length + 1:=by rw [hcl] at g2; simp at g2; omega
    refine ⟨b,rfl,g1,?_,?_⟩
    ·rcases h5 b rfl with e | ⟨e,_⟩
     ·cases e; omega
     ·omega
    ·rcases h5 b rfl with e | ⟨e,e2⟩
     ·cases e; omega
     ·omega
  refine kW ?_
  refine zA (pv:=[(0,1,.msl b2 ((f.length + 1) * 2) 2 0 (f.length + 1))]) (cs:=[.msl b2 ((f.length + 1) * 2) 2 0 (f.length + 1)]) ev0 rfl (by decide) rfl rfl ?_
  refine gD ?_
  have hold:∀ b,b < nx1→H2 b=H1 b:=fun b hb=>by rw [r4 b (by omega) (fun e=>by cases e; omega),af (by omega)]
  refine cH rfl ev0 (hrow.same fun b hb=>hold b (hbd b hb)) ev0 (k:=1) (new:=[.msl b2 ((f.length + 1) * 2) 2 0 (f.length + 1)]) (by rw [sa]; rfl) rfl rfl Nat.one_pos (by omega) (by omega) ?_
  rintro s3 H3 nx3 u1 u2 u3 u4 u5
  have hb4:H3 b2=some (cX (v :: f)):=(u4 b2 (by omega) (fun e=>by have:=hbd b2 e; omega)).trans hb2
  obtain ⟨H4,hfz,hr4,hs4⟩:=kN (x':=ao (v :: f)) u1 hb4 (ik (Row.box b2 (f.length + 1) _ jK (ci _))) (fun e=>by
   rcases u5 b2 e with h | h
   ·have:=hbd b2 h; omega
   ·omega)
  (have zz:=and_self; repeat' (first|apply a_n|refine zO ?_|refine vY ?_|refine nvY ?_|fail)) <;> (try clear zz)
  refine ⟨(j + 1,s3),by dsimp only; omega,_,H4,hfz,⟨by dsimp only; omega,?_,fun b hb=>?_⟩,eo ag0⟩
  ·dsimp only
   rw [e1]; exact hr4
  ·rcases u5 b hb with h | h
   ·have:=hbd b h; omega
   ·omega
end Go.Proofs.YtbgdcebmgjafjaaGreat
namespace Go.Proofs.YtbgdcebmgjafjaaGreat
open Go Go.Abs
open Nat (reduceEqDiff reduceAdd reduceLeDiff)
def dY (c:List Spx) (k:Nat):List Spx:=fS bi (c.flatMap fun s=>bx s k)
theorem nX {c:List Spx} {k i:Nat} (hi:i < c.length):(c.take (i + 1)).flatMap (fun s=>bx s k)=(c.take i).flatMap (fun s=>bx s k) ++ bx (c.getD i default) k:=by
 rw [bt hi,List.flatMap_append]; simp
theorem e6 {k:Nat}:∀ {c:List Spx},(∀ s ∈ c,s.length ≤ 8)→(c.flatMap fun s=>bx s k).length ≤ 70 * c.length
 | [],_=>by simp
 | s :: c,h=>by
  rw [List.flatMap_cons,List.length_append,List.length_cons]
  have:=lD (l:=s) (k:=k) (h s List.mem_cons_self)
  have:=e6 (k:=k) (c:=c) (fun t ht=>h t (List.mem_cons_of_mem _ ht))
  omega
theorem gP {c:List Spx} {k:Nat} {s:Spx}:s ∈ c.flatMap (fun s=>bx s k) ↔ ∃ t ∈ c,s ∈ bx t k:=by rw [List.mem_flatMap]
theorem sK {c:List Spx} {k:Nat} (h:∀ s ∈ c,s.length ≤ 8):∀ s ∈ c.flatMap (fun s=>bx s k),Shn s:=fun s hs=>by
 obtain ⟨t,t1,t2⟩:=gP.1 hs
 have:=(dp.1 t2).1.length_le
 have:=h t t1
 show _ ≤ _; omega
def di (c:List Spx) (k:Int):List Spx × Int:=if be c ≠ 0 then ([],be c) else if k < 1 ∨ 8 < k then ([],2) else (dY c k.toNat,0)
attribute [local irreducible] aG al bg bc aN aR aE aS bf br Go.Abs.Fn aY Go.Abs.Pure aA aL Yl
theorem yR (c:List Spx) (k:Nat) (hc:c.length ≤ 50) (hs:∀ s ∈ c,s.length ≤ 8) (hk:k ≤ 1000):Pure Tryz.prog 96 [dD c,.int .i64 k] (aC (dY c k)):=by
 refine Pure.of_c2 follows BT (Nat.le_of_ble_eq_true rfl) ?_
 simp only [b96,cO,cG,cN,cM,cD,cF,cB,au,aH]
 have hfl:=e6 (k:=k) hs
 have hfe:=sK (k:=k) hs
 (have zz:=aI @az @ar; repeat' (first|refine zW ?_|apply a_n|refine zO ?_|refine vZ ?_|refine bxZ ?_|fail)) <;> (try clear zz)
 refine n8 (X:=Nat) (fun i=>[(1,.int .i64 k),(2,.ptr 0 1 0),(5,aC (fS bi ((c.take i).flatMap fun s=>bx s k))),(6,.int .i64 i)]) (fun i H nx=>i ≤ c.length∧H 0=some [aC c]) (fun i=>c.length - i) 0 ⟨a9,_,Fz.none,⟨Nat.zero_le _,aj⟩,.inl rfl,.inl rfl,.inr (.eslsl 1),.inl rfl,trivial⟩ ?_
 rintro i H nx ⟨h1,g0⟩
 by_cases hi:i < c.length
 rotate_left
 ·rw [List.take_of_length_le (by omega)]
  (have zz:=aI @ak @g0; repeat' (first|refine zW ?_|apply a_n|apply a_x|refine zO ?_|refine vY ?_|(refine zGY ?_ ?_ <;> (intro _hg; try (exfalso; omega)))|refine ah rfl ?_|refine r1Y ?_|fail)) <;> (try clear zz)
  exact bl _ _
 have ix:=dI hi
 have hft:=nX (k:=k) hi
 have hpre:∀ s ∈ (c.take (i + 1)).flatMap (fun s=>bx s k),Shn s:=sK fun s h=>hs s (List.mem_of_mem_take h)
 have hprl:=e6 (k:=k) (c:=c.take (i + 1)) (fun s h=>hs s (List.mem_of_mem_take h))
 rw [hft] at hpre hprl
 rw [List.length_take,List.length_append] at hprl
 have hcall:=rj k (c.getD i default) hk (hs _ (aO hi))
 by_cases hlt:(c.getD i default).length < k
 ·have z:decide (((c.getD i default).length:Int) < k)=true:=decide_eq_true (by omega)
  rw [i8 hlt,List.append_nil] at hft
  generalize c.getD i default=s at *
  (have zz:=aI @ak (aI @ai (aI @ix (aI @g0 @z))); repeat' (first|refine zW ?_|apply a_n|apply a_x|refine zO ?_|refine vY ?_|refine cTY ?_|(refine zGY ?_ ?_ <;> (intro _hg; try (exfalso; omega)))|fail)) <;> (try clear zz)
  exact ⟨i + 1,by omega,a9,_,Fz.none,⟨by omega,g0⟩,eo (have zz:=@hft; agZ)⟩
 have z:decide (((c.getD i default).length:Int) < k)=false:=decide_eq_false (by omega)
 generalize c.getD i default=s at *
 generalize bx s k=R at *
 generalize (c.take i).flatMap (fun s=>bx s k)=P at *
 (have zz:=aI @ak (aI @ai (aI @ix (aI @g0 @z))); repeat' (first|refine zW ?_|apply a_n|refine zO ?_|refine vY ?_|refine cY ?_ (hp:=hcall) (hs:=by (first | refine aa ?_ rfl | apply ac); (repeat' (first | exact ab | apply ag | apply ae | exact an _)); first | done | fail)|refine cFY ?_|(refine zGY ?_ ?_ <;> (intro _hg; try (exfalso; omega)))|fail)) <;> (try clear zz)
 refine aM (X:=Nat) (fun j=>[(1,.int .i64 k),(2,.ptr 0 1 0),(5,aC (fS bi (P ++ R.take j))),(6,.int .i64 i),(7,aC R),(8,.int .i64 j)]) (fun j H nx=>j ≤ R.length∧H 0=some [aC c]) (fun j=>R.length - j) 0 ⟨Nat.zero_le _,g0⟩ (by simp (disch:=omega) only [agr,ZG,reduceEqDiff,↓reduceIte,List.take_zero,List.append_nil]) ?_
 clear g0
 rintro j H nx ⟨j1,g0⟩
 by_cases hj:j < R.length
 rotate_left
 ·rw [List.take_of_length_le (by omega)]
  (have zz:=@ak; repeat' (first|refine zW ?_|apply a_n|apply a_x|refine zO ?_|refine vY ?_|(refine zGY ?_ ?_ <;> (intro _hg; try (exfalso; omega)))|fail)) <;> (try clear zz)
  exact ⟨i + 1,by omega,a9,_,Fz.none,⟨by omega,g0⟩,eo (have zz:=@hft; agZ)⟩
 have iy:=dI hj
 have e1:fS bi (P ++ R.take (j + 1))=e7 bi (fS bi (P ++ R.take j)) (R.getD j default):=by rw [bt hj,← List.append_assoc,nW]
 have hput:=wQ (fS bi (P ++ R.take j)) (R.getD j default) (Nat.le_trans e9 (by rw [List.length_append,List.length_take]; omega)) (fun t ht=>hpre t (by
  have:=gZ.1 ht
  rcases List.mem_append.1 this with h | h
  ·exact List.mem_append_left _ h
  ·exact List.mem_append_right _ (List.mem_of_mem_take h))) (hpre _ (List.mem_append_right _ (aO hj)))
 rw [← e1] at hput
 generalize R.getD j default=f at *
 (have zz:=aI @ak @iy; repeat' (first|refine zW ?_|apply a_n|refine zO ?_|refine vY ?_|refine cY ?_ (hp:=hput) (hs:=by (first | refine aa ?_ rfl | apply ac); (repeat' (first | exact ab | apply ag | apply ae | exact an _ | exact bl _)); first | done | fail)|(refine zGY ?_ ?_ <;> (intro _hg; try (exfalso; omega)))|fail)) <;> (try clear zz)
 exact ⟨j + 1,by omega,⟨by omega,g0⟩,ag0⟩
theorem jM (c:List Spx) (k:Int) (hc:c.length ≤ 50) (hs:∀ s ∈ c,Shn s):Pure Tryz.prog 60 [dD c,.int .i64 k] (.tup [aC (di c k).1,.int .i64 (di c k).2]):=by
 refine Pure.of_c2 follows BK (Nat.le_of_ble_eq_true rfl) ?_
 simp only [b60,cO,cG,cN,cM,cD,cF,cB,au,aH]
 have hcc:=pd c (show _ ≤ _ by omega) hs
 unfold di
 by_cases he:be c=0
 rotate_left
 ·rw [if_pos he]
  have z:decide (be c ≠ 0)=true:=decide_eq_true he
  (have zz:=aI @az (aI @ar @z); repeat' (first|refine zW ?_|apply a_n|apply a_r|refine zO ?_|refine vY ?_|refine cY ?_ (hp:=hcc) (hs:=by (first | refine aa ?_ rfl | apply ac); (repeat' (first | exact ab | apply ag | apply ae | exact a7 _)); first | done | fail)|refine bxY ?_|refine cTY ?_|refine ah rfl ?_|refine r2Y ?_|fail)) <;> (try clear zz)
  exact fC (.eslsl _) rfl
 rw [if_neg (fun h=>h he)]
 rw [he] at hcc
 have z0:decide ((0:Int) ≠ 0)=false:=rfl
 obtain ⟨p1,p2,p3,p4⟩:=cK he
 by_cases hk:k < 1 ∨ 8 < k
 ·rw [if_pos hk]
  (have zz:=aI @az (aI @ar @z0); repeat' (first|refine zW ?_|apply a_n|apply a_r|refine zO ?_|refine vY ?_|refine cY ?_ (hp:=hcc) (hs:=by (first | refine aa ?_ rfl | apply ac); (repeat' (first | exact ab | apply ag | apply ae | exact a7 _)); first | done | fail)|refine bxY ?_|refine gTY ?_|refine gFY ?_|refine cTY ?_|refine cFY ?_|(refine zGY ?_ ?_ <;> (intro _hg; try (exfalso; omega)))|refine ah rfl ?_|refine r2Y ?_|fail)) <;> (try clear zz)
  all_goals first | exact fC (.eslsl _) rfl | (exfalso; omega)
 rw [if_neg hk]
 obtain ⟨n,rfl⟩:∃ n:Nat,k=n:=⟨k.toNat,by omega⟩
 rw [Int.toNat_natCast]
 have h8:∀ s ∈ c,s.length ≤ 8:=fun s h=>(c8 (p2 s h)).2.1
 have ha:=yR c n hc h8 (by omega)
 have hl:(dY c n).length ≤ 3500:=Nat.le_trans e9 (Nat.le_trans (e6 h8) (by omega))
 have z1:decide ((4096:Int) < (dY c n).length)=false:=decide_eq_false (by omega)
 (have zz:=aI @az (aI @ar (aI @ak (aI @z0 @z1))); repeat' (first|refine zW ?_|apply a_n|refine zO ?_|refine vY ?_|refine cY ?_ (hp:=by first | exact hcc | exact ha) (hs:=by (first | refine aa ?_ rfl | apply ac); (repeat' (first | exact ab | apply ag | apply ae | exact a7 _)); first | done | fail)|refine bxY ?_|refine gTY ?_|refine cFY ?_|(refine zGY ?_ ?_ <;> (intro _hg; try (exfalso; omega)))|refine ah rfl ?_|refine r2Y ?_|fail)) <;> (try clear zz)
 exact fC (bl _).snap rfl
end Go.Proofs.YtbgdcebmgjafjaaGreat
namespace Go.Proofs.YtbgdcebmgjafjaaGreat
open Go Go.Abs
open Nat (reduceEqDiff reduceAdd reduceLeDiff)
def ez:Nat→Spx→List Int
 | 0,_=>[]
 | n + 1,[]=>(-1) :: 0 :: ez n []
 | n + 1,v :: l=>v.color :: v.label :: ez n l
theorem jJ:∀ {n:Nat} {s:Spx},(ez n s).length=2 * n
 | 0,_=>rfl
 | n + 1,[]=>by show (ez n []).length + 1 + 1=_; rw [jJ]; omega
 | n + 1,v :: l=>by show (ez n l).length + 1 + 1=_; rw [jJ]; omega
theorem pN:∀ {n:Nat} {s t:Spx},s.length ≤ n→t.length ≤ n→(∀ v ∈ s,0 ≤ v.color)→(∀ v ∈ t,0 ≤ v.color)→ez n s=ez n t→s=t
 | 0,[],[],_,_,_,_,_=>rfl
 | 0,_ :: _,_,h,_,_,_,_=>absurd h (by simp)
 | 0,[],_ :: _,_,h,_,_,_=>absurd h (by simp)
 | n + 1,[],[],_,_,_,_,_=>rfl
 | n + 1,[],w :: m,_,_,_,h2,e=>by
  have:(-1:Int)=w.color:=(List.cons.inj e).1
  have:=h2 w List.mem_cons_self
  omega
 | n + 1,v :: l,[],_,_,h1,_,e=>by
  have:v.color=(-1:Int):=(List.cons.inj e).1
  have:=h1 v List.mem_cons_self
  omega
 | n + 1,v :: l,w :: m,hl,hm,h1,h2,e=>by
  obtain ⟨e1,e2⟩:=List.cons.inj e
  obtain ⟨e2,e3⟩:=List.cons.inj e2
  have:=pN (n:=n) (by simp at hl; omega) (by simp at hm; omega) (fun x hx=>h1 x (List.mem_cons_of_mem _ hx)) (fun x hx=>h2 x (List.mem_cons_of_mem _ hx)) e3
  rw [this,lB.2 ⟨e1,e2⟩]
def wz (x:List Int):AV:=.agg (x.map (AV.int .i64))
theorem uF (x:List Int):Dat (wz x):=Dat.agg (by
 induction x with
 | nil=>exact DatL.nil
 | cons a l ih=>exact DatL.cons .int ih)
theorem si:∀ {n:Nat} {s:Spx},s.length ≤ n→cX s ++ ((ez n []).map (AV.int .i64)).drop (s.length * 2)=(ez n s).map (AV.int .i64)
 | n,[],_=>by simp [cX]
 | 0,_ :: _,h=>absurd h (by simp)
 | n + 1,v :: l,h=>by
  have:=si (n:=n) (s:=l) (by simp at h; omega)
  show [AV.int .i64 v.color,AV.int .i64 v.label] ++ cX l ++ _=AV.int .i64 v.color :: AV.int .i64 v.label :: (ez n l).map (AV.int .i64)
  rw [← this,List.length_cons,show (l.length + 1) * 2=l.length * 2 + 1 + 1 by omega]
  rfl
def kc (k:Nat):List AV:=(ez k [] ++ List.replicate (2 * (8 - k)) 0).map (AV.int .i64)
attribute [local irreducible] aG al bg bc aN aR aE aS bf br Go.Abs.Fn aY Go.Abs.Pure aA aL Yl
theorem xe (s:Spx) (h1:1 ≤ s.length) (hs:s.length ≤ 8):Pure Tryz.prog 108 [ao s] (wz (ez 8 s)):=by
 refine Pure.of_c2 follows x6 (Nat.le_of_ble_eq_true rfl) ?_
 simp only [yh,cO,cG,cN,cM,cD,cF,cB,au,aH]
 have hn:eZ (ao s)=some s.length:=by unfold ao ja; simp [eZ]
 have hput:=si (n:=8) (s:=s) hs
 (have zz:=and_self; repeat' (first|refine zW ?_|apply a_n|refine zO ?_|refine vY ?_|refine alY ?_|fail)) <;> (try clear zz)
 refine aM (X:=Nat) (fun k=>[(0,ao s),(2,.ptr 0 16 0),(3,.ptr 1 16 0),(5,.int .i64 k)]) (fun k H nx=>k ≤ 8∧H 0=some (kc 0)∧H 1=some (kc k)) (fun k=>8 - k) 0 ⟨Nat.zero_le _,by rw [af (by omega),aj]; rfl,aj⟩ (by (iterate 4 refine And.intro rfl ?_); trivial) ?_
 rintro k H nx ⟨hk,g0,g1⟩
 rcases (by omega:k=8 ∨ k=0 ∨ k=1 ∨ k=2 ∨ k=3 ∨ k=4 ∨ k=5 ∨ k=6 ∨ k=7) with rfl | rfl | rfl | rfl | rfl | rfl | rfl | rfl | rfl
 ·(have zz:=aI @g0 @g1; repeat' (first|refine zW ?_|apply a_n|apply a_x|refine zO ?_|refine vY ?_|(refine zGY ?_ ?_ <;> (intro _hg; try (exfalso; omega)))|fail)) <;> (try clear zz)
  refine Ba rfl g1 rfl rfl ?_
  (have zz:=and_self; repeat' (first|apply a_n|refine zO ?_|refine vY ?_|fail)) <;> (try clear zz)
  refine Au (n:=s.length) (H':=am H 1 ((ez 8 s).map (AV.int .i64))) ?_ ?_
  ·((try simp only [bP,ZA,reduceEqDiff,↓reduceIte,reduceAdd,reduceLeDiff]); (try with_reducible rfl))
   have htr:sw s.length (ao s)=ao s:=by unfold ao ja; simp [sw]; exact List.take_of_length_le (by simp)
   have hmin:min s.length 8=s.length:=Nat.min_eq_left hs
   have hal:eZ (.msl 1 16 2 0 8)=some 8:=rfl
   simp only [iO,hal,hn,hmin,if_neg (show ¬ s.length=0 by omega),g1,htr,qd]
   rw [if_pos (by refine ⟨?_,?_,?_,?_⟩ <;> first | rfl | trivial | omega | exact io s)]
   have:bb (kc 8) 0 (cX s)=(ez 8 s).map (AV.int .i64):=by
    rw [← hput]
    simp only [bb,List.take_zero,List.nil_append,Nat.zero_add,ci]
    rfl
   rw [this]
  ·have hl:((ez 8 s).map (AV.int .i64)).length=16:=by rw [List.length_map,jJ]
   have g1':am H 1 ((ez 8 s).map (AV.int .i64)) 1=some ((ez 8 s).map (AV.int .i64)):=aj
   have g0':am H 1 ((ez 8 s).map (AV.int .i64)) 0=some (kc 0):=by rw [af (by omega)]; exact g0
   have hl0:(kc 0).length=16:=rfl
   unfold wz
   have ht:((ez 8 s).map (AV.int .i64)).take 16=(ez 8 s).map (AV.int .i64):=List.take_of_length_le (by omega)
   have hd:=uF (ez 8 s)
   unfold wz at hd
   have hfl:AV.ones ((ez 8 s).map (AV.int .i64))=true:=by
    unfold AV.ones
    rw [List.all_eq_true]
    intro x hx
    obtain ⟨y,_,rfl⟩:=List.mem_map.1 hx
    rfl
   have hlp:bb (kc 0) 0 ((ez 8 s).map (AV.int .i64))=(ez 8 s).map (AV.int .i64):=by
    simp only [bb,List.take_zero,List.nil_append,Nat.zero_add,hl]
    rw [List.drop_of_length_le (by decide),List.append_nil]
   generalize (ez 8 s).map (AV.int .i64)=K at *
   (have zz:=aI @g0' (aI @g1' (aI @hl (aI @hl0 @ht))); repeat' (first|refine zW ?_|apply a_n|refine zO ?_|refine vY ?_|fail)) <;> (try clear zz)
   refine yK (v:=.agg K) (cs:=kc 0) (vs:=K) (b:=0) (n:=16) (off:=0) rfl ev0 ev0 g0' rfl hfl hl0 hl (by omega) ?_
   rw [hlp]
   (have zz:=aI @hl @ht; repeat' (first|apply a_n|refine zO ?_|refine ah rfl ?_|refine r1Y ?_|fail)) <;> (try clear zz)
   exact hd _
 ·(have zz:=aI @g0 @g1; repeat' (first|refine zW ?_|apply a_n|refine zO ?_|refine vY ?_|(refine zGY ?_ ?_ <;> (intro _hg; try (exfalso; omega)))|fail)) <;> (try clear zz)
  refine iS (r:=.ptr 1 16 0) rfl rfl rfl ?_
  have hl:(kc 0).length=16:=rfl
  (have zz:=aI @g1 @hl; repeat' (first|apply a_n|refine zO ?_|refine vY ?_|refine stY ?_|fail)) <;> (try clear zz)
  exact ⟨1,by omega,⟨by omega,by rw [af (by omega)]; exact g0,by rw [aj]; rfl⟩,by (iterate 4 refine And.intro rfl ?_); trivial⟩
 ·(have zz:=aI @g0 @g1; repeat' (first|refine zW ?_|apply a_n|refine zO ?_|refine vY ?_|(refine zGY ?_ ?_ <;> (intro _hg; try (exfalso; omega)))|fail)) <;> (try clear zz)
  refine iS (r:=.ptr 1 16 2) rfl rfl rfl ?_
  have hl:(kc 1).length=16:=rfl
  (have zz:=aI @g1 @hl; repeat' (first|apply a_n|refine zO ?_|refine vY ?_|refine stY ?_|fail)) <;> (try clear zz)
  exact ⟨2,by omega,⟨by omega,by rw [af (by omega)]; exact g0,by rw [aj]; rfl⟩,by (iterate 4 refine And.intro rfl ?_); trivial⟩
 ·(have zz:=aI @g0 @g1; repeat' (first|refine zW ?_|apply a_n|refine zO ?_|refine vY ?_|(refine zGY ?_ ?_ <;> (intro _hg; try (exfalso; omega)))|fail)) <;> (try clear zz)
  refine iS (r:=.ptr 1 16 4) rfl rfl rfl ?_
  have hl:(kc 2).length=16:=rfl
  (have zz:=aI @g1 @hl; repeat' (first|apply a_n|refine zO ?_|refine vY ?_|refine stY ?_|fail)) <;> (try clear zz)
  exact ⟨3,by omega,⟨by omega,by rw [af (by omega)]; exact g0,by rw [aj]; rfl⟩,by (iterate 4 refine And.intro rfl ?_); trivial⟩
 ·(have zz:=aI @g0 @g1; repeat' (first|refine zW ?_|apply a_n|refine zO ?_|refine vY ?_|(refine zGY ?_ ?_ <;> (intro _hg; try (exfalso; omega)))|fail)) <;> (try clear zz)
  refine iS (r:=.ptr 1 16 6) rfl rfl rfl ?_
  have hl:(kc 3).length=16:=rfl
  (have zz:=aI @g1 @hl; repeat' (first|apply a_n|refine zO ?_|refine vY ?_|refine stY ?_|fail)) <;> (try clear zz)
  exact ⟨4,by omega,⟨by omega,by rw [af (by omega)]; exact g0,by rw [aj]; rfl⟩,by (iterate 4 refine And.intro rfl ?_); trivial⟩
 ·(have zz:=aI @g0 @g1; repeat' (first|refine zW ?_|apply a_n|refine zO ?_|refine vY ?_|(refine zGY ?_ ?_ <;> (intro _hg; try (exfalso; omega)))|fail)) <;> (try clear zz)
  refine iS (r:=.ptr 1 16 8) rfl rfl rfl ?_
  have hl:(kc 4).length=16:=rfl
  (have zz:=aI @g1 @hl; repeat' (first|apply a_n|refine zO ?_|refine vY ?_|refine stY ?_|fail)) <;> (try clear zz)
  exact ⟨5,by omega,⟨by omega,by rw [af (by omega)]; exact g0,by rw [aj]; rfl⟩,by (iterate 4 refine And.intro rfl ?_); trivial⟩
 ·(have zz:=aI @g0 @g1; repeat' (first|refine zW ?_|apply a_n|refine zO ?_|refine vY ?_|(refine zGY ?_ ?_ <;> (intro _hg; try (exfalso; omega)))|fail)) <;> (try clear zz)
  refine iS (r:=.ptr 1 16 10) rfl rfl rfl ?_
  have hl:(kc 5).length=16:=rfl
  (have zz:=aI @g1 @hl; repeat' (first|apply a_n|refine zO ?_|refine vY ?_|refine stY ?_|fail)) <;> (try clear zz)
  exact ⟨6,by omega,⟨by omega,by rw [af (by omega)]; exact g0,by rw [aj]; rfl⟩,by (iterate 4 refine And.intro rfl ?_); trivial⟩
 ·(have zz:=aI @g0 @g1; repeat' (first|refine zW ?_|apply a_n|refine zO ?_|refine vY ?_|(refine zGY ?_ ?_ <;> (intro _hg; try (exfalso; omega)))|fail)) <;> (try clear zz)
  refine iS (r:=.ptr 1 16 12) rfl rfl rfl ?_
  have hl:(kc 6).length=16:=rfl
  (have zz:=aI @g1 @hl; repeat' (first|apply a_n|refine zO ?_|refine vY ?_|refine stY ?_|fail)) <;> (try clear zz)
  exact ⟨7,by omega,⟨by omega,by rw [af (by omega)]; exact g0,by rw [aj]; rfl⟩,by (iterate 4 refine And.intro rfl ?_); trivial⟩
 ·(have zz:=aI @g0 @g1; repeat' (first|refine zW ?_|apply a_n|refine zO ?_|refine vY ?_|(refine zGY ?_ ?_ <;> (intro _hg; try (exfalso; omega)))|fail)) <;> (try clear zz)
  refine iS (r:=.ptr 1 16 14) rfl rfl rfl ?_
  have hl:(kc 7).length=16:=rfl
  (have zz:=aI @g1 @hl; repeat' (first|apply a_n|refine zO ?_|refine vY ?_|refine stY ?_|fail)) <;> (try clear zz)
  exact ⟨8,by omega,⟨by omega,by rw [af (by omega)]; exact g0,by rw [aj]; rfl⟩,by (iterate 4 refine And.intro rfl ?_); trivial⟩
end Go.Proofs.YtbgdcebmgjafjaaGreat
namespace Go.Proofs.YtbgdcebmgjafjaaGreat
open Go Go.Abs
open Nat (reduceEqDiff reduceAdd reduceLeDiff)
attribute [local irreducible] aG al bg bc aN aR aE aS bf br Go.Abs.Fn aY Go.Abs.Pure aA aL Yl
end Go.Proofs.YtbgdcebmgjafjaaGreat
namespace Go.Proofs.YtbgdcebmgjafjaaGreat
open Go Go.Abs
open Nat (reduceEqDiff reduceAdd reduceLeDiff)
theorem sY {H:Hp} {sz:Nat} {s:AV} {elems:List AV} (h:Row H sz s (elems.flatMap AV.cells)) (hc:∀ y ∈ elems,y.cells.length=sz) (hz:0 < sz) (hd:∀ y ∈ elems,∀ c ∈ y.cells,SnapF H c c):SnapF H s (.sl sz elems):=by
 obtain ⟨f1,f2⟩:=cb elems hc
 generalize he:elems.flatMap AV.cells=cs at h
 cases h with
 | nil =>
  have:elems.length * sz=0:=by rw [← f1,he]; rfl
  have:elems=[]:=List.length_eq_zero_iff.1 (by
   rcases Nat.mul_eq_zero.1 this with h | h
   ·exact h
   ·omega)
  subst this; exact .eslsl sz
 | box b len cs hb hl =>
  have hlen:elems.length=len:=Nat.eq_of_mul_eq_mul_right hz (by rw [← f1,he,hl])
  refine .msl b (len * sz) sz 0 len cs elems hb hl (by omega) hlen hc (fun i j y a c hy hc' ha=>?_)
  have hj:j < sz:=by rw [← hc y (List.mem_of_getElem? hy)]; exact (List.getElem?_eq_some_iff.1 hc').1
  have key:∀ (l:List AV) (i j:Nat) (y c:AV),(∀ z ∈ l,z.cells.length=sz)→l[i]?=some y→y.cells[j]?=some c→j < sz→(l.flatMap AV.cells)[i * sz + j]?=some c:=by
   intro l
   induction l with
   | nil=>intro i j y c _ h; simp at h
   | cons x l ih =>
    intro i j y c hl hy hc hj
    rw [List.flatMap_cons]
    cases i with
    | zero =>
     simp at hy; subst hy
     rw [Nat.zero_mul,Nat.zero_add,List.getElem?_append_left (by rw [hl x (by simp)]; exact hj)]; exact hc
    | succ i =>
     rw [List.getElem?_append_right (by rw [hl x (by simp),Nat.add_mul]; omega),hl x (by simp)]
     have:=ih i j y c (fun z hz=>hl z (by simp [hz])) (by simpa using hy) hc hj
     rw [← this]; congr 1; rw [Nat.add_mul]; omega
  have:=key elems i j y c hc hy hc' hj
  rw [he,← Nat.zero_add (i * sz)] at this
  rw [this] at ha; cases ha
  exact hd y (List.mem_of_getElem? hy) a (List.mem_of_getElem? hc')
theorem sg {H:Hp} {s:AV} {l:Spx} (h:Row H 2 s (cX l)):SnapF H s (ao l):=by
 refine sY (elems:=l.map bh) (by rw [r6]; exact h) (fun y hy=>?_) (by omega) (fun y hy c hx=>?_)
 ·obtain ⟨n,_,rfl⟩:=List.mem_map.1 hy; rfl
 ·obtain ⟨n,_,rfl⟩:=List.mem_map.1 hy
  simp only [bh,AV.cells,List.mem_cons,List.not_mem_nil,or_false] at hx
  rcases hx with rfl | rfl <;> exact .int _ _
attribute [local irreducible] aG al bg bc aN aR aE aS bf br Go.Abs.Fn aY Go.Abs.Pure aA aL Yl
theorem ug (l:Spx) (hl:l.length ≤ 1000000):fw Tryz.prog 31 [ao l] (ao l):=by
 refine fw.of_c2 follows yX (Nat.le_of_ble_eq_true rfl) ?_
 simp only [b31,cO,cG,cN,cM,cD,cF,cB,au,aH]
 (have zz:=and_self; repeat' (first|refine zW ?_|apply a_n|refine zO ?_|refine vY ?_|fail)) <;> (try clear zz)
 have hn:eZ (ao l)=some l.length:=by unfold ao ja; simp [eZ]
 refine uN (k:=l.length) (by ((try simp only [bP,ZA,reduceEqDiff,↓reduceIte,reduceAdd,reduceLeDiff]); (try with_reducible rfl)); exact hn) (fun h=>?_) (fun h=>?_) (fun h=>?_)
 ·(have zz:=and_self; repeat' (first|refine zW ?_|apply a_n|refine zO ?_|refine vY ?_|refine b0Y ?_|refine cFY ?_|fail)) <;> (try clear zz)
  refine ph rfl ev0 ev0 qd (io _) (by omega) (by omega) ?_
  (have zz:=and_self; repeat' (first|apply a_n|refine zO ?_|refine vY ?_|refine ah rfl ?_|refine r1Y ?_|fail)) <;> (try clear zz)
  exact sg (Row.box _ l.length (cX l) aj (ci l))
 ·(have zz:=and_self; repeat' (first|refine zW ?_|apply a_n|apply a_r|refine zO ?_|refine vY ?_|refine cTY ?_|refine ah rfl ?_|refine r1Y ?_|fail)) <;> (try clear zz)
  obtain rfl:=List.length_eq_zero_iff.1 h
  exact .eslsl 2
 ·(have zz:=and_self; repeat' (first|refine zW ?_|apply a_n|refine zO ?_|refine vY ?_|refine b0Y ?_|refine cFY ?_|fail)) <;> (try clear zz)
  refine ph rfl ev0 ev0 qd (io _) (by omega) (by omega) ?_
  (have zz:=and_self; repeat' (first|apply a_n|refine zO ?_|refine vY ?_|refine ah rfl ?_|refine r1Y ?_|fail)) <;> (try clear zz)
  exact sg (Row.box _ l.length (cX l) aj (ci l))
section
variable {g:Nat} {caps:List AV} {s:AV}
theorem yY (hs:cR s=some (.int .i64 0)) {H:Hp} {nx:Nat}:Abs.Fn Tryz.prog 142 [s,.int .i64 0,.int .i64 0,.func g caps] H nx fun r H' nx'=>nx'=nx∧H'=H:=by
 refine Abs.Fn.of_c2 follows uJ (Nat.le_of_ble_eq_true rfl) ?_
 simp only [wL,cO,cG,cN,cM,cD,cF,cB,au,aH]
 (have zz:=and_self; repeat' (first|refine zW ?_|apply a_n|refine zO ?_|refine vZ ?_|fail)) <;> (try clear zz)
 refine aM (X:=Unit) (fun x=>[(0,s),(1,.int .i64 0),(2,.int .i64 0),(3,.func g caps),(8,.int .i64 1)]) (fun x H' nx'=>H'=H∧nx'=nx) (fun x=>0) () ⟨rfl,rfl⟩ (by simp (disch:=omega) only [agr,ZG,reduceEqDiff,↓reduceIte,Int.zero_add,true_and]) ?_
 rintro _ _ _ ⟨rfl,rfl⟩
 (have zz:=and_self; repeat' (first|refine zW ?_|apply a_n|apply a_x|refine zO ?_|refine vZ ?_|(refine zGZ ?_ ?_ <;> (intro _hg; try (exfalso; omega)))|refine ah rfl ?_|fail)) <;> (try clear zz)
 exact ⟨rfl,rfl⟩
theorem yF (hs:cR s=some (.int .i64 0)) {H:Hp} {nx:Nat}:Abs.Fn Tryz.prog 129 [s,.int .i64 0,.int .i64 0,.int .i64 0,.func g caps] H nx fun r H' nx'=>nx'=nx∧H'=H:=by
 refine Abs.Fn.of_c2 follows uH (Nat.le_of_ble_eq_true rfl) ?_
 simp only [wY,cO,cG,cN,cM,cD,cF,cB,au,aH]
 (have zz:=and_self; repeat' (first|refine zW ?_|apply a_n|refine zO ?_|refine vZ ?_|fail)) <;> (try clear zz)
 refine aM (X:=Unit) (fun x=>[(0,s),(1,.int .i64 0),(2,.int .i64 0),(3,.int .i64 0),(4,.func g caps)]) (fun x H' nx'=>H'=H∧nx'=nx) (fun x=>0) () ⟨rfl,rfl⟩ ag0 ?_
 rintro _ _ _ ⟨rfl,rfl⟩
 (have zz:=and_self; repeat' (first|refine zW ?_|apply a_n|refine zO ?_|refine vZ ?_|(refine zGZ ?_ ?_ <;> (intro _hg; try (exfalso; omega)))|fail)) <;> (try clear zz)
 refine aD ev0 ev0 (yY hs) ?_
 rintro _ _ _ ⟨rfl,rfl⟩
 (have zz:=and_self; repeat' (first|apply a_n|apply a_r|refine zO ?_|refine ah rfl ?_|fail)) <;> (try clear zz)
 exact ⟨rfl,rfl⟩
theorem qz (hs:cR s=some (.int .i64 0)) {H:Hp} {nx:Nat}:Abs.Fn Tryz.prog 109 [s,.func g caps] H nx fun r H' nx'=>nx'=nx∧H'=H:=by
 refine Abs.Fn.of_c2 follows uW (Nat.le_of_ble_eq_true rfl) ?_
 simp only [w7,cO,cG,cN,cM,cD,cF,cB,au,aH]
 have w8:IntKind.wrap .u64 0=0:=by decide
 (have zz:=aI @w8 @hs; repeat' (first|refine zW ?_|apply a_n|refine zO ?_|refine vZ ?_|fail)) <;> (try clear zz)
 refine aD ev0 (have zz:=@w8; evZ) zc ?_
 rintro _ _ _ ⟨rfl,rfl,rfl⟩
 (have zz:=and_self; repeat' (first|apply a_n|refine zO ?_|refine vZ ?_|fail)) <;> (try clear zz)
 refine aD ev0 ev0 (yF hs) ?_
 rintro _ _ _ ⟨rfl,rfl⟩
 (have zz:=and_self; repeat' (first|apply a_n|refine zO ?_|refine ah rfl ?_|fail)) <;> (try clear zz)
 exact ⟨rfl,rfl⟩
end
end Go.Proofs.YtbgdcebmgjafjaaGreat
namespace Go.Proofs.YtbgdcebmgjafjaaGreat
open Go Go.Abs
attribute [local irreducible] aG al bg bc aN aR aE aS bf br Go.Abs.Fn aY Go.Abs.Pure aA aL Yl
theorem Bv:Cmp Tryz.prog ao bi (fun s=>Shn s) 59 [] where
 cells _:=rfl
 one _:=rfl
 dat x:=an x
 dcaps x hx:=by cases hx
 run x y hx hy:=fR x y hx hy
 ord:=pz.ord
end Go.Proofs.YtbgdcebmgjafjaaGreat
namespace Go.Proofs.YtbgdcebmgjafjaaGreat
open Go Go.Abs
def K16:Type:={x:List Int // x.length=16}
instance:DecidableEq K16:=inferInstanceAs (DecidableEq {x:List Int // x.length=16})
def kK (s:Spx):K16:=⟨ez 8 s,by rw [jJ]⟩
def eK (x:K16):AV:=wz x.1
theorem lR:∀ {n:Nat} {xs ys:List Int},xs.length=n→ys.length=n→bR (List.replicate n .int) (xs.map (AV.int .i64)) (ys.map (AV.int .i64))=some (decide (xs=ys))
 | 0,[],[],_,_=>rfl
 | 0,_ :: _,_,h,_=>absurd h (by simp)
 | 0,[],_ :: _,_,h=>absurd h (by simp)
 | n + 1,[],_,h,_=>absurd h (by simp)
 | n + 1,_ :: _,[],_,h=>absurd h (by simp)
 | n + 1,x :: xs,y :: ys,h1,h2=>by
  have ih:=lR (n:=n) (xs:=xs) (ys:=ys) (by simpa using h1) (by simpa using h2)
  have e:(x == y)=decide (x=y):=rfl
  rw [List.replicate_succ,List.map_cons,List.map_cons]
  by_cases hxy:x=y
  ·subst hxy
   simp only [bR,e8,if_true,e,decide_true,ih]
   simp
  ·simp only [bR,e8,if_true,e,decide_eq_false hxy]
   simp [hxy]
theorem ye (a b:K16):jF (.st [.int,.int,.int,.int,.int,.int,.int,.int,.int,.int,.int,.int,.int,.int,.int,.int]) (eK a) (eK b)=some (decide (a=b)):=by
 show bR (List.replicate 16 .int) (a.1.map (AV.int .i64)) (b.1.map (AV.int .i64))=_
 rw [lR a.2 b.2]
 congr 1
 exact decide_eq_decide.2 ⟨Subtype.ext,fun h=>congrArg Subtype.val h⟩
theorem y8 (v:K16) (ks:List K16):cw (.st [.int,.int,.int,.int,.int,.int,.int,.int,.int,.int,.int,.int,.int,.int,.int,.int]) (eK v) (ks.map eK)=some (if v ∈ ks then some (ks.idxOf v) else none):=j8 _ eK ye v ks
theorem v5 (v:K16):jd (.st [.int,.int,.int,.int,.int,.int,.int,.int,.int,.int,.int,.int,.int,.int,.int,.int]) (eK v)=true:=by
 show (16 == (v.1.map (AV.int .i64)).length)=true
 rw [List.length_map,v.2]; rfl
def gV (s:Spx):Prop:=1 ≤ s.length∧s.length ≤ 8∧∀ v ∈ s,0 ≤ v.color
theorem yy {s t:Spx} (hs:gV s) (ht:gV t) (h:kK s=kK t):s=t:=pN hs.2.1 ht.2.1 hs.2.2 ht.2.2 (congrArg Subtype.val h)
theorem yt {O:List Spx} {f:Spx} (hO:∀ s ∈ O,gV s) (hf:gV f):kK f ∈ O.map kK ↔ f ∈ O:=by
 rw [List.mem_map]
 exact ⟨fun ⟨s,h1,h2⟩=>by rw [← yy (hO s h1) hf h2]; exact h1,fun h=>⟨f,h,rfl⟩⟩
theorem wW {s:Spx} (h:bL s=0):gV s:=by
 obtain ⟨p1,p2,p3,p4⟩:=c8 h
 refine ⟨p1,p2,fun v hv=>?_⟩
 have:=p4 v hv
 unfold bu at this
 simp only [Bool.and_eq_true,decide_eq_true_eq] at this
 exact this.1.1
theorem vP {s t:Spx} {k:Nat} (hs:gV s) (hk:1 ≤ k) (h:t ∈ bx s k):gV t:=by
 obtain ⟨h1,h2⟩:=dp.1 h
 exact ⟨by omega,Nat.le_trans h1.length_le hs.2.1,fun v hv=>hs.2.2 v (h1.subset hv)⟩
theorem qK {O L P:List Spx} (hp:L.Perm O) (hs:aK bi 0 L.length L) (hn:O.Nodup) (hm:∀ s,s ∈ O ↔ s ∈ P):L=fS bi P:=by
 refine kF pz ?_ (ma pz P) fun s=>by rw [hp.mem_iff,hm,gZ]
 unfold cP
 rw [List.pairwise_iff_getElem]
 intro i j hi hj hij
 have h1:=hs i j (Nat.zero_le _) hij hj
 rw [show L.getD i default=L[i] by simp [List.getD,hi],show L.getD j default=L[j] by simp [List.getD,hj]] at h1
 rcases pz.tri L[i] L[j] with h | h | h
 ·exact h
 ·have:=(List.nodup_iff_pairwise_ne.1 (hp.nodup_iff.2 hn))
  exact absurd h ((List.pairwise_iff_getElem.1 this) i j hi hj hij)
 ·exact absurd h h1
end Go.Proofs.YtbgdcebmgjafjaaGreat
namespace Go.Proofs.YtbgdcebmgjafjaaGreat
open Go Go.Abs
open Nat (reduceEqDiff reduceAdd reduceLeDiff)
attribute [local irreducible] aG al bg bc aN aR aE aS bf br Go.Abs.Fn aY Go.Abs.Pure aA aL Yl
theorem wB (l:List Spx) (k:Nat) (hl:l.length ≤ 50) (hs:∀ s ∈ l,bL s=0) (hk:1 ≤ k∧k ≤ 8):Pure Tryz.prog 72 [aC l,.int .i64 k] (.tup [aC (dY l k),.int .i64 0]):=by
 refine Pure.of_c2 follows AA (Nat.le_of_ble_eq_true rfl) ?_
 simp only [b72,cO,cG,cN,cM,cD,cF,cB,au,aH]
 have h8:∀ s ∈ l,s.length ≤ 8:=fun s h=>(c8 (hs s h)).2.1
 have hgood:∀ s ∈ l.flatMap (fun s=>bx s k),gV s:=fun s h=>by
  obtain ⟨t,t1,t2⟩:=gP.1 h
  exact vP (wW (hs t t1)) hk.1 t2
 have hfl:=e6 (k:=k) h8
 have z0:decide ((0:Int) ≠ 0)=false:=rfl
 (have zz:=@ak; repeat' (first|refine zW ?_|apply a_n|refine zO ?_|refine vY ?_|fail)) <;> (try clear zz)
 refine uV ?_
 (have zz:=@ak; repeat' (first|refine zW ?_|apply a_n|refine zO ?_|refine vY ?_|fail)) <;> (try clear zz)
 refine aM (X:=Nat × AV × List Spx) (fun x=>[(1,.int .i64 k),(6,.mp 0),(7,x.2.1),(15,aC l),(16,.int .i64 l.length),(17,.int .i64 x.1)]) (fun x H nx=>x.1 ≤ l.length∧1 ≤ nx∧H 0=some [.omap ((x.2.2.map kK).map eK) (x.2.2.map fun _=>.bool true)]∧Row H 1 x.2.1 (x.2.2.map ao)∧(∀ b,bE x.2.1=some b→1 ≤ b∧b < nx)∧x.2.2.Nodup∧∀ s,s ∈ x.2.2 ↔ s ∈ (l.take x.1).flatMap fun s=>bx s k) (fun x=>l.length - x.1) (0,.esl,[]) ⟨Nat.zero_le _,by omega,aj,Row.nil,fun b h=>(by cases h),List.nodup_nil,fun s=>by simp⟩ (by (iterate 6 refine And.intro rfl ?_); trivial) ?_
 rintro ⟨i,sv,O⟩ H nx ⟨h1,hnx,g0,hrow,hbd,hnd,hmem⟩
 dsimp only at h1 g0 hrow hbd hnd hmem ⊢
 obtain ⟨o1,o2⟩:=hrow.one
 by_cases hi:i < l.length
 rotate_left
 ·rw [List.take_of_length_le (by omega)] at hmem
  have hOl:O.length ≤ 3500:=by
   have:=List.Nodup.length_le_of_subset hnd (l₂:=l.flatMap fun s=>bx s k) (fun s h=>(hmem s).1 h)
   omega
  have hsort:Abs.Fn Tryz.prog 109 [sv,.func 59 []] H nx fun _ H' nx'=>Row H' 1 sv ((dY l k).map ao):=by
   generalize hcs:O.map ao=cs at hrow
   cases hrow with
   | nil =>
    have hO0:O=[]:=List.map_eq_nil_iff.1 hcs
    refine Abs.Fn.mono (qz rfl) ?_
    rintro _ _ _ ⟨rfl,rfl⟩
    have:dY l k=[]:=by
     unfold dY
     rw [qg,List.eq_nil_iff_forall_not_mem]
     intro s h
     have:=(hmem s).2 h
     rw [hO0] at this; cases this
    rw [this]; exact Row.nil
   | box b len cs k1 k2 =>
    obtain rfl:len=O.length:=by rw [← hcs,List.length_map] at k2; omega
    have hb:=hbd b rfl
    subst hcs
    by_cases h0:O.length=0
    ·have hO0:O=[]:=List.length_eq_zero_iff.1 h0
     subst hO0
     refine Abs.Fn.mono (qz rfl) ?_
     rintro _ _ _ ⟨rfl,rfl⟩
     have:dY l k=[]:=by
      unfold dY
      rw [qg,List.eq_nil_iff_forall_not_mem]
      intro s h
      have:=(hmem s).2 h
      cases this
     rw [this]; exact Row.box b 0 _ k1 rfl
    ·have hg:∀ s ∈ O,Shn s:=fun s h=>show s.length ≤ _ by have:=(hgood s ((hmem s).1 h)).2.1; omega
     have hsf:=wS Bv (L:=O) (b:=b) (nx:=nx) (n:=O.length) k1 hb.2 rfl (by omega) hg (by omega)
     rw [Nat.mul_one]
     refine Abs.Fn.mono hsf ?_
     rintro _ H' nx' ⟨L',ps,p1,p2⟩
     have hlen:=p1.length_eq
     have:=qK p1 (by rw [hlen]; exact p2) hnd hmem
     unfold dY
     rw [← this,← hlen]
     have:=Row.box (H:=H') (sz:=1) b L'.length (L'.map ao) ps.at_ (by simp)
     rwa [Nat.mul_one] at this
  (have zz:=and_self; repeat' (first|refine zW ?_|apply a_n|apply a_x|refine zO ?_|refine vY ?_|(refine zGY ?_ ?_ <;> (intro _hg; try (exfalso; omega)))|fail)) <;> (try clear zz)
  refine aD ev0 ev0 hsort ?_
  rintro r H' nx' hr
  (have zz:=aI @o1 @o2; repeat' (first|refine zW ?_|apply a_n|refine zO ?_|refine vY ?_|refine ah rfl ?_|refine r2Y ?_|fail)) <;> (try clear zz)
  exact fC (ga hr) rfl
 have ix:=dI hi
 have hft:=nX (k:=k) hi
 have hpm:∀ s ∈ (l.take (i + 1)).flatMap (fun s=>bx s k),s ∈ l.flatMap fun s=>bx s k:=fun s h=>by
  obtain ⟨t,t1,t2⟩:=gP.1 h
  exact gP.2 ⟨t,List.mem_of_mem_take t1,t2⟩
 have hsi:=hs _ (aO hi)
 have h8i:=h8 _ (aO hi)
 have hfx:=uS (l.getD i default) k (show _ ≤ _ by omega)
 have hfe:(l.getD i default).length < k ∨ lX (l.getD i default) k=(bx (l.getD i default) k,0):=by
  by_cases h:(l.getD i default).length < k
  ·exact .inl h
  ·refine .inr ?_
   unfold lX
   rw [if_neg (fun h=>h hsi),if_neg (by omega),Int.toNat_natCast]
 have hcar:∀ s ∈ bx (l.getD i default) k,gV s:=fun s h=>hgood s (hpm s (by rw [hft]; exact List.mem_append_right _ h))
 by_cases hlt:(l.getD i default).length < k
 ·have z:decide (((l.getD i default).length:Int) < k)=true:=decide_eq_true (by omega)
  rw [i8 hlt,List.append_nil] at hft
  generalize l.getD i default=s at *
  (have zz:=aI @ai (aI @ix (aI @z (aI @o1 @o2))); repeat' (first|refine zW ?_|apply a_n|apply a_x|refine zO ?_|refine vY ?_|refine cTY ?_|(refine zGY ?_ ?_ <;> (intro _hg; try (exfalso; omega)))|fail)) <;> (try clear zz)
  exact ⟨(i + 1,sv,O),by dsimp only; omega,⟨by dsimp only; omega,hnx,g0,hrow,hbd,hnd,by dsimp only; rw [hft]; exact hmem⟩,ag0⟩
 have z:decide (((l.getD i default).length:Int) < k)=false:=decide_eq_false (by omega)
 rw [hfe.resolve_left hlt] at hfx
 clear hfe
 have hgP:∀ s ∈ (l.take i).flatMap (fun s=>bx s k),gV s:=fun s h=>hgood s (hpm s (by rw [hft]; exact List.mem_append_left _ h))
 have hPl:((l.take i).flatMap (fun s=>bx s k) ++ bx (l.getD i default) k).length ≤ 3500:=by
  rw [← hft]
  have:=e6 (k:=k) (c:=l.take (i + 1)) (fun s h=>h8 s (List.mem_of_mem_take h))
  rw [List.length_take] at this; omega
 generalize l.getD i default=s at *
 generalize bx s k=R at *
 generalize (l.take i).flatMap (fun s=>bx s k)=P at *
 have hRl:R.length ≤ 3500:=by rw [List.length_append] at hPl; omega
 (have zz:=aI @ai (aI @ak (aI @ix (aI @z (aI @z0 (aI @o1 @o2))))); repeat' (first|refine zW ?_|apply a_n|refine zO ?_|refine vY ?_|refine cY ?_ (hp:=hfx) (hs:=by (first | refine aa ?_ rfl | apply ac); (repeat' (first | exact ab | apply ag | apply ae | exact an _)); first | done | fail)|refine cFY ?_|(refine zGY ?_ ?_ <;> (intro _hg; try (exfalso; omega)))|fail)) <;> (try clear zz)
 refine aM (X:=Nat × AV × List Spx) (fun x=>[(1,.int .i64 k),(6,.mp 0),(7,x.2.1),(15,aC l),(16,.int .i64 l.length),(17,.int .i64 i),(34,aC R),(35,.int .i64 R.length),(36,.int .i64 x.1)]) (fun x H nx=>x.1 ≤ R.length∧1 ≤ nx∧H 0=some [.omap ((x.2.2.map kK).map eK) (x.2.2.map fun _=>.bool true)]∧Row H 1 x.2.1 (x.2.2.map ao)∧(∀ b,bE x.2.1=some b→1 ≤ b∧b < nx)∧x.2.2.Nodup∧∀ s,s ∈ x.2.2 ↔ s ∈ P ++ R.take x.1) (fun x=>R.length - x.1) (0,sv,O) ⟨Nat.zero_le _,hnx,g0,hrow,hbd,hnd,by dsimp only; rw [List.take_zero,List.append_nil]; exact hmem⟩ ag0 ?_
 clear g0 hrow hbd hnd hmem hnx o1 o2
 rintro ⟨j,sv,O⟩ H nx ⟨j1,hnx,g0,hrow,hbd,hnd,hmem⟩
 dsimp only at j1 g0 hrow hbd hnd hmem ⊢
 obtain ⟨o1,o2⟩:=hrow.one
 have hOl:O.length ≤ 3500:=by
  have:=List.Nodup.length_le_of_subset hnd (l₂:=P ++ R.take j) (fun s h=>(hmem s).1 h)
  rw [List.length_append,List.length_take] at this
  rw [List.length_append] at hPl
  omega
 by_cases hj:j < R.length
 rotate_left
 ·rw [List.take_of_length_le (by omega)] at hmem
  have hls:cR sv=some (.int .i64 O.length):=hrow.lenS (by rw [List.length_map,Nat.mul_one]) Nat.one_pos
  have z1:decide ((4096:Int) < O.length)=false:=decide_eq_false (by omega)
  (have zz:=aI @hls (aI @z1 (aI @o1 @o2)); repeat' (first|refine zW ?_|apply a_n|apply a_x|refine zO ?_|refine vY ?_|refine cFY ?_|(refine zGY ?_ ?_ <;> (intro _hg; try (exfalso; omega)))|fail)) <;> (try clear zz)
  exact ⟨(i + 1,sv,O),by dsimp only; omega,⟨by dsimp only; omega,hnx,g0,hrow,hbd,hnd,by dsimp only; rw [hft]; exact hmem⟩,ag0⟩
 have iy:=dI hj
 have hgf:=hcar _ (aO hj)
 have hgO:∀ s ∈ O,gV s:=fun s h=>by
  rcases List.mem_append.1 ((hmem s).1 h) with h | h
  ·exact hgP s h
  ·exact hcar s (List.mem_of_mem_take h)
 have hkey:=xe (R.getD j default) hgf.1 hgf.2.1
 have hts:R.take (j + 1)=R.take j ++ [R.getD j default]:=bt hj
 have hmf:=y8 (kK (R.getD j default)) (O.map kK)
 have hmk:=yt hgO hgf
 generalize R.getD j default=f at *
 by_cases hf:f ∈ O
 ·rw [if_pos (hmk.2 hf)] at hmf
  have hlt2:(O.map kK).idxOf (kK f) < (O.map kK).length:=List.idxOf_lt_length_iff.2 (hmk.2 hf)
  have hgv:mget (.bool false) false (some ((O.map kK).idxOf (kK f))) (O.map fun _=>AV.bool true)=.bool true:=by
   rw [List.length_map] at hlt2
   simp [mget,List.getD,hlt2]
  (have zz:=aI @iy (aI @o1 @o2); repeat' (first|refine zW ?_|apply a_n|refine zO ?_|refine vY ?_|refine cY ?_ (hp:=hkey) (hs:=by (first | refine aa ?_ rfl | apply ac); (repeat' (first | exact ab | apply ag | apply ae | exact an _)); first | done | fail)|(refine zGY ?_ ?_ <;> (intro _hg; try (exfalso; omega)))|fail)) <;> (try clear zz)
  refine i5 ev0 g0 (by ((try simp only [bP,ZA,reduceEqDiff,↓reduceIte,reduceAdd,reduceLeDiff]); (try with_reducible rfl)); rfl) (v5 (kK f)) hmf ?_
  rw [hgv]
  (have zz:=aI @o1 @o2; repeat' (first|apply a_n|refine zO ?_|refine vY ?_|refine cFY ?_|fail)) <;> (try clear zz)
  refine ⟨(j + 1,sv,O),by dsimp only; omega,⟨by dsimp only; omega,hnx,g0,hrow,hbd,hnd,fun s=>?_⟩,ag0⟩
  dsimp only
  rw [hts,← List.append_assoc,List.mem_append,← hmem,List.mem_singleton]
  exact ⟨.inl,fun h=>h.elim id fun e=>by rw [e]; exact hf⟩
 ·rw [if_neg (fun h=>hf (hmk.1 h))] at hmf
  have hgv:mget (.bool false) false none (O.map fun _=>AV.bool true)=.bool false:=rfl
  (have zz:=aI @iy (aI @o1 @o2); repeat' (first|refine zW ?_|apply a_n|refine zO ?_|refine vY ?_|refine cY ?_ (hp:=hkey) (hs:=by (first | refine aa ?_ rfl | apply ac); (repeat' (first | exact ab | apply ag | apply ae | exact an _)); first | done | fail)|(refine zGY ?_ ?_ <;> (intro _hg; try (exfalso; omega)))|fail)) <;> (try clear zz)
  refine i5 ev0 g0 (by ((try simp only [bP,ZA,reduceEqDiff,↓reduceIte,reduceAdd,reduceLeDiff]); (try with_reducible rfl)); rfl) (v5 (kK f)) hmf ?_
  rw [hgv]
  (have zz:=aI @o1 @o2; repeat' (first|refine zW ?_|apply a_n|refine zO ?_|refine vY ?_|refine cY ?_ (hp:=hkey) (hs:=by (first | refine aa ?_ rfl | apply ac); (repeat' (first | exact ab | apply ag | apply ae | exact an _)); first | done | fail)|refine cTY ?_|fail)) <;> (try clear zz)
  refine uE ev0 g0 (by ((try simp only [bP,ZA,reduceEqDiff,↓reduceIte,reduceAdd,reduceLeDiff]); (try with_reducible rfl)); rfl) ev0 (v5 (kK f)) hmf ?_
  (have zz:=aI @o1 (aI @o2 (aI @ay @ap)); repeat' (first|apply a_n|refine zO ?_|refine vY ?_|refine blY ?_|fail)) <;> (try clear zz)
  refine cH rfl ev0 (hrow.same fun b hb=>?_) ev0 ca rfl rfl Nat.one_pos (by rw [List.length_map]; omega) (by rw [List.length_map]; omega) ?_
  ·have:=hbd b hb
   rw [af (by omega),af (by omega)]
  rintro s2 H2 nx2 hr2 i1 i2 i3 i4
  obtain ⟨o3,o4⟩:=hr2.one
  (have zz:=aI @o3 @o4; repeat' (first|apply a_n|refine zO ?_|refine vY ?_|fail)) <;> (try clear zz)
  refine ⟨(j + 1,s2,O ++ [f]),by dsimp only; omega,⟨by dsimp only; omega,by omega,?_,?_,fun b hb=>?_,?_,fun s=>?_⟩,ag0⟩
  ·rw [i3 0 (by omega) (fun h=>by have:=hbd 0 h; omega),af (by omega),aj]
   simp [b5,hZ]
  ·dsimp only
   rw [List.map_append]; exact hr2
  ·rcases i4 b hb with h | h
   ·have:=hbd b h; omega
   ·omega
  ·exact List.nodup_append.2 ⟨hnd,by simp,fun a ha c hc=>by simp at hc; subst hc; intro e; subst e; exact hf ha⟩
  ·dsimp only
   rw [hts,← List.append_assoc,List.mem_append,List.mem_append,← hmem]
end Go.Proofs.YtbgdcebmgjafjaaGreat
namespace Go.Proofs.YtbgdcebmgjafjaaGreat
open Go Go.Abs
theorem mT (K:Nat→Int):∀ n,(∀ i j,i < j→j < n→K j < 0→K i < 0)→∃ b,b ≤ n∧(∀ i,i < b→K i < 0)∧∀ i,b ≤ i→i < n→0 ≤ K i
 | 0,_=>⟨0,Nat.le_refl _,fun i h=>absurd h (by omega),fun i _ h=>absurd h (by omega)⟩
 | n + 1,hm=>by
  by_cases h:K n < 0
  ·refine ⟨n + 1,Nat.le_refl _,fun i hi=>?_,fun i h1 h2=>absurd h1 (by omega)⟩
   by_cases e:i=n
   ·subst e; exact h
   ·exact hm i n (by omega) (by omega) h
  ·obtain ⟨b,h1,h2,h3⟩:=mT K n (fun i j hi hj=>hm i j hi (by omega))
   refine ⟨b,by omega,h2,fun i hi hi2=>?_⟩
   by_cases e:i=n
   ·subst e; omega
   ·exact h3 i hi (by omega)
theorem xN {tb tf:Bool} {i j:Nat}:aU .shr tb tf (.int .u64 ((i:Int) + (j:Int))) (.int .u64 1)=some (.int .u64 (((i + j) / 2:Nat):Int)):=by
 have:=oP (k:=.u64) (a:=i + j) (b:=1) (tb:=tb) (tf:=tf) (k':=.u64) (by decide)
 simpa using this
attribute [local irreducible] aG al bg bc aN aR aE aS bf br Go.Abs.Fn aY Go.Abs.Pure aA aL Yl
theorem jv (c:List Spx) (k:Int) (hc:c.length ≤ 50) (hs:∀ s ∈ c,Shn s):Pure Tryz.prog 32 [dD c,.int .i64 k] (.tup [aC (di c k).1,.int .i64 (di c k).2]):=by
 refine Pure.of_c2 follows zi (Nat.le_of_ble_eq_true rfl) ?_
 simp only [b32,cO,cG,cN,cM,cD,cF,cB,au,aH]
 have hcc:=nt c (show _ ≤ _ by omega) hs
 unfold di
 by_cases he:be c=0
 rotate_left
 ·rw [if_pos he]
  have z:decide (be c ≠ 0)=true:=decide_eq_true he
  (have zz:=aI @az (aI @ar @z); repeat' (first|refine zW ?_|apply a_n|apply a_r|refine zO ?_|refine vY ?_|refine cY ?_ (hp:=hcc) (hs:=by (first | refine aa ?_ rfl | apply ac); (repeat' (first | exact ab | apply ag | apply ae | exact a7 _)); first | done | fail)|refine bxY ?_|refine cTY ?_|refine ah rfl ?_|refine r2Y ?_|fail)) <;> (try clear zz)
  exact fC (.eslsl _) rfl
 rw [if_neg (fun h=>h he)]
 rw [he] at hcc
 have z0:decide ((0:Int) ≠ 0)=false:=rfl
 obtain ⟨p1,p2,p3,p4⟩:=cK he
 by_cases hk:k < 1 ∨ 8 < k
 ·rw [if_pos hk]
  (have zz:=aI @az (aI @ar @z0); repeat' (first|refine zW ?_|apply a_n|apply a_r|refine zO ?_|refine vY ?_|refine cY ?_ (hp:=hcc) (hs:=by (first | refine aa ?_ rfl | apply ac); (repeat' (first | exact ab | apply ag | apply ae | exact a7 _)); first | done | fail)|refine bxY ?_|refine gTY ?_|refine gFY ?_|refine cTY ?_|refine cFY ?_|(refine zGY ?_ ?_ <;> (intro _hg; try (exfalso; omega)))|refine ah rfl ?_|refine r2Y ?_|fail)) <;> (try clear zz)
  all_goals first | exact fC (.eslsl _) rfl | (exfalso; omega)
 rw [if_neg hk]
 obtain ⟨n,rfl⟩:∃ n:Nat,k=n:=⟨k.toNat,by omega⟩
 rw [Int.toNat_natCast]
 have ha:=wB c n hc p2 ⟨by omega,by omega⟩
 (have zz:=aI @az (aI @ar (aI @ak @z0)); repeat' (first|refine zW ?_|apply a_n|refine zO ?_|refine vY ?_|refine cY ?_ (hp:=by first | exact hcc | exact ha) (hs:=by (first | refine aa ?_ rfl | apply ac); (repeat' (first | exact ab | apply ag | apply ae | exact a7 _ | exact bl _)); first | done | fail)|refine bxY ?_|refine gTY ?_|refine cFY ?_|(refine zGY ?_ ?_ <;> (intro _hg; try (exfalso; omega)))|refine ah rfl ?_|refine r2Y ?_|fail)) <;> (try clear zz)
 exact fC (bl _).snap rfl
theorem rp (l:List Spx) (v:Spx) (hl:Shn l) (hs:∀ c ∈ l,Shn c) (hv:Shn v) {b:Nat} (hb:b ≤ l.length) (h1:∀ i,i < b→bi (l.getD i default) v < 0) (h2:∀ i,b ≤ i→i < l.length→0 ≤ bi (l.getD i default) v) :
    Pure Tryz.prog 93 [aC l,ao v,.func 59 []] (.tup [.int .i64 b,.bool (decide (b < l.length) && decide (bi (l.getD b default) v=0))]):=by
 refine Pure.of_c2 follows AX (Nat.le_of_ble_eq_true rfl) ?_
 simp only [b93,cO,cG,cN,cM,cD,cF,cB,au,aH]
 have hl':l.length ≤ 17592186044416:=hl
 (have zz:=aI @ay (aI @ap @ak); repeat' (first|refine zW ?_|apply a_n|refine zO ?_|refine vZ ?_|fail)) <;> (try clear zz)
 refine vW (X:=Nat × Nat) (fun x=>[(0,aC l),(1,ao v),(2,.func 59 []),(8,.int .i64 l.length),(9,.int .i64 x.1),(10,.int .i64 x.2)]) (fun x=>x.1 ≤ b∧b ≤ x.2∧x.2 ≤ l.length) (fun x=>x.2 - x.1) (0,l.length) ⟨Nat.zero_le _,hb,Nat.le_refl _⟩ ag0 ?_
 rintro ⟨i,j⟩ ⟨g1,g2,g3⟩
 dsimp only at g1 g2 g3 ⊢
 by_cases hij:i < j
 ·have hh:(i + j) / 2 < l.length:=by omega
  have hc:=fR (l.getD ((i + j) / 2) default) v (hs _ (aO hh)) hv
  have ix:=dI hh
  by_cases hn:bi (l.getD ((i + j) / 2) default) v < 0
  ·have hbb:(i + j) / 2 < b:=Nat.lt_of_not_le fun h=>by have:=h2 _ h hh; omega
   (have zz:=aI @ay (aI @ap (aI @ak (aI @dW (aI @xN @ix)))); repeat' (first|refine zW ?_|apply a_n|refine zO ?_|refine vZ ?_|refine cZ ?_ (hp:=hc) (hs:=by (first | refine aa ?_ rfl | apply ac); (repeat' (first | exact ab | apply ag | apply ae | exact an _)); first | done | fail)|(refine zGZ ?_ ?_ <;> (intro _hg; try (exfalso; omega)))|fail)) <;> (try clear zz)
   exact ⟨((i + j) / 2 + 1,j),⟨by omega,by omega,by omega⟩,by dsimp only; omega,ag0,rfl,rfl⟩
  ·have hbb:b ≤ (i + j) / 2:=Nat.le_of_not_lt fun h=>hn (h1 _ h)
   (have zz:=aI @ay (aI @ap (aI @ak (aI @dW (aI @xN @ix)))); repeat' (first|refine zW ?_|apply a_n|refine zO ?_|refine vZ ?_|refine cZ ?_ (hp:=hc) (hs:=by (first | refine aa ?_ rfl | apply ac); (repeat' (first | exact ab | apply ag | apply ae | exact an _)); first | done | fail)|(refine zGZ ?_ ?_ <;> (intro _hg; try (exfalso; omega)))|fail)) <;> (try clear zz)
   exact ⟨(i,(i + j) / 2),⟨by omega,by omega,by omega⟩,by dsimp only; omega,ag0,rfl,rfl⟩
 ·have ei:i=b:=by omega
  have ej:j=b:=by omega
  clear hij g1 g2 g3
  subst ei
  by_cases hlt:i < l.length
  ·have hc:=fR (l.getD i default) v (hs _ (aO hlt)) hv
   have ix:=dI hlt
   have dlt:decide ((i:Int) < (l.length:Int))=true:=decide_eq_true (by omega)
   have dij:decide ((i:Int) < (j:Int))=false:=decide_eq_false (by omega)
   (have zz:=aI @ay (aI @ap (aI @ak (aI @ix (aI @dlt @dij)))); repeat' (first|refine zW ?_|apply a_n|apply a_x|refine zO ?_|refine vZ ?_|refine cZ ?_ (hp:=hc) (hs:=by (first | refine aa ?_ rfl | apply ac); (repeat' (first | exact ab | apply ag | apply ae | exact an _)); first | done | fail)|refine gTZ ?_|refine cFZ ?_|refine ah rfl ?_|refine r2Z ?_|fail)) <;> (try clear zz)
   refine fi (ax (.int _ _) (ax (bj ?_) ab))
   rw [decide_eq_true hlt,Bool.true_and]
  ·have dlt:decide ((i:Int) < (l.length:Int))=false:=decide_eq_false (by omega)
   have dij:decide ((i:Int) < (j:Int))=false:=decide_eq_false (by omega)
   (have zz:=aI @ay (aI @ap (aI @ak (aI @dlt @dij))); repeat' (first|refine zW ?_|apply a_n|apply a_x|refine zO ?_|refine vZ ?_|refine gFZ ?_|refine cFZ ?_|refine ah rfl ?_|refine r2Z ?_|fail)) <;> (try clear zz)
   refine fi (ax (.int _ _) (ax (bj ?_) ab))
   rw [decide_eq_false hlt,Bool.false_and]
theorem wD (l:List Spx) (v:Spx) (hl:Shn l) (hs:∀ c ∈ l,Shn c) (hv:Shn v) (ha:cP bi l):∃ b:Nat,Pure Tryz.prog 58 [aC l,ao v,.func 59 []] (.tup [.int .i64 b,.bool (decide (v ∈ l))])∧(v ∈ l→b < l.length∧l.getD b default=v):=by
 obtain ⟨b,hb,h1,h2⟩:=mT (fun i=>bi (l.getD i default) v) l.length (fun i j hij hj h=>pz.trans (cS ha hij hj) h)
 have hc:=rp l v hl hs hv hb h1 h2
 have he:(decide (b < l.length) && decide (bi (l.getD b default) v=0))=decide (v ∈ l)∧(v ∈ l→b < l.length∧l.getD b default=v):=by
  by_cases hm:v ∈ l
  ·obtain ⟨i,hi,e⟩:=List.getElem_of_mem hm
   have e':l.getD i default=v:=by simp [List.getD,hi,e]
   have hbi:b=i:=by
    rcases Nat.lt_trichotomy b i with h | h | h
    ·have h3:=h2 b (Nat.le_refl _) (by omega)
     have h4:=cS ha h hi
     rw [e'] at h4; omega
    ·exact h
    ·have h3:=h1 i h
     rw [e',dL] at h3; omega
   subst hbi
   rw [decide_eq_true hi,decide_eq_true hm,e',decide_eq_true (dL v)]
   exact ⟨rfl,fun _=>⟨hi,rfl⟩⟩
  ·rw [decide_eq_false hm]
   refine ⟨?_,fun h=>absurd h hm⟩
   by_cases hlt:b < l.length
   ·rw [decide_eq_true hlt,Bool.true_and,decide_eq_false]
    intro h
    exact hm (by rw [← lJ h]; exact aO hlt)
   ·rw [decide_eq_false hlt,Bool.false_and]
 rw [he.1] at hc
 refine ⟨b,?_,he.2⟩
 refine Pure.of_c2 follows zR (Nat.le_of_ble_eq_true rfl) ?_
 simp only [b58,cO,cG,cN,cM,cD,cF,cB,au,aH]
 (have zz:=aI @ay (aI @ap (aI @az @ar)); repeat' (first|refine zW ?_|apply a_n|refine zO ?_|refine vZ ?_|refine cZ ?_ (hp:=hc) (hs:=by (first | refine aa ?_ rfl | apply ac); (repeat' (first | exact ab | apply ag | apply ae | exact bl _ | exact an _ | exact Dat.func DatL.nil)); first | done | fail)|refine ah rfl ?_|refine r2Z ?_|fail)) <;> (try clear zz)
 exact fi (ax (.int _ _) (ax (.bool _) ab))
end Go.Proofs.YtbgdcebmgjafjaaGreat
namespace Go.Proofs.YtbgdcebmgjafjaaGreat
open Go Go.Abs
def gI (m:MapV) (X Y:List Spx) (n i:Nat):List Nat:=(List.range n).filter fun k=>decide (bZ m (X.getD k default)=Y.getD i default)
theorem ot {m:MapV} {X Y:List Spx} {n i:Nat}:gI m X Y (n + 1) i=gI m X Y n i ++ if bZ m (X.getD n default)=Y.getD i default then [n] else []:=by
 unfold gI
 rw [List.range_succ,List.filter_append]
 by_cases h:bZ m (X.getD n default)=Y.getD i default
 ·rw [if_pos h,List.filter_cons_of_pos (by simpa using h),List.filter_nil]
 ·rw [if_neg h,List.filter_cons_of_neg (by simpa using h),List.filter_nil]
theorem mE {m:MapV} {X Y:List Spx} {n i:Nat}:(gI m X Y n i).length ≤ n:=by
 unfold gI
 exact Nat.le_trans (List.length_filter_le _ _) (by simp)
def iK (l:List Nat):List Int:=l.map fun (n:Nat)=>(n:Int)
def rF (m:MapV) (X Y:List Spx):List (List Int):=(List.range Y.length).map fun i=>iK (gI m X Y X.length i)
def ig (c:Int) (rows:List (List Int)):AV:=.agg [.int .i64 c,d4 rows]
theorem rV (c:Int) (rows:List (List Int)):Dat (ig c rows):=Dat.agg (DatL.cons .int (DatL.cons (nT _) DatL.nil))
def bT (m:MapV) (a b:List Spx) (d:Int):(Int × List (List Int)) × Int:=if (ck m a b).2 ≠ 0 then ((0,[]),(ck m a b).2) else if (ck m a b).1=false then ((0,[]),22) else if d < 0 ∨ 8 ≤ d then ((0,[]),2) else ((((dY a (d + 1).toNat).length:Nat),rF m (dY a (d + 1).toNat) (dY b (d + 1).toNat)),0)
structure MatOk (H:Hp) (b lo hi n:Nat) (F:Nat→List Nat) (vs:List AV):Prop where
 box:H b=some vs
 len:vs.length=n
 row:∀ j,j < n→Row H 1 (vs.getD j .undef) ((F j).map nK)
 bnd:∀ j B,j < n→bE (vs.getD j .undef)=some B→lo ≤ B∧B < hi∧B ≠ b
 apart:∀ i j B,i < n→j < n→i ≠ j→bE (vs.getD i .undef)=some B→bE (vs.getD j .undef) ≠ some B
theorem MatOk.same {H H':Hp} {b lo hi hi' n:Nat} {F G:Nat→List Nat} {vs:List AV} (h:MatOk H b lo hi n F vs) (hb:H' b=H b) (hs:∀ x,lo ≤ x→x < hi→x ≠ b→H' x=H x) (hh:hi ≤ hi') (hG:∀ j,j < n→G j=F j):MatOk H' b lo hi' n G vs :=
 ⟨hb.trans h.box,h.len,fun j hj=>by rw [hG j hj]; exact (h.row j hj).same fun B hB=>by have:=h.bnd j B hj hB; exact hs B this.1 this.2.1 this.2.2,fun j B hj hB=>by have:=h.bnd j B hj hB; exact ⟨this.1,by omega,this.2.2⟩,h.apart⟩
theorem MatOk.put {H H':Hp} {b lo hi hi' n i x:Nat} {F G:Nat→List Nat} {vs:List AV} {sv:AV} (h:MatOk H b lo hi n F vs) (hin:i < n) (hG:∀ j,j < n→G j=if j=i then F j ++ [x] else F j) (hrow:Row H' 1 sv ((F i ++ [x]).map nK)) (hB:∀ B,bE sv=some B→bE (vs.getD i .undef)=some B ∨ hi ≤ B∧B < hi'∧B ≠ b) (hb:H' b=some (vs.set i sv))
    (hs:∀ x,lo ≤ x→x < hi→x ≠ b→bE (vs.getD i .undef) ≠ some x→H' x=H x) (hh:hi ≤ hi') (hlo:lo ≤ hi):MatOk H' b lo hi' n G (vs.set i sv):=by
 have hl:=h.len
 have hg:∀ j,(vs.set i sv).getD j .undef=if i=j then sv else vs.getD j .undef:=fun j=>oq (by omega)
 refine ⟨hb,by simp [hl],fun j hj=>?_,fun j B hj=>?_,fun p q B hp hq hpq=>?_⟩
 ·rw [hg,hG j hj]
  by_cases e:i=j
  ·rw [if_pos e,if_pos e.symm,← e]; exact hrow
  ·rw [if_neg e,if_neg (fun h=>e h.symm)]
   exact (h.row j hj).same fun B hB'=>by
    have:=h.bnd j B hj hB'
    exact hs B this.1 this.2.1 this.2.2 fun h'=>h.apart i j B hin hj e h' hB'
 ·rw [hg]
  by_cases e:i=j
  ·rw [if_pos e]
   intro hB'
   rcases hB B hB' with h' | h'
   ·have:=h.bnd _ B hin h'; exact ⟨this.1,by omega,this.2.2⟩
   ·exact ⟨by omega,h'.2⟩
  ·rw [if_neg e]
   intro hB'
   have:=h.bnd j B hj hB'
   exact ⟨this.1,by omega,this.2.2⟩
 ·rw [hg,hg]
  by_cases e1:i=p
  ·rw [if_pos e1,if_neg (by omega)]
   intro h1 h2
   rcases hB B h1 with h' | h'
   ·exact h.apart i q B hin hq (by omega) h' h2
   ·have:=h.bnd q B hq h2; omega
  ·rw [if_neg e1]
   by_cases e2:i=q
   ·rw [if_pos e2]
    intro h1 h2
    rcases hB B h2 with h' | h'
    ·exact h.apart p i B hp hin (by omega) h1 h'
    ·have:=h.bnd p B hp h1; omega
   ·rw [if_neg e2]; exact h.apart p q B hp hq hpq
theorem MatOk.snap {H:Hp} {b lo hi n:Nat} {F:Nat→List Nat} {vs:List AV} (h:MatOk H b lo hi n F vs):Snap H (.msl b n 1 0 n) (d4 ((List.range n).map fun i=>iK (F i))):=by
 refine mC (l:=((List.range n).map fun i=>iK (F i)).map ce) h.box h.len (by omega) (by simp) (fun y hy=>?_) (fun i a c ha hc=>?_)
 ·obtain ⟨z,_,rfl⟩:=List.mem_map.1 hy; rfl
 ·have hin:i < n:=by
    have:=(List.getElem?_eq_some_iff.1 hc).1
    simpa using this
  have hr:=h.row i hin
  rw [Nat.zero_add] at ha
  have e1:vs.getD i .undef=a:=by rw [List.getD_eq_getElem?_getD,ha]; rfl
  rw [e1] at hr
  have e2:c=ce (iK (F i)):=by
   rw [List.getElem?_map,List.getElem?_map,List.getElem?_range hin] at hc
   simpa using hc.symm
  rw [e2]
  exact sD hr
theorem MatOk.new {H:Hp} {b lo hi n:Nat} {F:Nat→List Nat} (hb:H b=some (List.replicate n .esl)) (hF:∀ j,j < n→F j=[]):MatOk H b lo hi n F (List.replicate n .esl):=by
 have hg:∀ j,j < n→(List.replicate n AV.esl).getD j .undef=.esl:=fun j hj=>by simp [List.getD,List.getElem?_replicate,hj]
 refine ⟨hb,by simp,fun j hj=>?_,fun j B hj h=>?_,fun i j B hi hj _ h=>?_⟩
 ·rw [hg j hj,hF j hj]; exact Row.nil
 ·rw [hg j hj] at h; cases h
 ·rw [hg i hi] at h; cases h
end Go.Proofs.YtbgdcebmgjafjaaGreat
namespace Go.Proofs.YtbgdcebmgjafjaaGreat
open Go Go.Abs
theorem fy {H:Hp} {s:AV} {c:Int} {l:List (List Int)} {e f:Int} (h:Snap H s (d4 l)) (he:e=f):Snap H (.tup [.agg [.int .i64 c,s],.int .i64 e]) (.tup [ig c l,.int .i64 f]):=by
 subst he; exact fi (ax (q9 (ax (.int _ _) (ax h ab))) (ax (.int _ _) ab))
theorem nC {m:MapV} {a b:List Spx} (h:(ck m a b).2=0) (h2:(ck m a b).1=true):cT m=0∧be a=0∧be b=0∧a.all (bD m)=true∧((a.map (bZ m)).all fun s=>b.any fun t=>bw s t)=true:=by
 unfold ck at h h2
 split at h
 ·exact absurd h ‹_›
 split at h
 ·exact absurd h ‹_›
 split at h
 ·exact absurd h ‹_›
 split at h
 ·cases h
 rename_i g1 g2 g3 g4
 rw [if_neg g1,if_neg g2,if_neg g3,if_neg g4] at h2
 refine ⟨Decidable.of_not_not g1,Decidable.of_not_not g2,Decidable.of_not_not g3,by cases e:a.all (bD m) with | true=>rfl | false=>exact absurd e g4,?_⟩
 exact h2
theorem jh {c:List Spx} {k:Nat} {s:Spx}:s ∈ dY c k ↔ ∃ t ∈ c,s ∈ bx t k:=by
 unfold dY; rw [gZ,gP]
theorem vq {c:List Spx} {k:Nat}:cP bi (dY c k):=ma pz _
theorem fK {c:List Spx} {k:Nat} (h:c.length ≤ 50) (h8:∀ s ∈ c,s.length ≤ 8):(dY c k).length ≤ 3500:=Nat.le_trans e9 (Nat.le_trans (e6 h8) (by omega))
attribute [local irreducible] aG al bg bc aN aR aE aS bf br Go.Abs.Fn aY Go.Abs.Pure aA aL Yl
theorem tP (m:MapV) (a b:List Spx) (d:Int) (hm:ShM m) (ha:a.length ≤ 50) (has:∀ s ∈ a,Shn s) (hb:b.length ≤ 50) (hbs:∀ s ∈ b,Shn s):Pure Tryz.prog 18 [eD m,dD a,dD b,.int .i64 d] (.tup [ig (bT m a b d).1.1 (bT m a b d).1.2,.int .i64 (bT m a b d).2]):=by
 refine Pure.of_c2 follows Bh (Nat.le_of_ble_eq_true rfl) ?_
 simp only [b18,cO,cG,cN,cM,cD,cF,cB,au,aH]
 have hsm:=oS m a b hm (show _ ≤ _ by omega) has (show _ ≤ _ by omega) hbs
 unfold bT
 by_cases he:(ck m a b).2=0
 rotate_left
 ·rw [if_pos he]
  have z:decide ((ck m a b).2 ≠ 0)=true:=decide_eq_true he
  generalize ck m a b=q at *
  obtain ⟨q1,q2⟩:=q
  (have zz:=aI @ay (aI @ap (aI @az (aI @ar @z))); repeat' (first|refine zW ?_|apply a_n|apply a_r|refine zO ?_|refine vY ?_|refine cY ?_ (hp:=hsm) (hs:=by (first | refine aa ?_ rfl | apply ac); (repeat' (first | exact ab | apply ag | apply ae | exact aW _ | exact a7 _)); first | done | fail)|refine alY ?_|refine bxY ?_|refine stY ?_|refine cTY ?_|refine ah rfl ?_|refine r2Y ?_|fail)) <;> (try clear zz)
  exact fy (.eslsl _) rfl
 rw [if_neg (fun h=>h he)]
 have z0:decide ((0:Int) ≠ 0)=false:=rfl
 cases hs1:(ck m a b).1
 ·rw [if_pos rfl]
  rw [he,hs1] at hsm
  (have zz:=aI @ay (aI @ap (aI @az (aI @ar @z0))); repeat' (first|refine zW ?_|apply a_n|apply a_r|refine zO ?_|refine vY ?_|refine cY ?_ (hp:=hsm) (hs:=by (first | refine aa ?_ rfl | apply ac); (repeat' (first | exact ab | apply ag | apply ae | exact aW _ | exact a7 _)); first | done | fail)|refine alY ?_|refine bxY ?_|refine stY ?_|refine cTY ?_|refine cFY ?_|refine ah rfl ?_|refine r2Y ?_|fail)) <;> (try clear zz)
  exact fy (.eslsl _) rfl
 rw [if_neg (fun h=>by cases h)]
 obtain ⟨w1,w2,w3,w4,w5⟩:=nC he hs1
 rw [he,hs1] at hsm
 by_cases hd:d < 0 ∨ 8 ≤ d
 ·rw [if_pos hd]
  (have zz:=aI @ay (aI @ap (aI @az (aI @ar @z0))); repeat' (first|refine zW ?_|apply a_n|apply a_r|refine zO ?_|refine vY ?_|refine cY ?_ (hp:=hsm) (hs:=by (first | refine aa ?_ rfl | apply ac); (repeat' (first | exact ab | apply ag | apply ae | exact aW _ | exact a7 _)); first | done | fail)|refine alY ?_|refine bxY ?_|refine stY ?_|refine gTY ?_|refine gFY ?_|refine cTY ?_|refine cFY ?_|(refine zGY ?_ ?_ <;> (intro _hg; try (exfalso; omega)))|refine ah rfl ?_|refine r2Y ?_|fail)) <;> (try clear zz)
  all_goals first | exact fy (.eslsl _) rfl | (exfalso; omega)
 rw [if_neg hd]
 obtain ⟨n,hn⟩:∃ n:Nat,d + 1=n:=⟨(d + 1).toNat,by omega⟩
 have hX:=jv a (d + 1) ha has
 have hY:=jv b (d + 1) hb hbs
 unfold di at hX hY
 rw [if_neg (fun h=>h w2),if_neg (by omega)] at hX
 rw [if_neg (fun h=>h w3),if_neg (by omega)] at hY
 obtain ⟨v1,v2,v3,v4⟩:=cK w2
 obtain ⟨u1,u2,u3,u4⟩:=cK w3
 have a8:∀ s ∈ a,s.length ≤ 8:=fun s h=>(c8 (v2 s h)).2.1
 have b8:∀ s ∈ b,s.length ≤ 8:=fun s h=>(c8 (u2 s h)).2.1
 rw [hn] at hX hY ⊢
 rw [Int.toNat_natCast] at hX hY ⊢
 have hXl:=fK (k:=n) ha a8
 have hYl:=fK (k:=n) hb b8
 have hXm:∀ s ∈ dY a n,s ≠ []∧s.length ≤ 8∧bD m s=true:=fun s h=>by
  obtain ⟨t,t1,t2⟩:=jh.1 h
  obtain ⟨g1,g2⟩:=dp.1 t2
  refine ⟨fun e=>by rw [e] at g2; simp at g2; omega,Nat.le_trans g1.length_le (a8 t t1),ff.2 fun v hv=>ff.1 (List.all_eq_true.1 w4 t t1) v (g1.subset hv)⟩
 have hYm:∀ s ∈ dY b n,Shn s:=fun s h=>by
  obtain ⟨t,t1,t2⟩:=jh.1 h
  have:=(dp.1 t2).1.length_le
  have:=b8 t t1
  show _ ≤ _; omega
 have hYa:=vq (c:=b) (k:=n)
 generalize dY a n=X at *
 generalize dY b n=Y at *
 (have zz:=aI @ay (aI @ap (aI @az (aI @ar (aI @z0 @hn)))); repeat' (first|refine zW ?_|apply a_n|refine zO ?_|refine vY ?_|refine cY ?_ (hp:=by first | exact hsm | exact hX | exact hY) (hs:=by (first | refine aa ?_ rfl | apply ac); (repeat' (first | exact ab | apply ag | apply ae | exact aW _ | exact a7 _)); first | done | fail)|refine alY ?_|refine bxY ?_|refine gTY ?_|refine cFY ?_|(refine zGY ?_ ?_ <;> (intro _hg; try (exfalso; omega)))|fail)) <;> (try clear zz)
 refine aD ev0 ev0 (ry m hm _ _) ?_
 rintro _ H1 nx1 ⟨hsm1,hle,h⟩
 have gr:H1 3=some [.int .i64 0,.esl]:=(hsm1 3 (by omega)).trans aj
 rcases h with ⟨-,B,rfl,hB1,hB2,hB3⟩ | ⟨he',-⟩
 rotate_left
 ·exact absurd w1 he'
 obtain ⟨q1,q2,q3,q4,q5⟩:=go w1
 have hzc:aZ (AV.agg [AV.esl]) Y.length=List.replicate Y.length .esl:=by simp [aZ,AV.cells]
 (have zz:=@ak; repeat' (first|refine zW ?_|apply a_n|refine zO ?_|refine vY ?_|fail)) <;> (try clear zz)
 refine xA (k1:=.i64) (k2:=.i64) (n:=Y.length) (m:=Y.length) rfl ev0 ev0 (by omega) (Int.le_refl _) (by omega) (by omega) ?_
 rw [Int.toNat_natCast,hzc,Nat.mul_one]
 (have zz:=@ak; repeat' (first|refine zW ?_|apply a_n|refine zO ?_|refine vY ?_|refine alY ?_|refine stY ?_|fail)) <;> (try clear zz)
 refine aM (X:=Nat × List AV) (fun x=>[(8,.ptr 3 2 0),(13,aC Y),(14,.mp B),(16,.ptr (nx1 + 1) 2 0),(80,aC X),(81,.int .i64 X.length),(82,.int .i64 x.1)]) (fun x H' nx'=>x.1 ≤ X.length∧nx1 + 2 ≤ nx'∧(∀ y,y < nx1→H' y=H1 y)∧H' (nx1 + 1)=some [.int .i64 X.length,.msl nx1 Y.length 1 0 Y.length]∧MatOk H' nx1 (nx1 + 2) nx' Y.length (gI m X Y x.1) x.2) (fun x=>X.length - x.1) (0,List.replicate Y.length .esl) ⟨Nat.zero_le _,by omega,fun y hy=>by (repeat rw [af (by omega)]),by rw [aj]; rfl,MatOk.new (by (repeat rw [af (by omega)]); rw [aj]) (fun j _=>rfl)⟩ (by (iterate 7 refine And.intro rfl ?_); trivial) ?_
 rintro ⟨k,vs⟩ H' nx' ⟨h1,h2,h3,h4,hmat⟩
 dsimp only at h1 h2 h3 h4 hmat ⊢
 by_cases hk:k < X.length
 rotate_left
 ·obtain rfl:k=X.length:=by omega
  have g6:H' 3=some [.int .i64 0,.esl]:=(h3 3 (by omega)).trans gr
  have hst:Snap (am H' 3 [.int .i64 X.length,.msl nx1 Y.length 1 0 Y.length]) (.msl nx1 Y.length 1 0 Y.length) (d4 (rF m X Y)):=(hmat.same (hi':=nx') (G:=gI m X Y X.length) (af (by omega)) (fun x x1 x2 x3=>af (by omega)) (Nat.le_refl _) (fun j _=>rfl)).snap
  (have zz:=aI @h4 @g6; repeat' (first|refine zW ?_|apply a_n|apply a_x|refine zO ?_|refine vY ?_|refine stY ?_|(refine zGY ?_ ?_ <;> (intro _hg; try (exfalso; omega)))|refine ah rfl ?_|refine r2Y ?_|fail)) <;> (try clear zz)
  exact fy hst rfl
 have ix:=dI hk
 obtain ⟨s1,s2,s3⟩:=hXm _ (aO hk)
 have hof:=zd m (X.getD k default) q2 (by omega) s1 B H' nx' ((h3 B hB2).trans hB3) (by omega)
 have hle8:=su (m:=m) (l:=X.getD k default)
 obtain ⟨p,hpl,hpm⟩:=wD Y (bZ m (X.getD k default)) (show _ ≤ _ by omega) hYm (show _ ≤ _ by omega) hYa
 have hF:∀ i,gI m X Y (k + 1) i=gI m X Y k i ++ if bZ m (X.getD k default)=Y.getD i default then [k] else []:=fun i=>ot
 generalize X.getD k default=s at *
 (have zz:=@ix; repeat' (first|refine zW ?_|apply a_n|refine zO ?_|refine vY ?_|(refine zGY ?_ ?_ <;> (intro _hg; try (exfalso; omega)))|fail)) <;> (try clear zz)
 refine aD ev0 ev0 hof ?_
 rintro _ H2 nx2 ⟨hle2,h⟩
 rcases h with ⟨ht,-,-⟩ | ⟨-,sv,Hf,H3,rfl,hone,hfz,hsn,hsm3⟩
 ·rw [s3] at ht; cases ht
 generalize bZ m s=t at *
 (have zz:=@hone; repeat' (first|apply a_n|refine zO ?_|refine vY ?_|fail)) <;> (try clear zz)
 refine d8 ?_
 refine pE Hf H3 [(8,.ptr 3 2 0),(13,aC Y),(14,.mp B),(16,.ptr (nx1 + 1) 2 0),(17,.int .i64 k),(19,ao t),(80,aC X),(81,.int .i64 X.length),(82,.int .i64 k)] hfz ⟨.inl rfl,.inl rfl,.inl rfl,.inl rfl,.inl rfl,.inr hsn,.inl rfl,.inl rfl,.inl rfl,trivial⟩ ?_
 have m3:MatOk H3 nx1 (nx1 + 2) nx2 Y.length (gI m X Y k) vs:=hmat.same (hsm3 _ (by omega)) (fun x x1 x2 x3=>hsm3 x x2) (by omega) (fun j _=>rfl)
 have h43:H3 (nx1 + 1)=some [.int .i64 X.length,.msl nx1 Y.length 1 0 Y.length]:=(hsm3 _ (by omega)).trans h4
 have h33:∀ y,y < nx1→H3 y=H1 y:=fun y hy=>(hsm3 y (by omega)).trans (h3 y hy)
 clear hmat h4 h3 hsm3 hfz hsn hof
 by_cases hin:t ∈ Y
 rotate_left
 ·rw [decide_eq_false hin] at hpl
  (have zz:=and_self; repeat' (first|refine zW ?_|apply a_n|refine zO ?_|refine vY ?_|refine cY ?_ (hp:=hpl) (hs:=by (first | refine aa ?_ rfl | apply ac); (repeat' (first | exact ab | apply ag | apply ae | exact bl _ | exact an _ | exact Dat.func DatL.nil)); first | done | fail)|refine cFY ?_|fail)) <;> (try clear zz)
  refine ⟨(k + 1,vs),by dsimp only; omega,⟨by dsimp only; omega,by omega,h33,h43,m3.same rfl (fun _ _ _ _=>rfl) (Nat.le_refl _) (fun j hj=>?_)⟩,ag0⟩
  dsimp only
  rw [hF,if_neg (fun e=>hin (by rw [e]; exact aO hj)),List.append_nil]
 rw [decide_eq_true hin] at hpl
 obtain ⟨p1,p2⟩:=hpm hin
 (have zz:=and_self; repeat' (first|refine zW ?_|apply a_n|refine zO ?_|refine vY ?_|refine cY ?_ (hp:=hpl) (hs:=by (first | refine aa ?_ rfl | apply ac); (repeat' (first | exact ab | apply ag | apply ae | exact bl _ | exact an _ | exact Dat.func DatL.nil)); first | done | fail)|refine cTY ?_|fail)) <;> (try clear zz)
 refine jV (nx1 + 1) nx1 h43 m3.box (by omega) fun S0 hS1 hS2 hsub=>?_
 have hrow:=m3.row p p1
 have hvs:vs[p]?=some (vs.getD p .undef):=by
  have:=m3.len
  simp [List.getD,show p < vs.length by omega]
 have hlen:=m3.len
 generalize hrv:vs.getD p .undef=rv at *
 (have zz:=aI @hS1 (aI @hS2 (aI @hvs @hlen)); repeat' (first|apply a_n|refine zO ?_|refine nvY ?_|fail)) <;> (try clear zz)
 have hFl:=mE (m:=m) (X:=X) (Y:=Y) (n:=k) (i:=p)
 have hb3:∀ b,bE rv=some b→nx1 + 2 ≤ b∧b < nx2∧b ≠ nx1:=fun b hb=>m3.bnd p b p1 (by rw [hrv]; exact hb)
 refine fF ?_
 (have zz:=and_self; repeat' (first|apply a_n|refine zO ?_|refine blY ?_|fail)) <;> (try clear zz)
 refine ⟨hsub _ (by rw [af (by omega)]; exact h43) (by rw [af (by omega)]; exact m3.box),?_⟩
 refine fF ?_
 refine cH rfl ev0 (hrow.same fun b hb=>?_) ev0 ca rfl rfl Nat.one_pos (by rw [List.length_map]; omega) (by rw [List.length_map]; omega) ?_
 ·have:=hb3 b hb; rw [af (by omega)]
 rintro s2 H4 nx4 hr2 i1 i2 i3 i4
 have lo:∀ x,x < nx2→bE rv ≠ some x→H4 x=H3 x:=fun x x1 x2=>(i3 x (by omega) x2).trans (af (by omega))
 have l1:H4 nx1=H3 nx1:=lo nx1 (by omega) (fun h=>by have:=hb3 _ h; omega)
 have l2:H4 (nx1 + 1)=H3 (nx1 + 1):=lo _ (by omega) (fun h=>by have:=hb3 _ h; omega)
 have g1:H4 nx1=some vs:=l1.trans m3.box
 have g2:=l2.trans h43
 obtain ⟨o1,o2⟩:=hr2.one
 refine kW ⟨hsub _ g2 g1,?_⟩
 have hlp:bb vs p [s2]=vs.set p s2:=by
  simp only [bb,List.length_cons,List.length_nil,Nat.zero_add]
  rw [List.set_eq_take_append_cons_drop,if_pos (by omega)]; simp
 (have zz:=aI @g1 (aI @o1 (aI @o2 (aI @hlen @hlp))); repeat' (first|apply a_n|refine zO ?_|refine vY ?_|refine nvY ?_|apply gD|refine stY ?_|fail)) <;> (try clear zz)
 refine ⟨(k + 1,vs.set p s2),by dsimp only; omega,⟨by dsimp only; omega,by omega,fun y hy=>?_,?_,?_⟩,ag0⟩
 ·rw [af (by omega),lo y (by omega) (fun h=>by have:=hb3 _ h; omega)]; exact h33 y hy
 ·rw [af (by omega)]; exact g2
 ·dsimp only
  refine m3.put (sv:=s2) (x:=k) p1 (fun j hj=>?_) ?_ (fun b hb=>?_) (by rw [aj,hlp]) (fun x x1 x2 x3 x4=>?_) (by omega) (by omega)
  ·rw [hF]
   by_cases e:j=p
   ·rw [if_pos e,if_pos (by rw [e,p2])]
   ·rw [if_neg e,if_neg (fun h=>e ?_),List.append_nil]
    rcases Nat.lt_trichotomy j p with h' | h' | h'
    ·have:=cS hYa h' p1
     rw [← h,p2,dL] at this; omega
    ·exact h'
    ·have:=cS hYa h' hj
     rw [← h,p2,dL] at this; omega
  ·rw [List.map_append]
   exact hr2.same fun b hb=>af (by
    rcases i4 b hb with h | h
    ·have:=hb3 b h; omega
    ·omega)
  ·rw [hrv]
   rcases i4 b hb with h | h
   ·exact .inl h
   ·exact .inr ⟨by omega,by omega,by omega⟩
  ·rw [af x3,lo x x2 (by rw [hrv] at x4; exact x4)]
end Go.Proofs.YtbgdcebmgjafjaaGreat
namespace Go.Proofs.YtbgdcebmgjafjaaGreat
open Go Go.Abs
theorem pq {H:Hp} {t x:AV} {cs:List AV} {l:List Nat} (hrow:Row H 1 t (cs ++ [x])) (hx:Row H 1 x (l.map nK)) (hne:∀ b,bE x=some b→bE t ≠ some b):∃ Hf H',Fz Hf H H'∧Row H' 1 t (cs ++ [ce (iK l)])∧∀ y,bE x ≠ some y→bE t ≠ some y→H' y=H y:=by
 generalize hds:l.map nK=ds at hx
 cases hx with
 | nil =>
  have hl:l=[]:=List.map_eq_nil_iff.1 hds
  generalize hcs:cs ++ [AV.esl]=es at hrow
  cases hrow with
  | nil=>exact absurd (congrArg List.length hcs) (by simp)
  | box b len es g1 g2 =>
   refine ⟨a9,am H b (cs ++ [ce (iK l)]),⟨fun y d h=>(by cases h),fun y d h=>?_⟩,Row.box b len _ aj (by rw [← g2,← hcs]; simp),fun y h1 h2=>?_⟩
   ·by_cases e:y=b
    ·subst e
     rw [aj] at h; cases h
     exact ⟨es,g1,rfl,by rw [← hcs]; exact d5.snoc (by rw [hl]; exact .eslsl 1)⟩
    ·rw [af e] at h
     exact ⟨d,h,rfl,d5.refl _ _⟩
   ·rw [af (fun e=>h2 (by rw [e]; rfl))]
 | box b len ds g1 g2 =>
  obtain ⟨H',h1,h2,h3⟩:=kN (x':=ce (iK l)) hrow g1 (sD (by rw [hds]; exact Row.box b len ds jK g2)) (hne b rfl)
  exact ⟨_,H',h1,h2,fun y y1 y2=>h3 y (fun e=>y1 (by rw [e]; rfl)) y2⟩
attribute [local irreducible] aG al bg bc aN aR aE aS bf br Go.Abs.Fn aY Go.Abs.Pure aA aL Yl
theorem ud (x y:List Int) (hx:x.length ≤ 1000000000) (hy:y.length ≤ 1000000000):Pure Tryz.prog 63 [ce x,ce y] (.bool (decide (x=y))):=by
 refine Pure.of_c2 follows z8 (Nat.le_of_ble_eq_true rfl) ?_
 simp only [b63,cO,cG,cN,cM,cD,cF,cB,au,aH]
 by_cases hl:x.length=y.length
 rotate_left
 ·have z:decide ((x.length:Int) ≠ y.length)=true:=decide_eq_true (by omega)
  (have zz:=@z; repeat' (first|refine zW ?_|apply a_n|apply a_r|refine zO ?_|refine vZ ?_|refine cTZ ?_|refine ah rfl ?_|refine r1Z ?_|fail)) <;> (try clear zz)
  exact bj (by symm; rw [decide_eq_false_iff_not]; rintro rfl; exact hl rfl)
 have z:decide ((x.length:Int) ≠ y.length)=false:=decide_eq_false (by omega)
 (have zz:=@z; repeat' (first|refine zW ?_|apply a_n|refine zO ?_|refine vZ ?_|refine cFZ ?_|fail)) <;> (try clear zz)
 refine vW (X:=Nat) (fun k=>[(0,ce x),(1,ce y),(5,.int .i64 k)]) (fun k=>k ≤ x.length∧∀ i,i < k→x.getD i default=y.getD i default) (fun k=>x.length - k) 0 ⟨Nat.zero_le _,fun i h=>absurd h (by omega)⟩ ag0 ?_
 rintro k ⟨h1,h2⟩
 by_cases hk:k < x.length
 rotate_left
 ·(have zz:=and_self; repeat' (first|refine zW ?_|apply a_n|apply a_x|refine zO ?_|refine vZ ?_|(refine zGZ ?_ ?_ <;> (intro _hg; try (exfalso; omega)))|refine ah rfl ?_|refine r1Z ?_|fail)) <;> (try clear zz)
  refine bj ?_
  symm
  rw [decide_eq_true_eq]
  refine List.ext_getElem hl fun i a b=>?_
  have:=h2 i (by omega)
  simpa [List.getD,a,b] using this
 by_cases he:x.getD k default=y.getD k default
 ·have z2:decide (x.getD k default ≠ y.getD k default)=false:=decide_eq_false (fun h=>h he)
  (have zz:=@z2; repeat' (first|refine zW ?_|apply a_n|refine zO ?_|refine vZ ?_|refine cFZ ?_|(refine zGZ ?_ ?_ <;> (intro _hg; try (exfalso; omega)))|fail)) <;> (try clear zz)
  exact ⟨k + 1,⟨by omega,fun i hi=>by
   rcases Nat.lt_succ_iff_lt_or_eq.1 hi with h' | rfl
   ·exact h2 i h'
   ·exact he⟩,by omega,ag0,rfl,rfl⟩
 ·have z2:decide (x.getD k default ≠ y.getD k default)=true:=decide_eq_true he
  (have zz:=@z2; repeat' (first|refine zW ?_|apply a_n|apply a_r|refine zO ?_|refine vZ ?_|refine cTZ ?_|(refine zGZ ?_ ?_ <;> (intro _hg; try (exfalso; omega)))|refine ah rfl ?_|refine r1Z ?_|fail)) <;> (try clear zz)
  exact bj (by symm; rw [decide_eq_false_iff_not]; rintro rfl; exact he rfl)
theorem tE (c:Int) (x:List (List Int)) (hx:x.length ≤ 1000000) (hxs:∀ r ∈ x,r.length ≤ 1000000):Pure Tryz.prog 21 [ig c x,ig c x] (.bool true):=by
 refine Pure.of_c2 follows zb (Nat.le_of_ble_eq_true rfl) ?_
 simp only [b21,cO,cG,cN,cM,cD,cF,cB,au,aH]
 unfold ig
 have z1:decide (c ≠ c)=false:=by simp
 have z2:decide ((x.length:Int) ≠ x.length)=false:=by simp
 (have zz:=aI @z1 @z2; repeat' (first|refine zW ?_|apply a_n|refine zO ?_|refine vY ?_|refine bxY ?_|refine gTY ?_|refine cFY ?_|fail)) <;> (try clear zz)
 refine aM (X:=Nat) (fun k=>[(2,.ptr 0 2 0),(3,.ptr 1 2 0),(5,.int .i64 k)]) (fun k H nx=>k ≤ x.length∧H 0=some [.int .i64 c,d4 x]∧H 1=some [.int .i64 c,d4 x]) (fun k=>x.length - k) 0 ⟨Nat.zero_le _,by rw [af (by omega),aj],aj⟩ (by (iterate 3 refine And.intro rfl ?_); trivial) ?_
 rintro k H nx ⟨h1,g0,g1⟩
 by_cases hk:k < x.length
 rotate_left
 ·(have zz:=aI @g0 @g1; repeat' (first|refine zW ?_|apply a_n|apply a_x|refine zO ?_|refine vY ?_|(refine zGY ?_ ?_ <;> (intro _hg; try (exfalso; omega)))|refine ah rfl ?_|refine r1Y ?_|fail)) <;> (try clear zz)
  exact .bool _
 have hs:=ud (x.getD k default) (x.getD k default) (by have:=hxs _ (aO hk); omega) (by have:=hxs _ (aO hk); omega)
 rw [decide_eq_true rfl] at hs
 (have zz:=aI @g0 @g1; repeat' (first|refine zW ?_|refine zM ?_|apply a_n|refine zO ?_|refine vY ?_|refine cY ?_ (hp:=hs) (hs:=by (first | refine aa ?_ rfl | apply ac); (repeat' (first | exact ab | apply ag | apply ae | exact fW _)); first | done | fail)|refine cFY ?_|(refine zGY ?_ ?_ <;> (intro _hg; try (exfalso; omega)))|fail)) <;> (try clear zz)
 exact ⟨k + 1,by omega,⟨by omega,g0,g1⟩,ag0⟩
theorem wF (m:MapV) (hm:ShM m):Pure Tryz.prog 20 [eD m,eD m] (.bool true):=by
 refine Pure.of_c2 follows BX (Nat.le_of_ble_eq_true rfl) ?_
 simp only [b20,cO,cG,cN,cM,cD,cF,cB,au,aH]
 have h1:=ef m.fr m.fr hm.1 hm.1
 have h2:=ef m.to m.to hm.2 hm.2
 rw [dL] at h1 h2
 (have zz:=aI @ay @ap; repeat' (first|refine zW ?_|apply a_n|refine zO ?_|refine vZ ?_|refine cZ ?_ (hp:=by first | exact h1 | exact h2) (hs:=by (first | refine aa ?_ rfl | apply ac); (repeat' (first | exact ab | apply ag | apply ae | exact an _)); first | done | fail)|refine bxZ ?_|refine gTZ ?_|(refine zGZ ?_ ?_ <;> (intro _hg; try (exfalso; omega)))|refine ah rfl ?_|refine r1Z ?_|fail)) <;> (try clear zz)
 exact .bool _
theorem rK (m:MapV) (a b:List Spx) (d:Int) (hm:ShM m) (fa:dZ a=true) (fb:dZ b=true):Pure Tryz.prog 19 [eD m,dD a,dD b,.int .i64 d] (.tup [ig (bT m a b d).1.1 (bT m a b d).1.2,.int .i64 (bT m a b d).2]):=by
 refine Pure.of_c2 follows BG (Nat.le_of_ble_eq_true rfl) ?_
 simp only [b19,cO,cG,cN,cM,cD,cF,cB,au,aH]
 have hsm:=wC m a b hm fa fb
 obtain ⟨fa1,fa2⟩:=eb.1 fa
 obtain ⟨fb1,fb2⟩:=eb.1 fb
 have has:∀ s ∈ a,Shn s:=fun s h=>by have:=fa2 s h; show _ ≤ _; omega
 have hbs:∀ s ∈ b,Shn s:=fun s h=>by have:=fb2 s h; show _ ≤ _; omega
 unfold bT
 by_cases he:(ck m a b).2=0
 rotate_left
 ·rw [if_pos he]
  have z:decide ((ck m a b).2 ≠ 0)=true:=decide_eq_true he
  generalize ck m a b=q at *
  obtain ⟨q1,q2⟩:=q
  (have zz:=aI @ay (aI @ap (aI @az (aI @ar @z))); repeat' (first|refine zW ?_|apply a_n|apply a_r|refine zO ?_|refine vY ?_|refine cY ?_ (hp:=hsm) (hs:=by (first | refine aa ?_ rfl | apply ac); (repeat' (first | exact ab | apply ag | apply ae | exact aW _ | exact a7 _)); first | done | fail)|refine alY ?_|refine bxY ?_|refine stY ?_|refine cTY ?_|refine ah rfl ?_|refine r2Y ?_|fail)) <;> (try clear zz)
  exact fy (.eslsl _) rfl
 rw [if_neg (fun h=>h he)]
 have z0:decide ((0:Int) ≠ 0)=false:=rfl
 cases hs1:(ck m a b).1
 ·rw [if_pos rfl]
  rw [he,hs1] at hsm
  (have zz:=aI @ay (aI @ap (aI @az (aI @ar @z0))); repeat' (first|refine zW ?_|apply a_n|apply a_r|refine zO ?_|refine vY ?_|refine cY ?_ (hp:=hsm) (hs:=by (first | refine aa ?_ rfl | apply ac); (repeat' (first | exact ab | apply ag | apply ae | exact aW _ | exact a7 _)); first | done | fail)|refine alY ?_|refine bxY ?_|refine stY ?_|refine cTY ?_|refine cFY ?_|refine ah rfl ?_|refine r2Y ?_|fail)) <;> (try clear zz)
  exact fy (.eslsl _) rfl
 rw [if_neg (fun h=>by cases h)]
 obtain ⟨w1,w2,w3,w4,w5⟩:=nC he hs1
 rw [he,hs1] at hsm
 by_cases hd:d < 0 ∨ 8 ≤ d
 ·rw [if_pos hd]
  (have zz:=aI @ay (aI @ap (aI @az (aI @ar @z0))); repeat' (first|refine zW ?_|apply a_n|apply a_r|refine zO ?_|refine vY ?_|refine cY ?_ (hp:=hsm) (hs:=by (first | refine aa ?_ rfl | apply ac); (repeat' (first | exact ab | apply ag | apply ae | exact aW _ | exact a7 _)); first | done | fail)|refine alY ?_|refine bxY ?_|refine stY ?_|refine gTY ?_|refine gFY ?_|refine cTY ?_|refine cFY ?_|(refine zGY ?_ ?_ <;> (intro _hg; try (exfalso; omega)))|refine ah rfl ?_|refine r2Y ?_|fail)) <;> (try clear zz)
  all_goals first | exact fy (.eslsl _) rfl | (exfalso; omega)
 rw [if_neg hd]
 obtain ⟨n,hn⟩:∃ n:Nat,d + 1=n:=⟨(d + 1).toNat,by omega⟩
 have hX:=jM a (d + 1) (by omega) has
 have hY:=jM b (d + 1) (by omega) hbs
 unfold di at hX hY
 rw [if_neg (fun h=>h w2),if_neg (by omega)] at hX
 rw [if_neg (fun h=>h w3),if_neg (by omega)] at hY
 obtain ⟨v1,v2,v3,v4⟩:=cK w2
 obtain ⟨u1,u2,u3,u4⟩:=cK w3
 have a8:∀ s ∈ a,s.length ≤ 8:=fun s h=>(c8 (v2 s h)).2.1
 have b8:∀ s ∈ b,s.length ≤ 8:=fun s h=>(c8 (u2 s h)).2.1
 rw [hn] at hX hY ⊢
 rw [Int.toNat_natCast] at hX hY ⊢
 have hXl:=fK (k:=n) (show a.length ≤ 50 by omega) a8
 have hYl:=fK (k:=n) (show b.length ≤ 50 by omega) b8
 have hXm:∀ s ∈ dY a n,s ≠ []∧s.length ≤ 8∧bD m s=true:=fun s h=>by
  obtain ⟨t,t1,t2⟩:=jh.1 h
  obtain ⟨g1,g2⟩:=dp.1 t2
  refine ⟨fun e=>by rw [e] at g2; simp at g2; omega,Nat.le_trans g1.length_le (a8 t t1),ff.2 fun v hv=>ff.1 (List.all_eq_true.1 w4 t t1) v (g1.subset hv)⟩
 have hYm:∀ s ∈ dY b n,Shn s:=fun s h=>by
  obtain ⟨t,t1,t2⟩:=jh.1 h
  have:=(dp.1 t2).1.length_le
  have:=b8 t t1
  show _ ≤ _; omega
 obtain ⟨q1,q2,q3,q4,q5⟩:=go w1
 generalize dY a n=X at *
 generalize dY b n=Y at *
 (have zz:=aI @ay (aI @ap (aI @az (aI @ar (aI @ak (aI @z0 @hn))))); repeat' (first|refine zW ?_|apply a_n|refine zO ?_|refine vY ?_|refine cY ?_ (hp:=by first | exact hsm | exact hX | exact hY) (hs:=by (first | refine aa ?_ rfl | apply ac); (repeat' (first | exact ab | apply ag | apply ae | exact aW _ | exact a7 _)); first | done | fail)|refine alY ?_|refine bxY ?_|refine stY ?_|refine gTY ?_|refine cFY ?_|(refine zGY ?_ ?_ <;> (intro _hg; try (exfalso; omega)))|fail)) <;> (try clear zz)
 refine n8 (X:=Nat × AV) (fun x=>[(4,.ptr 0 2 0),(8,.ptr 3 2 0),(12,aC X),(13,aC Y),(14,.ptr 4 2 0),(15,.int .i64 x.1)]) (fun x H nx=>x.1 ≤ Y.length∧5 ≤ nx∧H 0=some [ao m.fr,ao m.to]∧H 3=some [.int .i64 0,.esl]∧H 4=some [.int .i64 X.length,x.2]∧Row H 1 x.2 ((List.range x.1).map fun j=>ce (iK (gI m X Y X.length j)))∧∀ b,bE x.2=some b→5 ≤ b∧b < nx) (fun x=>Y.length - x.1) (0,.esl) ⟨a9,_,Fz.none,⟨Nat.zero_le _,by omega,by (repeat rw [af (by omega)]); rw [aj],by (repeat rw [af (by omega)]); rw [aj],by rw [aj]; rfl,Row.nil,fun b h=>(by cases h)⟩,.inl rfl,.inl rfl,.inl rfl,.inl rfl,.inl rfl,.inl rfl,trivial⟩ ?_
 rintro ⟨i,sv⟩ H nx ⟨h1,h2,g0,g3,g4,hrow,hbd⟩
 dsimp only at h1 g4 hrow hbd ⊢
 obtain ⟨o1,o2⟩:=hrow.one
 by_cases hi:i < Y.length
 rotate_left
 ·obtain rfl:i=Y.length:=by omega
  (have zz:=aI @ak (aI @g3 (aI @g4 (aI @o1 @o2))); repeat' (first|refine zW ?_|apply a_n|apply a_x|refine zO ?_|refine vY ?_|refine stY ?_|(refine zGY ?_ ?_ <;> (intro _hg; try (exfalso; omega)))|refine ah rfl ?_|refine r2Y ?_|fail)) <;> (try clear zz)
  refine fy ?_ rfl
  have hr2:Row (am H 3 [.int .i64 X.length,sv]) 1 sv ((rF m X Y).map ce):=by
   unfold rF
   rw [List.map_map]
   exact hrow.same fun b hb=>af (by have:=hbd b hb; omega)
  exact hr2.snapV
 have iy:=dI hi
 have hYi:=hYm _ (aO hi)
 have hF:∀ k,gI m X Y (k + 1) i=gI m X Y k i ++ if bZ m (X.getD k default)=Y.getD i default then [k] else []:=fun k=>ot
 generalize Y.getD i default=t at *
 (have zz:=@ak; repeat' (first|refine zW ?_|apply a_n|refine zO ?_|refine vY ?_|(refine zGY ?_ ?_ <;> (intro _hg; try (exfalso; omega)))|fail)) <;> (try clear zz)
 refine aM (X:=Nat × AV) (fun x=>[(4,.ptr 0 2 0),(8,.ptr 3 2 0),(12,aC X),(13,aC Y),(14,.ptr 4 2 0),(15,.int .i64 i),(16,x.2),(17,.int .i64 x.1)]) (fun x H' nx'=>x.1 ≤ X.length∧nx ≤ nx'∧(∀ y,y < nx→H' y=H y)∧Row H' 1 x.2 ((gI m X Y x.1 i).map nK)∧∀ b,bE x.2=some b→nx ≤ b∧b < nx') (fun x=>X.length - x.1) (0,.esl) ⟨Nat.zero_le _,Nat.le_refl _,fun _ _=>rfl,Row.nil,fun b h=>(by cases h)⟩ ag0 ?_
 rintro ⟨k,rv⟩ H' nx' ⟨k1,k2,k3,krow,kbd⟩
 dsimp only at k1 krow kbd ⊢
 obtain ⟨o3,o4⟩:=krow.one
 have g4':H' 4=some [.int .i64 X.length,sv]:=(k3 4 (by omega)).trans g4
 have g0':H' 0=some [ao m.fr,ao m.to]:=(k3 0 (by omega)).trans g0
 have g3':H' 3=some [.int .i64 0,.esl]:=(k3 3 (by omega)).trans g3
 by_cases hk:k < X.length
 rotate_left
 ·obtain rfl:k=X.length:=by omega
  have hr1:Row H' 1 sv ((List.range i).map fun j=>ce (iK (gI m X Y X.length j))):=hrow.same fun b hb=>k3 b (by have:=hbd b hb; omega)
  (have zz:=aI @ak (aI @g4' (aI @o3 @o4)); repeat' (first|refine zW ?_|apply a_n|apply a_x|refine zO ?_|refine vY ?_|refine blY ?_|(refine zGY ?_ ?_ <;> (intro _hg; try (exfalso; omega)))|fail)) <;> (try clear zz)
  refine cH rfl ev0 (hr1.same fun b hb=>?_) ev0 ca (by simp [AV.ones,o3]) rfl Nat.one_pos (by simp; omega) (by simp; omega) ?_
  ·have:=hbd b hb; rw [af (by omega)]
  rintro s2 H2 nx2 hr2 i1 i2 i3 i4
  have lo:∀ x,x < nx'→bE sv ≠ some x→H2 x=H' x:=fun x x1 x2=>(i3 x (by omega) x2).trans (af (by omega))
  have l4:∀ x,x < 5→H2 x=H' x:=fun x x1=>lo x (by omega) (fun h=>by have:=hbd _ h; omega)
  have g42:H2 4=some [.int .i64 X.length,sv]:=(l4 4 (by omega)).trans g4'
  obtain ⟨o5,o6⟩:=hr2.one
  have kr2:Row H2 1 rv ((gI m X Y X.length i).map nK):=krow.same fun b hb=>lo b (by have:=kbd b hb; omega) (fun h=>by have:=hbd b h; have:=kbd b hb; omega)
  have hb2:∀ b,bE s2=some b→5 ≤ b∧b < nx2∧bE rv ≠ some b:=fun b hb=>by
   rcases i4 b hb with h | h
   ·have:=hbd b h
    exact ⟨by omega,by omega,fun e=>by have:=kbd b e; omega⟩
   ·exact ⟨by omega,by omega,fun e=>by have:=kbd b e; omega⟩
  (have zz:=aI @g42 (aI @o5 @o6); repeat' (first|apply a_n|refine zO ?_|refine vY ?_|refine stY ?_|fail)) <;> (try clear zz)
  obtain ⟨Hf,H5,hfz,hr5,hs5⟩:=pq (H:=am H2 4 (bb [.int .i64 X.length,sv] 1 [s2])) (hr2.same fun b hb=>af (by have:=hb2 b hb; omega)) (kr2.same fun b hb=>af (by have:=kbd b hb; omega)) (fun b hb e=>(hb2 b e).2.2 hb)
  have hlow:∀ x,x < 5→H5 x=am H2 4 (bb [.int .i64 X.length,sv] 1 [s2]) x:=fun x hx=>hs5 x (fun e=>by have:=kbd x e; omega) (fun e=>by have:=hb2 x e; omega)
  refine ⟨(i + 1,s2),by dsimp only; omega,Hf,H5,hfz,⟨by dsimp only; omega,by omega,?_,?_,?_,?_,fun b hb=>?_⟩,eo ag0⟩
  ·rw [hlow 0 (by omega),af (by omega),l4 0 (by omega)]; exact g0'
  ·rw [hlow 3 (by omega),af (by omega),l4 3 (by omega)]; exact g3'
  ·rw [hlow 4 (by omega),aj]; rfl
  ·dsimp only
   rw [List.range_succ,List.map_append]; exact hr5
  ·have:=hb2 b hb; omega
 have ix:=dI hk
 obtain ⟨s1,s2,s3⟩:=hXm _ (aO hk)
 have ho:=xz m (X.getD k default) hm q2 (by omega) s3
 have hle8:=su (m:=m) (l:=X.getD k default)
 have hsame:=wO (bZ m (X.getD k default)) t (show _ ≤ _ by omega) hYi
 have hFk:=hF k
 have hFl:=mE (m:=m) (X:=X) (Y:=Y) (n:=k) (i:=i)
 generalize X.getD k default=s at *
 by_cases he2:bZ m s=t
 ·rw [decide_eq_true he2] at hsame
  rw [if_pos he2] at hFk
  (have zz:=aI @ak (aI @ix (aI @iy @g0')); repeat' (first|refine zW ?_|refine zM ?_|apply a_n|refine zO ?_|refine vY ?_|refine cY ?_ (hp:=by first | exact ho | exact hsame) (hs:=by (first | refine aa ?_ rfl | apply ac); (repeat' (first | exact ab | apply ag | apply ae | exact aW _ | exact an _)); first | done | fail)|refine blY ?_|refine cTY ?_|(refine zGY ?_ ?_ <;> (intro _hg; try (exfalso; omega)))|fail)) <;> (try clear zz)
  refine cH rfl ev0 (krow.same fun b hb=>?_) ev0 ca rfl rfl Nat.one_pos (by rw [List.length_map]; omega) (by rw [List.length_map]; omega) ?_
  ·have:=kbd b hb; rw [af (by omega)]
  rintro r2 H2 nx2 hr2 i1 i2 i3 i4
  obtain ⟨o5,o6⟩:=hr2.one
  (have zz:=aI @o5 @o6; repeat' (first|apply a_n|refine zO ?_|refine vY ?_|fail)) <;> (try clear zz)
  refine ⟨(k + 1,r2),by dsimp only; omega,⟨by dsimp only; omega,by omega,fun y hy=>?_,?_,fun b hb=>?_⟩,ag0⟩
  ·rw [i3 y (by omega) (fun h=>by have:=kbd _ h; omega),af (by omega)]; exact k3 y hy
  ·dsimp only
   rw [hFk,List.map_append]; exact hr2
  ·rcases i4 b hb with h | h
   ·have:=kbd b h; omega
   ·omega
 ·rw [decide_eq_false he2] at hsame
  rw [if_neg he2,List.append_nil] at hFk
  (have zz:=aI @ak (aI @ix (aI @iy @g0')); repeat' (first|refine zW ?_|refine zM ?_|apply a_n|refine zO ?_|refine vY ?_|refine cY ?_ (hp:=by first | exact ho | exact hsame) (hs:=by (first | refine aa ?_ rfl | apply ac); (repeat' (first | exact ab | apply ag | apply ae | exact aW _ | exact an _)); first | done | fail)|refine cFY ?_|(refine zGY ?_ ?_ <;> (intro _hg; try (exfalso; omega)))|fail)) <;> (try clear zz)
  exact ⟨(k + 1,rv),by dsimp only; omega,⟨by dsimp only; omega,k2,k3,by dsimp only; rw [hFk]; exact krow,kbd⟩,ag0⟩
end Go.Proofs.YtbgdcebmgjafjaaGreat
namespace Go.Proofs.YtbgdcebmgjafjaaGreat
open Go Go.Abs
attribute [local irreducible] aG al bg bc aN aR aE aS bf br Go.Abs.Fn aY Go.Abs.Pure aA aL Yl
end Go.Proofs.YtbgdcebmgjafjaaGreat