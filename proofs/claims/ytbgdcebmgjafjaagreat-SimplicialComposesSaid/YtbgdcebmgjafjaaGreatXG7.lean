/- Texts of this claim, one after the other: T162, T165, T146, T144, T147, T166, T167, T118, T145, T121. -/
import Derived.Test.YtbgdcebmgjafjaaGreatXG6
import Derived.Test.YtbgdcebmgjafjaaGreatXG4
import Derived.Test.YtbgdcebmgjafjaaGreatRows
import Derived.WalkKit
import Derived.ProofKit
import Derived.OpenShut

set_option linter.unusedSimpArgs false
set_option linter.unusedVariables false
namespace Go.Proofs.YtbgdcebmgjafjaaGreat
open Go Go.Abs
theorem jz {m:MapV} {c:List Spx} (hm:cb m=0) (hc:aO c=0) (ht:c.all (bo m)=true):dK m c (dp (c.map (bq m)))=(true,0)∧aO (dp (c.map (bq m)))=0:=by
 obtain ⟨p1,p2,p3,p4⟩:=cr hc
 have hI:aO (dp (c.map (bq m)))=0:=qq (by rw [List.length_map]; omega) fun s hs=>by
  obtain ⟨t,t1,rfl⟩:=List.mem_map.1 hs
  exact o6 hm (p2 t t1) (List.all_eq_true.1 ht t t1)
 refine ⟨?_,hI⟩
 unfold dK
 rw [if_neg (fun h=>h hm),if_neg (fun h=>h hc),if_neg (fun h=>h hI),if_neg (by rw [ht]; decide)]
 refine Prod.ext (List.all_eq_true.2 fun s hs=>?_) rfl
 obtain ⟨t,t1,rfl⟩:=List.mem_map.1 hs
 exact pd hc t1 (fun v hv=>hv)
attribute [local irreducible] aG al a9 aW aN aP aC aQ aZ bt Go.Abs.Fn aV Go.Abs.Pure ax aL Yl
end Go.Proofs.YtbgdcebmgjafjaaGreat
namespace Go.Proofs.YtbgdcebmgjafjaaGreat
open Go Go.Abs
def qf (l:List Int):Prop:=l.Pairwise (· < ·)
theorem kC:∀ (n:Nat) (a b:List Int),a.length + b.length ≤ n→qf a→qf b→qf (fq a b)∧∀ z,z ∈ fq a b ↔ (z ∈ a∧z ∉ b) ∨ (z ∈ b∧z ∉ a)
 | _,[],b,_,_,hb=>by rw [tH]; exact ⟨hb,fun z=>by simp⟩
 | _,x :: a,[],_,ha,_=>by rw [sO]; exact ⟨ha,fun z=>by simp⟩
 | 0,x :: a,y :: b,h,_,_=>by simp only [List.length_cons] at h; omega
 | n + 1,x :: a,y :: b,h,ha,hb=>by
  simp only [List.length_cons] at h
  obtain ⟨a1,a2⟩:=List.pairwise_cons.1 ha
  obtain ⟨b1,b2⟩:=List.pairwise_cons.1 hb
  rw [tO]
  by_cases g1:x < y
  ·rw [if_pos g1]
   obtain ⟨h1,h2⟩:=kC n a (y :: b) (by simp only [List.length_cons]; omega) a2 hb
   have hxb:∀ z ∈ y :: b,x < z:=fun z hz=>by
    rcases List.mem_cons.1 hz with rfl | hz
    ·exact g1
    ·have:=b1 z hz; omega
   refine ⟨List.pairwise_cons.2 ⟨fun z hz=>?_,h1⟩,fun z=>?_⟩
   ·rcases (h2 z).1 hz with ⟨q,_⟩ | ⟨q,_⟩
    ·exact a1 z q
    ·exact hxb z q
   ·rw [List.mem_cons,h2,List.mem_cons (a:=z) (b:=x)]
    by_cases hz:z=x
    ·subst hz
     have:z ∉ y :: b:=fun q=>by have:=hxb z q; omega
     simp [this]
    ·simp [hz]
  rw [if_neg g1]
  by_cases g2:y < x
  ·rw [if_pos g2]
   obtain ⟨h1,h2⟩:=kC n (x :: a) b (by simp only [List.length_cons]; omega) ha b2
   have hya:∀ z ∈ x :: a,y < z:=fun z hz=>by
    rcases List.mem_cons.1 hz with rfl | hz
    ·exact g2
    ·have:=a1 z hz; omega
   refine ⟨List.pairwise_cons.2 ⟨fun z hz=>?_,h1⟩,fun z=>?_⟩
   ·rcases (h2 z).1 hz with ⟨q,_⟩ | ⟨q,_⟩
    ·exact hya z q
    ·exact b1 z q
   ·rw [List.mem_cons,h2,List.mem_cons (a:=z) (b:=y)]
    by_cases hz:z=y
    ·subst hz
     have:z ∉ x :: a:=fun q=>by have:=hya z q; omega
     simp [this]
    ·simp [hz]
  rw [if_neg g2]
  obtain rfl:x=y:=by omega
  obtain ⟨h1,h2⟩:=kC n a b (by omega) a2 b2
  refine ⟨h1,fun z=>?_⟩
  rw [h2]
  by_cases hz:z=x
  ·subst hz
   have q1:z ∉ a:=fun q=>by have:=a1 z q; omega
   have q2:z ∉ b:=fun q=>by have:=b1 z q; omega
   simp [q1,q2]
  ·simp [hz]
theorem vu {a b:List Int} (ha:qf a) (hb:qf b) (h:∀ x,x ∈ a ↔ x ∈ b):a=b:=by
 have na:a.Nodup:=List.Pairwise.imp (fun {x y} (h:x < y) e=>by omega) ha
 have nb:b.Nodup:=List.Pairwise.imp (fun {x y} (h:x < y) e=>by omega) hb
 exact List.Perm.eq_of_pairwise (fun x y _ _ h1 h2=>by omega) ha hb ((List.perm_ext_iff_of_nodup na nb).2 h)
theorem oA {m:MapV} {X Y:List Spx} {n i:Nat} {x:Int}:x ∈ ff (fW m X Y n i) ↔ ∃ s:Nat,x=s∧s < n∧bq m (X.getD s default)=Y.getD i default:=by
 unfold ff fW
 simp only [List.mem_map,List.mem_filter,List.mem_range,decide_eq_true_eq]
 exact ⟨fun ⟨s,h1,h2⟩=>⟨s,h2.symm,h1⟩,fun ⟨s,h1,h2⟩=>⟨s,h2,h1.symm⟩⟩
theorem nk {m:MapV} {X Y:List Spx} {n i:Nat}:qf (ff (fW m X Y n i)):=by
 unfold ff fW qf
 rw [List.pairwise_map]
 exact (List.Pairwise.imp (fun {a b} (h:a < b)=>by omega) List.pairwise_lt_range).sublist List.filter_sublist
theorem xw {m:MapV} {X Y:List Spx} {i:Nat} (h:i < Y.length):(dN m X Y).getD i default=ff (fW m X Y X.length i):=by
 unfold dN
 simp [List.getD,h]
theorem oe {m:MapV} {X Y:List Spx}:(dN m X Y).length=Y.length:=by unfold dN; simp
theorem xL {l:List Int} (h:qf l) (i:Nat) (hi:i + 1 < l.length):l.getD i default < l.getD (i + 1) default:=by
 have:=(List.pairwise_iff_getElem.1 h) i (i + 1) (by omega) hi (by omega)
 simpa [List.getD,hi,show i < l.length by omega] using this
theorem pP {m:MapV} {X Y:List Spx} (hX:X.length ≤ 4096) (hY:Y.length ≤ 4096):vt X.length (dN m X Y):=by
 refine ⟨by omega,by omega,by rw [oe]; exact hY,fun r hr=>?_⟩
 unfold dN at hr
 obtain ⟨i,hi,rfl⟩:=List.mem_map.1 hr
 refine ⟨fun v hv=>?_,?_,xL nk⟩
 ·obtain ⟨s,rfl,h1,_⟩:=oA.1 hv
  omega
 ·unfold ff
  rw [List.length_map]
  exact Nat.le_trans rq hX
theorem pz {m:MapV} {X0 X1:List Spx} (hX1:X1.Nodup) {l:List Nat} (hl:l.Nodup) (hb:∀ j ∈ l,j < X1.length):∀ k,k ≤ l.length→qf (dP (dN m X0 X1) (ff (l.take k)))∧∀ x:Int,x ∈ dP (dN m X0 X1) (ff (l.take k)) ↔ ∃ s:Nat,x=s∧s < X0.length∧∃ j ∈ l.take k,bq m (X0.getD s default)=X1.getD j default
 | 0,_=>by
  refine ⟨List.Pairwise.nil,fun x=>⟨fun h=>(by cases h),?_⟩⟩
  rintro ⟨s,_,_,j,hj,_⟩
  simp at hj
 | k + 1,hk=>by
  obtain ⟨h1,h2⟩:=pz hX1 hl hb k (by omega)
  have hj:=hb _ (aq (l:=l) (k:=k) (by omega))
  have hnt:l.getD k default ∉ l.take k:=fun h=>by
   have:=(List.nodup_append.1 (by rw [← bG (show k < l.length by omega)]; exact hl.sublist (List.take_sublist _ _):(l.take k ++ [l.getD k default]).Nodup)).2.2 _ h _ (List.mem_singleton.2 rfl)
   exact this rfl
  rw [bG (by omega)]
  generalize l.getD k default=j at *
  rw [show ff (l.take k ++ [j])=ff (l.take k) ++ [(j:Int)] by unfold ff; simp,nR,Int.toNat_natCast,xw hj]
  obtain ⟨h3,h4⟩:=kC _ _ _ (Nat.le_refl _) h1 (nk (m:=m) (X:=X0) (Y:=X1) (n:=X0.length) (i:=j))
  refine ⟨h3,fun x=>?_⟩
  rw [h4,h2,oA]
  constructor
  ·rintro (⟨⟨s,rfl,q1,i,q2,q3⟩,_⟩ | ⟨⟨s,rfl,q1,q2⟩,_⟩)
   ·exact ⟨s,rfl,q1,i,List.mem_append_left _ q2,q3⟩
   ·exact ⟨s,rfl,q1,j,List.mem_append_right _ (List.mem_singleton.2 rfl),q2⟩
  ·rintro ⟨s,rfl,q1,i,q2,q3⟩
   have key:∀ i',i' ∈ l.take k→bq m (X0.getD s default)=X1.getD i' default→bq m (X0.getD s default)=X1.getD j default→False:=fun i' r1 r2 r3=>by
    have hi':=hb i' (List.mem_of_mem_take r1)
    rw [r2] at r3
    have:i'=j:=by
     have r4:X1[i']=X1[j]:=by simpa [List.getD,hi',hj] using r3
     exact (List.getElem_inj hX1).1 r4
    subst this
    exact hnt r1
   rcases List.mem_append.1 q2 with q2 | q2
   ·exact .inl ⟨⟨s,rfl,q1,i,q2,q3⟩,fun ⟨s',e,_,q5⟩=>by
      obtain rfl:s=s':=by omega
      exact key i q2 q3 q5⟩
   ·obtain rfl:=List.mem_singleton.1 q2
    exact .inr ⟨⟨s,rfl,q1,q3⟩,fun ⟨s',e,_,i',q5,q6⟩=>by
     obtain rfl:s=s':=by omega
     exact key i' q5 q6 q3⟩
end Go.Proofs.YtbgdcebmgjafjaaGreat
namespace Go.Proofs.YtbgdcebmgjafjaaGreat
open Go Go.Abs
open Nat (reduceEqDiff reduceAdd reduceLeDiff)
section
variable {P:Program} {T:Tm} {H:Hp} {nx:Nat}
end
attribute [local irreducible] aG al a9 aW aN aP aC aQ aZ bt Go.Abs.Fn aV Go.Abs.Pure ax aL Yl
end Go.Proofs.YtbgdcebmgjafjaaGreat
namespace Go.Proofs.YtbgdcebmgjafjaaGreat
open Go Go.Abs
structure PairV where
 a:List Spx
 b:List Spx
 d:Int
abbrev zK (p:PairV):AV:=.agg [aE p.a,aE p.b,.int .i64 p.d]
attribute [local irreducible] aG al a9 aW aN aP aC aQ aZ bt Go.Abs.Fn aV Go.Abs.Pure ax aL Yl
end Go.Proofs.YtbgdcebmgjafjaaGreat
namespace Go.Proofs.YtbgdcebmgjafjaaGreat
open Go Go.Abs
theorem yc {m:MapV} (h1:m.fr.length ≤ 4096) (h2:m.to.length=m.fr.length) (h3:b7 bB m.fr) (h4:∀ v ∈ m.fr,bD v=true) (h5:∀ v ∈ m.to,bD v=true):cb m=0:=by
 unfold cb
 rw [if_neg (by omega),if_neg (by omega)]
 refine cP fun k hk=>?_
 unfold q0
 rw [if_neg,if_neg]
 ·rintro ⟨a,b⟩
  have:=cT h3 (i:=k - 1) (j:=k) (by omega) hk
  omega
 ·rintro (h | h)
  ·rw [h4 _ (bc hk)] at h; cases h
  ·rw [h5 _ (bc (by omega))] at h; cases h
end Go.Proofs.YtbgdcebmgjafjaaGreat
namespace Go.Proofs.YtbgdcebmgjafjaaGreat
open Go Go.Abs
theorem im:∀ {b a:Spx},b7 bB b→b7 bB a→(∀ v ∈ a,v ∈ b)→a.Sublist b
 | _,[],_,_,_=>List.nil_sublist _
 | [],x :: a,_,_,h=>by cases h x List.mem_cons_self
 | y :: b,x :: a,hb,ha,h=>by
  obtain ⟨a1,a2⟩:=List.pairwise_cons.1 ha
  obtain ⟨b1,b2⟩:=List.pairwise_cons.1 hb
  have irr:=fun v=>jM.ord.irr v
  by_cases e:x=y
  ·subst e
   refine (im b2 a2 fun v hv=>?_).cons_cons x
   rcases List.mem_cons.1 (h v (List.mem_cons_of_mem _ hv)) with rfl | q
   ·exact absurd (a1 v hv) (irr v)
   ·exact q
  ·have hx:=(List.mem_cons.1 (h x List.mem_cons_self)).resolve_left e
   have hyx:=b1 x hx
   refine (im b2 ha fun v hv=>?_).cons y
   rcases List.mem_cons.1 (h v hv) with rfl | q
   ·rcases List.mem_cons.1 hv with rfl | q2
    ·exact absurd rfl e
    ·exact absurd hyx (jM.ord.asym _ _ (a1 v q2))
   ·exact q
theorem oZ {m n:MapV} {v:Vtx} (hm:m.to.length=m.fr.length) (hv:v ∈ m.fr):dA ⟨m.fr,m.to.map (dA n)⟩ v=dA n (dA m v):=by
 have hi:m.fr.idxOf v < m.to.length:=by rw [hm]; exact List.idxOf_lt_length_of_mem hv
 show (m.to.map (dA n)).getD (m.fr.idxOf v) default=dA n (m.to.getD (m.fr.idxOf v) default)
 simp [List.getD,hi]
theorem si {m n:MapV} {l:Spx} (hm:m.to.length=m.fr.length) (ht:∀ v ∈ l,v ∈ m.fr):bq ⟨m.fr,m.to.map (dA n)⟩ l=bq n (bq m l):=by
 refine gC jM iz iz fun w=>?_
 rw [eV,eV]
 constructor
 ·rintro ⟨v,v1,rfl⟩
  exact ⟨dA m v,eV.2 ⟨v,v1,rfl⟩,(oZ hm (ht v v1)).symm⟩
 ·rintro ⟨u,u1,rfl⟩
  obtain ⟨v,v1,rfl⟩:=eV.1 u1
  exact ⟨v,v1,oZ hm (ht v v1)⟩
theorem yp {L:List Spx} (h8:∀ s ∈ L,s.length ≤ 8) {n:MapV}:dp ((dp L).map (bq n))=dp (L.map (bq n)):=by
 have hYX:∀ s ∈ (dp L).map (bq n),s ∈ L.map (bq n):=fun s hs=>by
  obtain ⟨t,t1,rfl⟩:=List.mem_map.1 hs
  exact List.mem_map.2 ⟨t,jY t1,rfl⟩
 have hXY:∀ s ∈ L.map (bq n),∃ y ∈ (dp L).map (bq n),∀ v ∈ s,v ∈ y:=fun s hs=>by
  obtain ⟨t,t1,rfl⟩:=List.mem_map.1 hs
  obtain ⟨u,u1,u2⟩:=jy h8 8 t t1 (by omega)
  exact ⟨_,List.mem_map.2 ⟨u,u1,rfl⟩,uh u2⟩
 have hasc:∀ s ∈ L.map (bq n),b7 bB s:=fun s hs=>by
  obtain ⟨t,t1,rfl⟩:=List.mem_map.1 hs
  exact iz
 generalize (dp L).map (bq n)=Y at *
 generalize L.map (bq n)=X at *
 refine gC mq mY mY fun s=>?_
 rw [iR,iR]
 constructor
 ·rintro ⟨h1,h2⟩
  refine ⟨hYX s h1,?_⟩
  rw [← Bool.not_eq_true] at h2 ⊢
  refine fun h=>h2 ?_
  obtain ⟨t,t1,t2,t3⟩:=bE.1 h
  obtain ⟨y,y1,y2⟩:=hXY t t1
  refine bE.2 ⟨y,y1,?_,fun v hv=>y2 v (t3 v hv)⟩
  by_cases e:t=y
  ·rw [← e]; exact t2
  ·exact Nat.lt_trans t2 (wg (hasc t t1) (hasc y (hYX y y1)) y2 e)
 ·rintro ⟨h1,h2⟩
  rw [← Bool.not_eq_true] at h2
  obtain ⟨y,y1,y2⟩:=hXY s h1
  by_cases e:s=y
  ·subst e
   refine ⟨y1,?_⟩
   rw [← Bool.not_eq_true]
   refine fun h=>h2 ?_
   obtain ⟨t,t1,t2⟩:=bE.1 h
   exact bE.2 ⟨t,hYX t t1,t2⟩
  ·exact absurd (bE.2 ⟨y,hYX y y1,wg (hasc s h1) (hasc y (hYX y y1)) y2 e,y2⟩) h2
theorem sN {m:MapV} {A:List Spx} {k:Nat} {s:Spx} (hA:aO A=0) (hone:aO (dp (A.map (bq m)))=0) (hs:s ∈ dl A k) (hl:(bq m s).length=k):bq m s ∈ dl (dp (A.map (bq m))) k:=by
 obtain ⟨t,t1,t2⟩:=fy.1 hs
 have h:=pd (m:=m) hA t1 (y:=s) fun v hv=>(cW.1 t2).1.subset hv
 obtain ⟨u,u1,u2⟩:=List.any_eq_true.1 h
 exact fy.2 ⟨u,u1,cW.2 ⟨im (cm ((cr hone).2.1 u u1)).2.2.1 iz (eM.1 u2),hl⟩⟩
theorem vv {m n g:MapV} {A:List Spx} {k:Nat} {X2:List Spx} (hA:aO A=0) (hone:aO (dp (A.map (bq m)))=0) (hg:∀ s ∈ dl A k,bq g s=bq n (bq m s)) (h2:∀ s ∈ X2,s.length=k) :
    (dN n (dl (dp (A.map (bq m))) k) X2).map (dP (dN m (dl A k) (dl (dp (A.map (bq m))) k)))=dN g (dl A k) X2:=by
 have hface:=fun {s:Spx}=>sN (m:=m) (A:=A) (k:=k) (s:=s) hA hone
 have h0:∀ s ∈ dl A k,s.length=k:=fun s hs=>by
  obtain ⟨t,t1,t2⟩:=fy.1 hs
  exact (cW.1 t2).2
 have hnd:(dl (dp (A.map (bq m))) k).Nodup:=ro.nodup mq
 generalize dl (dp (A.map (bq m))) k=X1 at *
 generalize dl A k=X0 at *
 conv=>lhs; arg 2; unfold dN
 conv=>rhs; unfold dN
 rw [List.map_map]
 refine List.map_congr_left fun i hi=>?_
 have hi:=List.mem_range.1 hi
 show dP _ (ff (fW n X1 X2 X1.length i))=_
 have hmem:∀ j,j ∈ fW n X1 X2 X1.length i ↔ j < X1.length∧bq n (X1.getD j default)=X2.getD i default:=fun j=>by
  unfold fW
  simp only [List.mem_filter,List.mem_range,decide_eq_true_eq]
 have hln:(fW n X1 X2 X1.length i).Nodup:=by
  unfold fW
  exact List.nodup_range.sublist List.filter_sublist
 obtain ⟨r1,r2⟩:=pz (m:=m) (X0:=X0) hnd hln (fun j hj=>((hmem j).1 hj).1) _ (Nat.le_refl _)
 rw [List.take_length] at r1 r2
 refine vu r1 nk fun x=>?_
 rw [r2,oA]
 refine exists_congr fun s=>and_congr_right fun _=>and_congr_right fun hs=>?_
 rw [hg _ (aq hs)]
 have hs0:=h0 _ (aq hs)
 have hsf:=hface (aq hs)
 generalize X0.getD s default=t at *
 constructor
 ·rintro ⟨j,j1,j2⟩
  rw [j2]; exact ((hmem j).1 j1).2
 ·intro h
  have hlen:(bq m t).length=k:=by
   have q1:=i6 (m:=m) (l:=t)
   have q2:=i6 (m:=n) (l:=bq m t)
   rw [h,h2 _ (aq hi)] at q2
   omega
  obtain ⟨j,j1,j2⟩:=List.getElem_of_mem (hsf hlen)
  have j3:X1.getD j default=bq m t:=by simp [List.getD,j1,j2]
  exact ⟨j,(hmem j).2 ⟨j1,by rw [j3]; exact h⟩,j3.symm⟩
theorem jB {m:MapV} {a b:List Spx} {d:Int} (h:dK m a b=(true,0)) (hd:0 ≤ d∧d < 8):ew m a b d=(((((dl a (d + 1).toNat).length:Nat):Int),dN m (dl a (d + 1).toNat) (dl b (d + 1).toNat)),0):=by
 unfold ew
 rw [h,if_neg (fun h=>h rfl),if_neg (by decide),if_neg (by omega)]
theorem ol {m:MapV} {c:List Spx} (hm:cb m=0) (hc:aO c=0) (ht:c.all (bo m)=true):fx m c=(dp (c.map (bq m)),0):=by
 unfold fx
 rw [if_neg (fun h=>h hm),if_neg (fun h=>h hc),if_neg (by rw [ht]; decide)]
theorem wz {m n:MapV} (hm:cb m=0) (hn:cb n=0) (ht:bo n m.to=true):ed m n=(⟨m.fr,m.to.map (dA n)⟩,0)∧cb ⟨m.fr,m.to.map (dA n)⟩=0:=by
 obtain ⟨p1,p2,p3,p4,p5⟩:=fZ hm
 obtain ⟨q1,q2,q3,q4,q5⟩:=fZ hn
 refine ⟨?_,yc p1 (by rw [List.length_map]; exact p2) p3 p4 fun v hv=>?_⟩
 ·unfold ed
  rw [if_neg (fun h=>h hm),if_neg (fun h=>h hn),if_neg (by rw [ht]; decide)]
 ·obtain ⟨u,u1,rfl⟩:=List.mem_map.1 hv
  exact q5 _ (nY q2 (ca.1 ht u u1))
end Go.Proofs.YtbgdcebmgjafjaaGreat
namespace Go.Proofs.YtbgdcebmgjafjaaGreat
open Go Go.Abs
theorem oX {m n:MapV} {A:List Spx} (hm:cb m=0) (hn:cb n=0) (hA:aO A=0) (htn:bo n m.to=true) (htA:A.all (bo m)=true) :
    ∃ g:MapV,ed m n=(g,0)∧cb g=0∧g.fr.length=m.fr.length∧g.to.length=m.to.length∧∃ one two,fx m A=(one,0)∧fx n one=(two,0)∧fx g A=(two,0)∧aO one=0∧aO two=0∧one.length ≤ A.length∧two.length ≤ A.length ∧
     ∀ d:Int,0 ≤ d→d ≤ 3→∃ X0 X1 X2:List Spx,X0.length ≤ X0.length∧ew m A one d=((((X0.length:Nat):Int),dN m X0 X1),0)∧ew n one two d=((((X1.length:Nat):Int),dN n X1 X2),0)∧ew g A two d=((((X0.length:Nat):Int),dN g X0 X2),0)∧(dN n X1 X2).map (dP (dN m X0 X1))=dN g X0 X2∧X0=dl A (d + 1).toNat∧X1=dl one (d + 1).toNat∧X2=dl two (d + 1).toNat:=by
 obtain ⟨c1,c2⟩:=wz hm hn htn
 obtain ⟨p1,p2,p3,p4,p5⟩:=fZ hm
 obtain ⟨i1,i2⟩:=jz hm hA htA
 have hone:=oH (l:=A.map (bq m))
 have hsub:∀ s ∈ dp (A.map (bq m)),bo n s=true:=fun s hs=>by
  obtain ⟨t,t1,rfl⟩:=List.mem_map.1 (jY hs)
  refine ca.2 fun w hw=>?_
  obtain ⟨v,v1,rfl⟩:=eV.1 hw
  exact ca.1 htn _ (nY p2 (ca.1 (List.all_eq_true.1 htA t t1) v v1))
 have htone:(dp (A.map (bq m))).all (bo n)=true:=List.all_eq_true.2 hsub
 have htg:A.all (bo ⟨m.fr,m.to.map (dA n)⟩)=true:=List.all_eq_true.2 fun s hs=>ca.2 fun v hv=>ca.1 (List.all_eq_true.1 htA s hs) v hv
 obtain ⟨j1,j2⟩:=jz hn i2 htone
 obtain ⟨k1,k2⟩:=jz c2 hA htg
 have htwo:=oH (l:=(dp (A.map (bq m))).map (bq n))
 have hA8:=(cr hA).2.1
 have heq:dp ((dp (A.map (bq m))).map (bq n))=dp (A.map (bq ⟨m.fr,m.to.map (dA n)⟩)):=by
  rw [yp (L:=A.map (bq m)) (fun s hs=>by
   obtain ⟨t,t1,rfl⟩:=List.mem_map.1 hs
   exact Nat.le_trans i6 (cm (hA8 t t1)).2.1),List.map_map]
  congr 1
  refine List.map_congr_left fun s hs=>?_
  exact (si p2 (ca.1 (List.all_eq_true.1 htA s hs))).symm
 refine ⟨⟨m.fr,m.to.map (dA n)⟩,c1,c2,rfl,by simp,_,_,ol hm hA htA,ol hn i2 htone,?_,i2,j2,by simpa using hone,?_,fun d h1 h2=>⟨_,_,_,Nat.le_refl _,jB i1 ⟨h1,by omega⟩,jB j1 ⟨h1,by omega⟩,?_,?_,rfl,rfl,rfl⟩⟩
 ·rw [ol c2 hA htg,heq]
 ·rw [List.length_map] at htwo hone; omega
 ·rw [heq]; exact jB k1 ⟨h1,by omega⟩
 ·refine vv hA i2 (fun s hs=>?_) (fun s hs=>?_)
  ·obtain ⟨t,t1,t2⟩:=fy.1 hs
   exact si p2 fun v hv=>ca.1 (List.all_eq_true.1 htA t t1) v ((cW.1 t2).1.subset hv)
  ·obtain ⟨t,t1,t2⟩:=fy.1 hs
   exact (cW.1 t2).2
attribute [local irreducible] aG al a9 aW aN aP aC aQ aZ bt Go.Abs.Fn aV Go.Abs.Pure ax aL Yl
set_option maxHeartbeats 1000000 in
theorem qU (m n:MapV) (a b:List Spx) (d:Int) (hm:ShM m) (hn:ShM n) (ha:Shn a∧∀ s ∈ a,Shn s) (e1:l9 m=true) (e2:l9 n=true) (e3:fL a=true) (e4:cb m=0) (e5:cb n=0) (e6:aO a=0) (e7:¬ d < 0) (e8:¬ 3 < d) (e9:bo n m.to=true) (e10:a.all (bo m)=true):Pure Tryz.prog 8 [iM m,iM n,zK ⟨a,b,d⟩] (.bool true):=by
 refine Pure.of_c2 follows is8 (Nat.le_of_ble_eq_true rfl) ?_
 simp only [b8,cO,cG,cN,cM,cD,cF,cB,au,aK]
 have f1:=qv m hm
 have f2:=qv n hn
 have f3:=tY a ha.1 ha.2
 have f4:=gv m hm
 have f5:=gv n hn
 have f6:=gz a ha.1 ha.2
 have z0:decide ((0:Int) ≠ 0)=false:=rfl
 obtain ⟨fa1,fa2⟩:=nC.1 e3
 rw [e1] at f1
 rw [e2] at f2
 rw [e3] at f3
 rw [e4] at f4
 rw [e5] at f5
 rw [e6] at f6
 have z7:decide (d < 0)=false:=decide_eq_false e7
 have z8:decide (3 < d)=false:=decide_eq_false e8
 have s1:=pn m n hm hn
 have s2:=mA m a hm ha.1 ha.2
 obtain ⟨g,c1,c2,c3,c4,one,two,c5,c6,c7,c8,c9,c10,c11,hind⟩:=oX e4 e5 e6 e9 e10
 obtain ⟨X0,X1,X2,_,d1,d2,d3,d4,d5,d6,d7⟩:=hind d (by omega) (by omega)
 have h8:∀ {c:List Spx},aO c=0→∀ s ∈ c,s.length ≤ 8:=fun h s hs=>(cm ((cr h).2.1 s hs)).2.1
 have h8s:∀ {c:List Spx},aO c=0→∀ s ∈ c,Shn s:=fun h s hs=>show _ ≤ _ by have:=h8 h s hs; omega
 have l0:=ib (k:=(d + 1).toNat) (show a.length ≤ 50 by omega) (h8 e6)
 have l1:=ib (k:=(d + 1).toNat) (show one.length ≤ 50 by omega) (h8 c8)
 have l2:=ib (k:=(d + 1).toNat) (show two.length ≤ 50 by omega) (h8 c9)
 rw [← d5] at l0
 rw [← d6] at l1
 rw [← d7] at l2
 have hg:ShM g:=⟨show g.fr.length ≤ _ by rw [c3]; exact hm.1,show g.to.length ≤ _ by rw [c4]; exact hm.2⟩
 have s3:=mA n one hn (show _ ≤ _ by omega) (h8s c8)
 have s4:=mA g a hg ha.1 ha.2
 have s5:=wN two two (show _ ≤ _ by omega) (show _ ≤ _ by omega) (h8s c9) (h8s c9)
 have s6:=li m a one d hm (by omega) ha.2 (by omega) (h8s c8)
 have s7:=li n one two d hn (by omega) (h8s c8) (by omega) (h8s c9)
 have s8:=li g a two d hg (by omega) ha.2 (by omega) (h8s c9)
 have s9:=tC (X1.length:Nat) (X0.length:Nat) (dN n X1 X2) (dN m X0 X1) (pP (by omega) (by omega)) (pP (by omega) (by omega)) (by rw [oe])
 have hR:∀ r ∈ dN g X0 X2,r.length ≤ 1000000:=fun r hr=>by
  obtain ⟨_,_,_,q⟩:=pP (m:=g) (X:=X0) (Y:=X2) (by omega) (by omega)
  have:=(q r hr).2.1
  omega
 have s10:=u9 (X0.length:Nat) (dN g X0 X2) (by rw [oe]; omega) hR
 rw [c1] at s1
 rw [c5] at s2
 rw [c6] at s3
 rw [c7] at s4
 rw [decide_eq_true rfl] at s5
 rw [d1] at s6
 rw [d2] at s7
 rw [d3] at s8
 rw [d4] at s9
 have dm1:=dW (X0.length:Nat) (dN m X0 X1)
 have dm2:=dW (X1.length:Nat) (dN n X1 X2)
 have dm3:=dW (X0.length:Nat) (dN g X0 X2)
 dsimp only at s1 s2 s3 s4 s6 s7 s8
 unfold iU at s6 s7 s8 s9 s10 dm1 dm2 dm3
 clear d1 d2 d3 d4 hR
 generalize dN m X0 X1=M1 at *
 generalize dN n X1 X2=M2 at *
 generalize dN g X0 X2=M3 at *
 (have zz:=aI @aF (aI @ay (aI @aD (aI @ar (aI @z0 (aI @z7 @z8))))); repeat' (first|refine zW ?_|apply a_n|refine zO ?_|refine vY ?_|refine cY ?_ (hp:=by first | exact f1 | exact f2 | exact f3 | exact f4 | exact f5 | exact f6 | exact s1 | exact s2 | exact s3 | exact s4 | exact s5 | exact s6 | exact s7 | exact s8 | exact s9 | exact s10 | exact dT) (hs:=by (first | refine ac ?_ rfl | apply ae); (repeat' (first | exact aa | apply aj | apply af | exact bC _ | exact az _ | exact bi _ | exact dm1 | exact dm2 | exact dm3)); first | done | fail)|refine alY ?_|refine bxY ?_|refine stY ?_|refine gTY ?_|(refine zGY ?_ ?_ <;> (intro _hg; try (exfalso; omega)))|refine cFY ?_|refine ai rfl ?_|refine r1Y ?_|fail)) <;> (try clear zz)
 exact .bool _
set_option maxHeartbeats 1000000 in
theorem sY (m n:MapV) (p:PairV) (hm:ShM m) (hn:ShM n) (ha:Shn p.a∧∀ s ∈ p.a,Shn s) (hb:Shn p.b∧∀ s ∈ p.b,Shn s):Pure Tryz.prog 8 [iM m,iM n,zK p] (.bool true):=by
 obtain ⟨a,b,d⟩:=p
 dsimp only at ha hb
 by_cases hall:l9 m=true∧l9 n=true∧fL a=true∧cb m=0∧cb n=0∧aO a=0∧¬ d < 0∧¬ 3 < d∧bo n m.to=true∧a.all (bo m)=true
 ·obtain ⟨e1,e2,e3,e4,e5,e6,e7,e8,e9,e10⟩:=hall
  exact qU m n a b d hm hn ha e1 e2 e3 e4 e5 e6 e7 e8 e9 e10
 refine Pure.of_c2 follows is8 (Nat.le_of_ble_eq_true rfl) ?_
 simp only [b8,cO,cG,cN,cM,cD,cF,cB,au,aK]
 have f1:=qv m hm
 have f2:=qv n hn
 have f3:=tY a ha.1 ha.2
 have f4:=gv m hm
 have f5:=gv n hn
 have f6:=gz a ha.1 ha.2
 have z0:decide ((0:Int) ≠ 0)=false:=rfl
 cases e1:l9 m
 ·rw [e1] at f1
  (have zz:=aI @aF (aI @ay (aI @aD @ar)); repeat' (first|refine zW ?_|apply a_n|apply a_r|refine zO ?_|refine vY ?_|refine cY ?_ (hp:=by first | exact f1 | exact dT) (hs:=by (first | refine ac ?_ rfl | apply ae); (repeat' (first | exact aa | apply aj | apply af | exact bC _)); first | done | fail)|refine bxY ?_|refine gFY ?_|refine cTY ?_|refine ai rfl ?_|refine r1Y ?_|fail)) <;> (try clear zz)
  exact .bool _
 rw [e1] at f1
 cases e2:l9 n
 ·rw [e2] at f2
  (have zz:=aI @aF (aI @ay (aI @aD @ar)); repeat' (first|refine zW ?_|apply a_n|apply a_r|refine zO ?_|refine vY ?_|refine cY ?_ (hp:=by first | exact f1 | exact f2 | exact dT) (hs:=by (first | refine ac ?_ rfl | apply ae); (repeat' (first | exact aa | apply aj | apply af | exact bC _)); first | done | fail)|refine bxY ?_|refine gTY ?_|refine gFY ?_|refine cTY ?_|refine ai rfl ?_|refine r1Y ?_|fail)) <;> (try clear zz)
  exact .bool _
 rw [e2] at f2
 cases e3:fL a
 ·rw [e3] at f3
  (have zz:=aI @aF (aI @ay (aI @aD @ar)); repeat' (first|refine zW ?_|apply a_n|apply a_r|refine zO ?_|refine vY ?_|refine cY ?_ (hp:=by first | exact f1 | exact f2 | exact f3 | exact dT) (hs:=by (first | refine ac ?_ rfl | apply ae); (repeat' (first | exact aa | apply aj | apply af | exact bC _ | exact bi _)); first | done | fail)|refine bxY ?_|refine gTY ?_|refine gFY ?_|refine cTY ?_|refine ai rfl ?_|refine r1Y ?_|fail)) <;> (try clear zz)
  exact .bool _
 rw [e3] at f3
 obtain ⟨fa1,fa2⟩:=nC.1 e3
 by_cases e4:cb m=0
 rotate_left
 ·have z:decide (cb m ≠ 0)=true:=decide_eq_true e4
  (have zz:=aI @aF (aI @ay (aI @aD (aI @ar @z))); repeat' (first|refine zW ?_|apply a_n|apply a_r|refine zO ?_|refine vY ?_|refine cY ?_ (hp:=by first | exact f1 | exact f2 | exact f3 | exact f4 | exact dT) (hs:=by (first | refine ac ?_ rfl | apply ae); (repeat' (first | exact aa | apply aj | apply af | exact bC _ | exact bi _)); first | done | fail)|refine bxY ?_|refine gTY ?_|refine gFY ?_|refine cTY ?_|refine ai rfl ?_|refine r1Y ?_|fail)) <;> (try clear zz)
  exact .bool _
 rw [e4] at f4
 by_cases e5:cb n=0
 rotate_left
 ·have z:decide (cb n ≠ 0)=true:=decide_eq_true e5
  (have zz:=aI @aF (aI @ay (aI @aD (aI @ar (aI @z @z0)))); repeat' (first|refine zW ?_|apply a_n|apply a_r|refine zO ?_|refine vY ?_|refine cY ?_ (hp:=by first | exact f1 | exact f2 | exact f3 | exact f4 | exact f5 | exact dT) (hs:=by (first | refine ac ?_ rfl | apply ae); (repeat' (first | exact aa | apply aj | apply af | exact bC _ | exact bi _)); first | done | fail)|refine bxY ?_|refine gTY ?_|refine gFY ?_|refine cTY ?_|refine ai rfl ?_|refine r1Y ?_|fail)) <;> (try clear zz)
  exact .bool _
 rw [e5] at f5
 by_cases e6:aO a=0
 rotate_left
 ·have z:decide (aO a ≠ 0)=true:=decide_eq_true e6
  (have zz:=aI @aF (aI @ay (aI @aD (aI @ar (aI @z @z0)))); repeat' (first|refine zW ?_|apply a_n|apply a_r|refine zO ?_|refine vY ?_|refine cY ?_ (hp:=by first | exact f1 | exact f2 | exact f3 | exact f4 | exact f5 | exact f6 | exact dT) (hs:=by (first | refine ac ?_ rfl | apply ae); (repeat' (first | exact aa | apply aj | apply af | exact bC _ | exact bi _)); first | done | fail)|refine bxY ?_|refine gTY ?_|refine gFY ?_|refine cTY ?_|refine ai rfl ?_|refine r1Y ?_|fail)) <;> (try clear zz)
  exact .bool _
 rw [e6] at f6
 by_cases e7:d < 0
 ·have z:decide (d < 0)=true:=decide_eq_true e7
  (have zz:=aI @aF (aI @ay (aI @aD (aI @ar (aI @z @z0)))); repeat' (first|refine zW ?_|apply a_n|apply a_r|refine zO ?_|refine vY ?_|refine cY ?_ (hp:=by first | exact f1 | exact f2 | exact f3 | exact f4 | exact f5 | exact f6 | exact dT) (hs:=by (first | refine ac ?_ rfl | apply ae); (repeat' (first | exact aa | apply aj | apply af | exact bC _ | exact bi _)); first | done | fail)|refine bxY ?_|refine gTY ?_|refine gFY ?_|refine cTY ?_|refine ai rfl ?_|refine r1Y ?_|fail)) <;> (try clear zz)
  exact .bool _
 have z7:decide (d < 0)=false:=decide_eq_false e7
 by_cases e8:3 < d
 ·have z:decide (3 < d)=true:=decide_eq_true e8
  (have zz:=aI @aF (aI @ay (aI @aD (aI @ar (aI @z (aI @z0 @z7))))); repeat' (first|refine zW ?_|apply a_n|apply a_r|refine zO ?_|refine vY ?_|refine cY ?_ (hp:=by first | exact f1 | exact f2 | exact f3 | exact f4 | exact f5 | exact f6 | exact dT) (hs:=by (first | refine ac ?_ rfl | apply ae); (repeat' (first | exact aa | apply aj | apply af | exact bC _ | exact bi _)); first | done | fail)|refine bxY ?_|refine gTY ?_|refine cTY ?_|refine ai rfl ?_|refine r1Y ?_|fail)) <;> (try clear zz)
  exact .bool _
 have z8:decide (3 < d)=false:=decide_eq_false e8
 have s1:=pn m n hm hn
 have s2:=mA m a hm ha.1 ha.2
 have ok:bo n m.to=false ∨ a.all (bo m)=false ∨ (bo n m.to=true∧a.all (bo m)=true):=by
  cases bo n m.to <;> cases a.all (bo m) <;> simp
 rcases ok with e9 | e9 | ⟨e9,e10⟩
 ·have q:ed m n=(⟨[],[]⟩,6):=by unfold ed; rw [if_neg (fun h=>h e4),if_neg (fun h=>h e5),if_pos e9]
  rw [q] at s1
  dsimp only at s1
  generalize fx m a=P at *
  obtain ⟨p1,p2⟩:=P
  dsimp only at s2
  have z9:decide ((6:Int) ≠ 0)=true:=rfl
  (have zz:=aI @aF (aI @ay (aI @aD (aI @ar (aI @z9 (aI @z0 (aI @z7 @z8)))))); repeat' (first|refine zW ?_|apply a_n|apply a_r|refine zO ?_|refine vY ?_|refine cY ?_ (hp:=by first | exact f1 | exact f2 | exact f3 | exact f4 | exact f5 | exact f6 | exact s1 | exact s2 | exact dT) (hs:=by (first | refine ac ?_ rfl | apply ae); (repeat' (first | exact aa | apply aj | apply af | exact bC _ | exact bi _)); first | done | fail)|refine alY ?_|refine bxY ?_|refine stY ?_|refine gTY ?_|refine gFY ?_|refine cTY ?_|refine cFY ?_|refine ai rfl ?_|refine r1Y ?_|fail)) <;> (try clear zz)
  exact .bool _
 ·have q:fx m a=([],6):=by unfold fx; rw [if_neg (fun h=>h e4),if_neg (fun h=>h e6),if_pos e9]
  rw [q] at s2
  dsimp only at s2
  generalize ed m n=P at *
  obtain ⟨p1,p2⟩:=P
  dsimp only at s1
  have z9:decide ((6:Int) ≠ 0)=true:=rfl
  by_cases e10:p2=0
  ·subst e10
   (have zz:=aI @aF (aI @ay (aI @aD (aI @ar (aI @z9 (aI @z0 (aI @z7 @z8)))))); repeat' (first|refine zW ?_|apply a_n|apply a_r|refine zO ?_|refine vY ?_|refine cY ?_ (hp:=by first | exact f1 | exact f2 | exact f3 | exact f4 | exact f5 | exact f6 | exact s1 | exact s2 | exact dT) (hs:=by (first | refine ac ?_ rfl | apply ae); (repeat' (first | exact aa | apply aj | apply af | exact bC _ | exact bi _)); first | done | fail)|refine alY ?_|refine bxY ?_|refine stY ?_|refine gTY ?_|refine cTY ?_|refine cFY ?_|refine ai rfl ?_|refine r1Y ?_|fail)) <;> (try clear zz)
   exact .bool _
  ·have z10:decide (p2 ≠ 0)=true:=decide_eq_true e10
   (have zz:=aI @aF (aI @ay (aI @aD (aI @ar (aI @z10 (aI @z0 (aI @z7 @z8)))))); repeat' (first|refine zW ?_|apply a_n|apply a_r|refine zO ?_|refine vY ?_|refine cY ?_ (hp:=by first | exact f1 | exact f2 | exact f3 | exact f4 | exact f5 | exact f6 | exact s1 | exact s2 | exact dT) (hs:=by (first | refine ac ?_ rfl | apply ae); (repeat' (first | exact aa | apply aj | apply af | exact bC _ | exact bi _)); first | done | fail)|refine alY ?_|refine bxY ?_|refine stY ?_|refine gTY ?_|refine gFY ?_|refine cTY ?_|refine cFY ?_|refine ai rfl ?_|refine r1Y ?_|fail)) <;> (try clear zz)
   exact .bool _
 exact absurd ⟨e1,e2,e3,e4,e5,e6,e7,e8,e9,e10⟩ hall
end Go.Proofs.YtbgdcebmgjafjaaGreat
namespace Go.Proofs.YtbgdcebmgjafjaaGreat
open Go Go.Abs Go.RowKit
section
variable {H:Type} {enc:TypeId × Value→H} {W:World}
theorem oi:dt enc Tryz.prog W 3 (AV.int .i64) (fun n=>(Lit.int .i64 n).wf=true):=v6 Tryz.underlying3
set_option maxRecDepth 100000 in
theorem CR:dt enc Tryz.prog W 71 bk (fun _=>True) :=
 (fo Tryz.underlying71 (by kernel_rfl) (cQ (off:=0) (off':=1) rfl (by kernel_rfl) oi (cQ (off:=1) (off':=2) rfl (by kernel_rfl) oi gX))).map
  (fun a=>(⟨a.1,a.2.1⟩:Vtx)) (fun _ _=>trivial) (fun _ _=>rfl)
theorem oXs:dt enc Tryz.prog W 22 av Shn :=
 (l5 Tryz.underlying22 (sz:=2) (by_:=16) (by kernel_rfl) (by kernel_rfl) (by omega) (fun _=>rfl) CR).mono fun l h=>by have:=h.2.2; show _ ≤ _; omega
theorem CS:dt enc Tryz.prog W 25 aE (fun l=>Shn l∧∀ x ∈ l,Shn x) :=
 (l5 Tryz.underlying25 (sz:=1) (by_:=24) (by kernel_rfl) (by kernel_rfl) Nat.one_pos (fun _=>rfl) oXs).mono fun l h=>⟨by have:=h.2.2; show _ ≤ _; omega,h.1⟩
set_option maxRecDepth 100000 in
theorem B2:dt enc Tryz.prog W 24 iM ShM :=
 (fo Tryz.underlying24 (by kernel_rfl) (cQ (off:=0) (off':=1) rfl (by kernel_rfl) oXs (cQ (off:=1) (off':=2) rfl (by kernel_rfl) oXs gX))).map
  (fun a=>(⟨a.1,a.2.1⟩:MapV)) (by rintro ⟨n,i,u⟩ ⟨h1,h2,_⟩; exact ⟨h1,h2⟩) (fun _ _=>rfl)
set_option maxRecDepth 100000 in
theorem oCx:dt enc Tryz.prog W 27 ez (fun l=>Shn l∧∀ x ∈ l,Shn x) :=
 (fo Tryz.underlying27 (by kernel_rfl) (cQ (off:=0) (off':=1) rfl (by kernel_rfl) CS gX)).map
  (fun a=>a.1) (by rintro ⟨n,u⟩ ⟨h1,_⟩; exact h1) (fun _ _=>rfl)
end
theorem mF {f:FuncId} {xs:List AV} {vs:List Value} (h:Go.Abs.Pure Tryz.prog f xs (.bool true)) (w:World) (hv:bW (E0 (qk w)) w xs vs) :
    Calls Tryz.prog f vs.toArray w fun e w'=>e=.returned (.bool true)∧Below w.heap.size w w':=by
 refine (h.2 (qk w) w vs (fun _ h=>h) hv).mono ?_
 rintro e w' ⟨v,imm',rfl,hb,_,_,_,hr⟩
 cases hr
 exact ⟨rfl,hb⟩
theorem CO:laidOutB Tryz.prog=true:=by kernel_rfl
end Go.Proofs.YtbgdcebmgjafjaaGreat
namespace Go.Proofs.YtbgdcebmgjafjaaGreat
open Go Go.Abs Go.RowKit
section
variable {H:Type} {enc:TypeId × Value→H} {W:World}
set_option maxRecDepth 100000 in
theorem BX:dt enc Tryz.prog W 40 zK (fun p=>(Shn p.a∧∀ x ∈ p.a,Shn x)∧(Shn p.b∧∀ x ∈ p.b,Shn x)) :=
 (fo Tryz.underlying40 (by kernel_rfl) (cQ (off:=0) (off':=1) rfl (by kernel_rfl) oCx (cQ (off:=1) (off':=2) rfl (by kernel_rfl) oCx (cQ (off:=2) (off':=3) rfl (by kernel_rfl) oi gX)))).map
  (fun a=>(⟨a.1,a.2.1,a.2.2.1⟩:PairV)) (by rintro ⟨n,i,k,u⟩ ⟨h1,h2,_⟩; exact ⟨h1,h2⟩) (fun _ _=>rfl)
end
end Go.Proofs.YtbgdcebmgjafjaaGreat
namespace Go.Proofs.YtbgdcebmgjafjaaGreat
open Go Go.Abs Go.RowKit Go.ChangeShapes Go.WideShapes Go.ChangeAt
theorem oN {H:Type} {enc:TypeId × Value→H} {P:Program} {f:Func} {s:ChangeSpec} {apart fresh handsOn again:Bool} {W W':World} {args:Array Value} {v:Value} {ds gs:List (DataW H)} {before pa pv:List MemPlace}
    (hW:DataW.Whole enc P f.params.toList s.vars apart W args.toList ds gs before)
    (hres:∀ (b:Nat) (sp:Nat→Bool) (hd:Bool),DataW.TrodAll enc P W' b sp hd f.resultTypes.toList (v.resultList f.resultTypes.size) (s.fn H (ds ++ gs)).results [])
    (hargs:∀ sp:Nat→Bool,(∀ p ∈ before,sp p.block=true)→DataW.TrodAll enc P W' 0 sp true f.params.toList args.toList (s.fn H (ds ++ gs)).args pa)
    (hvars:∀ sp:Nat→Bool,(∀ p ∈ before,sp p.block=true)→DataW.TrodVars enc P W' sp s.vars (s.fn H (ds ++ gs)).vars pv)
    (hps:before=pa ++ pv) (hb:Below W.heap.size W W')
    (hok:∀ (j:Nat) (t:TypeId) (r:Value),f.resultTypes[j]?=some t→(v.resultList f.resultTypes.size)[j]?=some r→Value.okWide P W' .any 0 t r) :
    s.post enc P f apart fresh handsOn again W args v W':=by
 have hold:∀ p ∈ before,(fun b=>decide (b < W.heap.size)) p.block=true:=fun p hp=>by simpa using hW.lt p hp
 have hlt:=fun p hp=>hW.lt p hp
 refine ⟨ds,gs,before,[],pa,pv,hW,hres _ _ _,hargs _ hold,hvars _ hold,World.keptBut_mono (fun p hp=>⟨hp,?_⟩) (hb.frame _),fun _=>?_⟩
 ·rw [hps,List.mem_append] at hp
  exact Or.inr hp
 ·obtain ⟨_,_,_,_,_,hz,hn⟩:=hW
  refine ⟨hok,_,_,([] ++ pa) ++ pv,⟨[] ++ pa,pv,trodAll_append (hargs _ (fun _ _=>rfl)) (hres _ _ _),hvars _ (fun _ _=>rfl),rfl,?_,?_⟩,?_⟩
  ·intro b off hp
   have hp':MemPlace.cell b off ∈ before:=by rw [hps]; simpa using hp
   rw [hb.frozen (hlt _ hp')]
   exact hz b off hp'
  ·intro ha
   have:=hn ha
   rw [hps] at this
   simpa using this
  ·intro p hp _
   rw [hps]
   simpa using hp
theorem ws {E:Env} {w:World}:bW E w [] []:=⟨rfl,fun i x y h=>(by cases h)⟩
theorem lK {E:Env} {w:World} {x:AV} {y:Value} {xs:List AV} {ys:List Value} (h:Rel E w x y) (hs:bW E w xs ys):bW E w (x :: xs) (y :: ys):=by
 refine ⟨by simp [hs.1],fun i a b ha hb=>?_⟩
 cases i with
 | zero=>simp at ha hb; subst ha hb; exact h
 | succ i=>simp at ha hb; exact hs.2 i a b ha hb
theorem own:ownKnob Tryz.prog.godebug=none:=by kernel_rfl
end Go.Proofs.YtbgdcebmgjafjaaGreat