/- Texts of this claim, one after the other: T163, T164, A33, T122, T133, T162, T165, T190, T172, T173, T146, T174, T175, T176, T177, T144, T147, T166, T167, T201, T202, T203, T148, T179, T178, T180, A17, T204, T205, T206, T207, T118, T149, T208, T121. -/
import Derived.Test.YtpfkjcjgdilkkaaGreatXG6
import Derived.Test.YtpfkjcjgdilkkaaGreatXG4
import Derived.Test.YtpfkjcjgdilkkaaGreatXG3
import Derived.Test.YtpfkjcjgdilkkaaGreatRows
import Derived.WalkKit
import Derived.ProofKit
import Derived.OpenShut

set_option linter.unusedSimpArgs false
set_option linter.unusedVariables false
set_option maxHeartbeats 1000000
namespace Go.Proofs.YtpfkjcjgdilkkaaGreat
open Go Go.Abs
open Nat (reduceEqDiff reduceAdd reduceLeDiff)
theorem yH {x:Int} {l:List Int}:iW 1 (cu (x :: l)) (some (.int .i64 1)) none none=some (cu l):=jB (l:=x :: l) (k:=1) (by simp)
theorem Ea {x:Int} {l:List Int}:fg 1 (cu (x :: l)) (.int .i64 0)=some (.iptr [.int .i64 x] 0):=by
 rw [ln,if_pos ⟨Int.le_refl _,by simp only [cS]; omega⟩]; rfl
theorem og {P:Program} {T:Tm} {H:Hp} {nx:Nat} {dm:DM} {K:SP} {l:List Op2} {d:Option Nat} {bytes b N len n:Nat} {s x:Opd} {v:AV} {new C cs:List AV} (hd:dm2 dm T (.app 1 bytes s x)=true) (hs:ov T s=.msl b N 1 0 len) (hb:H b=some C) (hN:C.length=N) (htk:C.take len=cs) (hcl:cs.length=len) (hx:ov T x=v) (hsrc:ed 1 H v=some (n,new)) (ho:AV.ones new=true) (hnl:new.length=n) (hle:len + n ≤ N) (h1:N * bytes ≤ 140737488355328) (h2:N ≤ 9223372036854775807)
    (next:∀ C':List AV,C'.length=N→C'.take (len + n)=cs ++ new→av P dm l (aP T d (.msl b N 1 0 (len + n))) (ao H b C') nx K) :
    av P dm (⟨d,none,.app 1 bytes s x⟩ :: l) T H nx K:=by
 by_cases e:len=N
 ·obtain rfl:n=0:=by omega
  obtain rfl:new=[]:=List.eq_nil_of_length_eq_zero hnl;subst e;refine Cw hd hs hb hx hsrc ho hN (Nat.mul_one _).symm h1 (by omega) ?_;rw [lL,Nat.mul_one];exact next _ (by rw [iJ]; exact hN) (by rw [iJ,iJ,lL]; exact htk)
 ·refine uF hd hs hb hx hsrc ho hN (fun _=>by omega) (by omega) (by omega) ?_;refine next _ ?_ ?_
  ·rw [gA (by rw [hnl,hN]; omega)]; exact hN
  ·simp only [bu,b0,Nat.mul_one];rw [htk,vP (by rw [dl,hcl,hnl]; omega),fq (by rw [dl,hcl,hnl]; omega)]
theorem th {H:Hp} {b N len:Nat} {C:List AV} {R:List Int} (hb:H b=some C) (hN:C.length=N) (hle:len ≤ N) (hR:R.length=len) (h:C.take len=R.map (AV.int .i64)):Snap H (.msl b N 1 0 len) (cu R):=by
 refine kH (l:=R.map (AV.int .i64)) hb hN (by omega) (by simp [hR]) (fun y hy=>?_) (fun i a c ha hc=>?_)
 ·obtain ⟨z,_,rfl⟩:=cL.1 hy; rfl
 ·have hin:i < len:=by have:=(bD.1 hc).1; rw [cr] at this; omega
  rw [← h,fX,if_pos hin] at hc;rw [b0,hc] at ha; cases ha
  have hm:a ∈ R.map (AV.int .i64):=by
   rw [← h];exact fx (i:=i) (by rw [fX,if_pos hin]; exact hc)
  obtain ⟨z,_,rfl⟩:=cL.1 hm;exact .int _ _
def g8:List Int→List Int→List Int
 | [],b=>b
 | x :: a,[]=>x :: a
 | x :: a,y :: b=>if x < y then x :: g8 a (y :: b) else if y < x then y :: g8 (x :: a) b else g8 a b
termination_by a b=>a.length + b.length
theorem yk {b:List Int}:g8 [] b=b:=by rw [g8]
theorem xL {a:List Int}:g8 a []=a:=by cases a <;> rw [g8]
theorem yu {x y:Int} {a b:List Int}:g8 (x :: a) (y :: b)=if x < y then x :: g8 a (y :: b) else if y < x then y :: g8 (x :: a) b else g8 a b:=by rw [g8]
theorem mU:∀ (n:Nat) (a b:List Int),a.length + b.length ≤ n→(g8 a b).length ≤ a.length + b.length
 | _,[],b,_=>by rw [yk]; simp
 | _,x :: a,[],_=>by rw [xL]; simp
 | 0,x :: a,y :: b,h=>by simp only [cS] at h; omega
 | n + 1,x :: a,y :: b,h=>by
  simp only [cS] at h ⊢;rw [yu];have h1:=mU n a (y :: b) (by simp only [cS]; omega);have h2:=mU n (x :: a) b (by simp only [cS]; omega);have h3:=mU n a b (by omega);simp only [cS] at h1 h2;split
  ·simp only [cS]; omega
  split
  ·simp only [cS]; omega
  ·omega
attribute [local irreducible] aW av bQ bO bl bB aU bx bT cK Go.Abs.Fn bL Go.Abs.Pure aS bg Yl
theorem zC (x:List Int) (n:Int) (hx:x.length ≤ 1000000) (hr:∀ v ∈ x,0 ≤ v∧v < n) (ha:∀ i,i + 1 < x.length→x.getD i default < x.getD (i + 1) default):Pure Tryz.prog 108 [cu x,.int .i64 n] (.int .i64 0):=by
 refine Pure.of_c2 follows Hy (ba rfl) ?_;simp only [Gn,aK]
 repeat' (first|refine zW ?_|apply a_n|refine zO ?_|refine vZ ?_|fail)
 refine pD (X:=Nat) (fun k=>[(0,cu x),(1,.int .i64 n),(7,cu x),(8,.int .i64 x.length),(9,.int .i64 k)]) (fun k=>k ≤ x.length) (fun k=>x.length - k) 0 (cq _) ag0 ?_;intro k hk;by_cases hk2:k < x.length
 rotate_left
 ·repeat' (first|refine zW ?_|apply a_n|apply a_x|refine zO ?_|refine vZ ?_|(refine zGZ ?_ ?_ <;> (intro _hg; try (exfalso; omega)))|refine ak rfl ?_|refine r1Z ?_|fail)
  exact .int _ _
 have h1:=hr _ (aB hk2);have z1:decide (x.getD k default < 0)=false:=bq (by omega);have z2:decide (n ≤ x.getD k default)=false:=bq (by omega);by_cases hk0:0 < k
 rotate_left
 ·have zk:decide (0 < (k:Int))=false:=bq (by omega);have zz:=aI @z1 (aI @z2 @zk); repeat' (first|refine zW ?_|apply a_n|refine zO ?_|refine vZ ?_|refine gTZ ?_|refine gFZ ?_|refine cFZ ?_|(refine zGZ ?_ ?_ <;> (intro _hg; try (exfalso; omega)))|fail)
  exact ⟨k + 1,by omega,by omega,ag0,rfl,rfl⟩
 have zk:decide (0 < (k:Int))=true:=bk (by omega);have h2:=ha (k - 1) (by omega);rw [show k - 1 + 1=k by omega] at h2
 have iy:fg 1 (cu x) (.int .i64 ((k:Int) - 1))=some (.iptr [.int .i64 (x.getD (k - 1) default)] 0):=by
  rw [ln,if_pos ⟨by omega,by omega⟩,show ((k:Int) - 1).toNat=k - 1 by omega]
 have z3:decide (x.getD k default ≤ x.getD (k - 1) default)=false:=bq (by omega);have zz:=aI @z1 (aI @z2 (aI @zk (aI @iy @z3))); repeat' (first|refine zW ?_|apply a_n|refine zO ?_|refine vZ ?_|refine gTZ ?_|refine cFZ ?_|(refine zGZ ?_ ?_ <;> (intro _hg; try (exfalso; omega)))|fail)
 exact ⟨k + 1,by omega,by omega,ag0,rfl,rfl⟩
def xM (c:Int) (R:List (List Int)):Prop:=0 ≤ c∧c ≤ 4096∧R.length ≤ 4096∧∀ r ∈ R,(∀ v ∈ r,0 ≤ v∧v < c)∧r.length ≤ 4096∧∀ i,i + 1 < r.length→r.getD i default < r.getD (i + 1) default
theorem r6 (c:Int) (R:List (List Int)) (h:xM c R):Pure Tryz.prog 88 [.agg [.int .i64 c,co R]] (.int .i64 0):=by
 refine Pure.of_c2 follows HL (ba rfl) ?_;simp only [b88,aK];obtain ⟨h1,h2,h3,h4⟩:=h;have z1:decide (c < 0)=false:=bq (by omega);have z2:decide (4096 < c)=false:=bq (by omega);have z3:decide ((4096:Int) < R.length)=false:=bq (by omega);have zz:=aI @z1 (aI @z2 @z3); repeat' (first|refine zW ?_|apply a_n|refine zO ?_|refine vZ ?_|refine bxZ ?_|refine gTZ ?_|refine cFZ ?_|fail)
 refine pD (X:=Nat) (fun k=>[(1,.ptr 0 2 0),(21,co R),(22,.int .i64 R.length),(23,.int .i64 k)]) (fun k=>k ≤ R.length) (fun k=>R.length - k) 0 (cq _) (by (iterate 4 refine And.intro rfl ?_); trivial) ?_;intro k hk;by_cases hk2:k < R.length
 rotate_left
 ·repeat' (first|refine zW ?_|apply a_n|apply a_x|refine zO ?_|refine vZ ?_|(refine zGZ ?_ ?_ <;> (intro _hg; try (exfalso; omega)))|refine ak rfl ?_|refine r1Z ?_|fail)
  exact .int _ _
 obtain ⟨r1,r2,r3⟩:=h4 _ (aB hk2);have hv:=zC (R.getD k default) c (by omega) r1 r3;have z0:decide ((0:Int) ≠ 0)=false:=rfl;clear zz;have zz:=@z0; repeat' (first|refine zW ?_|apply a_n|refine zO ?_|refine vZ ?_|refine cZ ?_ (hp:=hv) (hs:=by (first | refine af ?_ rfl | apply ag); (repeat' (first | exact ae | apply am | apply ai | exact fS _)); first | done | fail)|refine cFZ ?_|(refine zGZ ?_ ?_ <;> (intro _hg; try (exfalso; omega)))|fail)
 exact ⟨k + 1,by omega,by omega,ag0,rfl,rfl⟩
theorem Dm (c d:Int) (R S:List (List Int)) (hr:xM c R) (hs:xM d S):Pure Tryz.prog 50 [.agg [.int .i64 c,co R],.agg [.int .i64 d,co S]] (.int .i64 0):=by
 refine Pure.of_c2 follows Ic (ba rfl) ?_;simp only [b50,aK];have h1:=r6 c R hr;have h2:=r6 d S hs;have z0:decide ((0:Int) ≠ 0)=false:=rfl;have d1:Dat (.agg [.int .i64 c,co R]):=dD c R;have d2:Dat (.agg [.int .i64 d,co S]):=dD d S;have zz:=@z0; repeat' (first|refine zW ?_|apply a_n|refine zO ?_|refine vZ ?_|refine cZ ?_ (hp:=by first | exact h1 | exact h2)|refine bxZ ?_|refine cFZ ?_|refine ak rfl ?_|refine r1Z ?_|fail)
 exact .int _ _
theorem Hb (a b:List Int) (ha:a.length ≤ 1000000000000) (hb:b.length ≤ 1000000000000):Pure Tryz.prog 90 [cu a,cu b] (cu (g8 a b)):=by
 refine Pure.of_c2 follows Iq (ba rfl) ?_;simp only [b90,aK]
 repeat' (first|refine zW ?_|apply a_n|refine zO ?_|refine vZ ?_|fail)
 refine yD (k1:=.i64) (k2:=.i64) (n:=0) (m:=(a.length:Int) + b.length) rfl ev0 ev0 (Int.le_refl _) (by omega) (by omega) (by omega) ?_;rw [show ((a.length:Int) + b.length).toNat=a.length + b.length by omega];have hz:(be (AV.agg [AV.int .i64 0]) (a.length + b.length)).length=a.length + b.length:=by simp [be,AV.cells]
 generalize hN:a.length + b.length=N at *
 repeat' (first|refine zW ?_|apply a_n|refine zO ?_|refine vZ ?_|fail)
 refine aZ (X:=List Int × List Int × List Int × Nat) (fun x=>[(0,cu x.1),(1,cu x.2.1),(5,.msl 0 N 1 0 x.2.2.2)]) (fun x H nx=>1 ≤ nx∧x.2.2.1.length=x.2.2.2∧x.2.2.2 + x.1.length + x.2.1.length ≤ N∧x.2.2.1 ++ g8 x.1 x.2.1=g8 a b∧∃ C,H 0=some C∧C.length=N∧C.take x.2.2.2=x.2.2.1.map (AV.int .i64)) (fun x=>x.1.length + x.2.1.length) (a,b,[],0) ⟨aO _,rfl,by dsimp only; omega,rfl,_,aj,hz,rfl⟩ (by refine ⟨rfl,rfl,?_,trivial⟩; ((try simp only [dh,ZA,reduceEqDiff,↓reduceIte,reduceAdd,reduceLeDiff]); (try with_reducible rfl)); rfl) ?_;rintro ⟨a',b',D,k⟩ H nx ⟨h1,h2,h3,h4,C,h5,h6,h7⟩;dsimp only at h1 h2 h3 h4 h7 ⊢;have hDl:(D.map (AV.int .i64)).length=k:=by rw [cr]; exact h2
 have hfin:(a'=[] ∨ b'=[])→D ++ (a' ++ b')=g8 a b:=fun h=>by
  rcases h with rfl | rfl
  ·rw [yk] at h4; exact h4
  ·rw [xL] at h4; rw [iJ]; exact h4
 by_cases hne:a'=[] ∨ b'=[]
 ·have h4:=hfin hne;clear hfin
  have y1:decide ((0:Int) < a'.length)=false ∨ decide ((0:Int) < a'.length)=true∧decide ((0:Int) < b'.length)=false:=by
   rcases hne with rfl | rfl
   ·exact .inl rfl
   ·by_cases h:a'=[]
    ·subst h; exact .inl rfl
    ·exact .inr ⟨bk (by have:=pQ.2 h; omega),rfl⟩
  rcases y1 with y1 | ⟨y1,y2⟩
  ·have zz:=@y1; repeat' (first|refine zW ?_|apply a_n|apply a_x|refine zO ?_|refine vY ?_|refine gFY ?_|refine cFY ?_|fail)
   refine og (b:=0) (N:=N) (len:=k) (n:=a'.length) (new:=a'.map (AV.int .i64)) rfl ev0 h5 h6 h7 hDl ev0 lH np (by rw [cr]) (by omega) (by omega) (by omega) fun C2 c1 c2=>?_
   repeat' (first|apply a_n|refine zO ?_|refine vY ?_|fail)
   refine og (b:=0) (N:=N) (len:=k + a'.length) (n:=b'.length) (new:=b'.map (AV.int .i64)) rfl ev0 aj c1 c2 (by rw [dl,hDl,cr]) ev0 lH np (by rw [cr]) (by omega) (by omega) (by omega) fun C3 c3 c4=>?_
   repeat' (first|apply a_n|refine zO ?_|refine vY ?_|refine ak rfl ?_|refine r1Y ?_|fail)
   rw [← h4];exact th aj c3 (by omega) (by simp only [dl]; omega) (by rw [← pR,c4,f9,f9,nq])
  ·have zz:=aI @y1 @y2; repeat' (first|refine zW ?_|apply a_n|apply a_x|refine zO ?_|refine vY ?_|refine gTY ?_|refine cFY ?_|fail)
   refine og (b:=0) (N:=N) (len:=k) (n:=a'.length) (new:=a'.map (AV.int .i64)) rfl ev0 h5 h6 h7 hDl ev0 lH np (by rw [cr]) (by omega) (by omega) (by omega) fun C2 c1 c2=>?_
   repeat' (first|apply a_n|refine zO ?_|refine vY ?_|fail)
   refine og (b:=0) (N:=N) (len:=k + a'.length) (n:=b'.length) (new:=b'.map (AV.int .i64)) rfl ev0 aj c1 c2 (by rw [dl,hDl,cr]) ev0 lH np (by rw [cr]) (by omega) (by omega) (by omega) fun C3 c3 c4=>?_
   repeat' (first|apply a_n|refine zO ?_|refine vY ?_|refine ak rfl ?_|refine r1Y ?_|fail)
   rw [← h4];exact th aj c3 (by omega) (by simp only [dl]; omega) (by rw [← pR,c4,f9,f9,nq])
 have ha0:a' ≠ []:=fun h=>hne (.inl h);have hb0:b' ≠ []:=fun h=>hne (.inr h);clear hfin hne;obtain ⟨x,a2,rfl⟩:=List.exists_cons_of_ne_nil ha0;obtain ⟨y,b2,rfl⟩:=List.exists_cons_of_ne_nil hb0;rw [yu] at h4;have la:(x :: a2).length=a2.length + 1:=rfl;have lb:(y :: b2).length=b2.length + 1:=rfl;have i1:=Ea (x:=x) (l:=a2);have i2:=Ea (x:=y) (l:=b2);have s1:=yH (x:=x) (l:=a2);have s2:=yH (x:=y) (l:=b2);generalize hA:x :: a2=A at *;generalize hB:y :: b2=B at *;have y1:decide ((0:Int) < A.length)=true:=bk (by omega);have y2:decide ((0:Int) < B.length)=true:=bk (by omega);by_cases g1:x < y
 ·rw [if_pos g1] at h4;have z1:decide (x < y)=true:=bk g1;have zz:=aI @i1 (aI @i2 (aI @y1 (aI @y2 @z1))); repeat' (first|refine zW ?_|apply a_n|refine zO ?_|refine vY ?_|refine blY ?_|refine gTY ?_|refine cTY ?_|fail)
  refine og (b:=0) (N:=N) (len:=k) (n:=1) (new:=[.int .i64 x]) rfl ev0 (by rw [ah (by omega)]; exact h5) h6 h7 hDl ev0 fl rfl rfl (by omega) (by omega) (by omega) fun C2 c1 c2=>?_;clear zz;have zz:=@s1; repeat' (first|apply a_n|refine zO ?_|refine vY ?_|fail)
  exact ⟨(a2,B,D ++ [x],k + 1),by dsimp only; omega,⟨by omega,by simp [h2],by dsimp only; omega,by simpa using h4,C2,aj,c1,by rw [c2,f9]; rfl⟩,ag0⟩
 rw [if_neg g1] at h4;have z1:decide (x < y)=false:=bq g1;by_cases g2:y < x
 ·rw [if_pos g2] at h4;have z2:decide (y < x)=true:=bk g2;have zz:=aI @i1 (aI @i2 (aI @y1 (aI @y2 (aI @z1 @z2)))); repeat' (first|refine zW ?_|apply a_n|refine zO ?_|refine vY ?_|refine blY ?_|refine gTY ?_|refine cTY ?_|refine cFY ?_|fail)
  refine og (b:=0) (N:=N) (len:=k) (n:=1) (new:=[.int .i64 y]) rfl ev0 (by rw [ah (by omega)]; exact h5) h6 h7 hDl ev0 fl rfl rfl (by omega) (by omega) (by omega) fun C2 c1 c2=>?_;clear zz;have zz:=@s2; repeat' (first|apply a_n|refine zO ?_|refine vY ?_|fail)
  exact ⟨(A,b2,D ++ [y],k + 1),by dsimp only; omega,⟨by omega,by simp [h2],by dsimp only; omega,by simpa using h4,C2,aj,c1,by rw [c2,f9]; rfl⟩,ag0⟩
 rw [if_neg g2] at h4;have z2:decide (y < x)=false:=bq g2;have zz:=aI @i1 (aI @i2 (aI @s1 (aI @s2 (aI @y1 (aI @y2 (aI @z1 @z2)))))); repeat' (first|refine zW ?_|apply a_n|refine zO ?_|refine vY ?_|refine gTY ?_|refine cTY ?_|refine cFY ?_|fail)
 exact ⟨(a2,b2,D,k),by dsimp only; omega,⟨by omega,h2,by dsimp only; omega,h4,C,h5,h6,h7⟩,ag0⟩
end Go.Proofs.YtpfkjcjgdilkkaaGreat
namespace Go.Proofs.YtpfkjcjgdilkkaaGreat
open Go Go.Abs
def cJ (S:List (List Int)) (r:List Int):List Int:=r.foldl (fun x j=>g8 x (S.getD j.toNat default)) []
theorem ms {S:List (List Int)} {l:List Int} {j:Int}:cJ S (l ++ [j])=g8 (cJ S l) (S.getD j.toNat default):=by
 unfold cJ; rw [List.foldl_append]; rfl
theorem wL {S:List (List Int)} (hS:∀ s ∈ S,s.length ≤ 4096):∀ (l:List Int) (x:List Int),(l.foldl (fun x j=>g8 x (S.getD j.toNat default)) x).length ≤ x.length + l.length * 4096
 | [],x=>by simp
 | j :: l,x=>by
  have h1:=wL hS l (g8 x (S.getD j.toNat default));have h2:=mU _ x (S.getD j.toNat default) (aO _)
  have h3:(S.getD j.toNat default).length ≤ 4096:=by
   by_cases h:j.toNat < S.length
   ·exact hS _ (aB h)
   ·unfold List.getD; rw [List.getElem?_eq_none (by omega)]; exact cq _
  rw [List.foldl_cons,cS];omega
theorem AD {S:List (List Int)} (hS:∀ s ∈ S,s.length ≤ 4096) {l:List Int}:(cJ S l).length ≤ l.length * 4096:=by
 have:=wL hS l [];unfold cJ;simpa using this
attribute [local irreducible] aW av bQ bO bl bB aU bx bT cK Go.Abs.Fn bL Go.Abs.Pure aS bg Yl
theorem wh {y ab bb:Nat} {c d:Int} {R S:List (List Int)} {H:Hp} {nx:Nat} (hRl:R.length ≤ 4096) (hSl:S.length ≤ 4096) (hR:∀ r ∈ R,(∀ v ∈ r,0 ≤ v∧v < (S.length:Int))∧r.length ≤ 4096) (hS:∀ s ∈ S,s.length ≤ 4096) (I:List (List Int)→Hp→Nat→Prop)
    (hp:∀ D H nx,I D H nx→H ab=some [.int .i64 c,co R]∧H bb=some [.int .i64 d,co S])
    (rnd:∀ D f H nx1,I D H nx1→D.length < R.length→Yl Tryz.prog y [cu f] H nx1 fun r H' nx'=>r=.bool true∧I (D ++ [f]) H' nx')
    (h0:I [] H nx) :
    Abs.Fn Tryz.prog 89 [.yld y,.ptr ab 2 0,.ptr bb 2 0] H nx fun _ H' nx'=>I (R.map (cJ S)) H' nx':=by
 refine Abs.Fn.of_c2 follows Ig (ba rfl) ?_;simp only [b89,aK];obtain ⟨g1,g2⟩:=hp _ _ _ h0;have zz:=aI @g1 @g2; repeat' (first|refine zW ?_|apply a_n|refine zO ?_|refine vY ?_|fail)
 refine aZ (X:=Nat) (fun k=>[(0,.yld y),(1,.ptr ab 2 0),(2,.ptr bb 2 0),(10,co R),(11,.int .i64 R.length),(12,.int .i64 k)]) (fun k H' nx'=>k ≤ R.length∧I ((R.take k).map (cJ S)) H' nx') (fun k=>R.length - k) 0 ⟨cq _,h0⟩ ag0 ?_;rintro k H1 nx1 ⟨h1,hI⟩;obtain ⟨q1,q2⟩:=hp _ _ _ hI;by_cases hk:k < R.length
 rotate_left
 ·rw [fq (by omega)] at hI
  repeat' (first|refine zW ?_|apply a_n|apply a_x|refine zO ?_|refine vY ?_|(refine zGY ?_ ?_ <;> (intro _hg; try (exfalso; omega)))|refine ak rfl ?_|fail)
  exact hI
 obtain ⟨r1,r2⟩:=hR _ (aB hk)
 have ix:fg 1 (co R) (.int .i64 (k:Int))=some (.iptr [cu (R.getD k default)] 0):=by
  rw [jR,if_pos ⟨by omega,by omega⟩,bz]
 have hft:(R.take (k + 1)).map (cJ S)=(R.take k).map (cJ S) ++ [cJ S (R.getD k default)]:=by rw [bW hk,f9]; rfl
 generalize R.getD k default=r at *;clear zz;have zz:=@ix; repeat' (first|refine zW ?_|apply a_n|refine zO ?_|refine vY ?_|(refine zGY ?_ ?_ <;> (intro _hg; try (exfalso; omega)))|fail)
 refine G2 (X:=Nat) (fun j=>[(0,.yld y),(1,.ptr ab 2 0),(2,.ptr bb 2 0),(10,co R),(11,.int .i64 R.length),(12,.int .i64 k),(16,cu r),(17,.int .i64 r.length),(18,.int .i64 j),(6,cu (cJ S (r.take j)))]) (fun j H' nx'=>j ≤ r.length∧H'=H1∧nx'=nx1) (fun j=>r.length - j) 0 ⟨_,_,Fz.none,⟨cq _,rfl,rfl⟩,⟨.inl rfl,.inl rfl,.inl rfl,.inl rfl,.inl rfl,.inl rfl,.inl rfl,.inl rfl,.inl rfl,.inr (.eslsl 1),trivial⟩⟩ ?_;rintro j _ _ ⟨j1,rfl,rfl⟩;by_cases hj:j < r.length
 rotate_left
 ·rw [fq (by omega)]
  repeat' (first|refine zW ?_|apply a_n|apply a_x|refine zO ?_|refine vY ?_|(refine zGY ?_ ?_ <;> (intro _hg; try (exfalso; omega)))|fail)
  refine uM ev0 ev0 (Yl.mono (rnd _ _ _ _ hI (by rw [cr,go]; omega)) ?_);rintro v H3 nx3 ⟨rfl,e1⟩
  repeat' (first|apply a_n|refine zO ?_|refine vY ?_|refine cFY ?_|fail)
  exact ⟨k + 1,by omega,⟨by omega,by rw [hft]; exact e1⟩,ag0⟩
 have hjr:=r1 _ (aB hj);have hsn:cJ S (r.take (j + 1))=g8 (cJ S (r.take j)) (S.getD (r.getD j default).toNat default):=by rw [bW hj,ms]
 have ix2:fg 1 (cu r) (.int .i64 (j:Int))=some (.iptr [.int .i64 (r.getD j default)] 0):=by
  rw [ln,if_pos ⟨by omega,by omega⟩,bz]
 generalize r.getD j default=v at *
 have ix3:fg 1 (co S) (.int .i64 v)=some (.iptr [cu (S.getD v.toNat default)] 0):=by
  rw [jR,if_pos hjr]
 have hl1:=AD hS (l:=r.take j);rw [go] at hl1;have hs:=Hb (cJ S (r.take j)) (S.getD v.toNat default) (by omega) (by have:=hS _ (aB (k:=v.toNat) (by omega)); omega);rw [← hsn] at hs;clear zz;have zz:=aI @ix2 (aI @ix3 (aI @q1 @q2)); repeat' (first|refine zW ?_|apply a_n|refine zO ?_|refine vY ?_|refine cY ?_ (hp:=hs) (hs:=by (first | refine af ?_ rfl | apply ag); (repeat' (first | exact ae | apply am | apply ai | exact fS _)); first | done | fail)|(refine zGY ?_ ?_ <;> (intro _hg; try (exfalso; omega)))|fail)
 exact ⟨j + 1,by omega,_,_,Fz.none,⟨by omega,rfl,rfl⟩,yC ag0⟩
theorem vu (c d:Int) (R S:List (List Int)) (H:Hp) (nx:Nat):Abs.Fn Tryz.prog 51 [.agg [.int .i64 c,co R],.agg [.int .i64 d,co S]] H nx fun r H' nx'=>r=.func 89 [.ptr nx 2 0,.ptr (nx + 1) 2 0]∧H'=ao (ao H nx [.int .i64 c,co R]) (nx + 1) [.int .i64 d,co S]∧nx'=nx + 2:=by
 refine Abs.Fn.of_c2 follows HD (ba rfl) ?_;simp only [b51,aK]
 repeat' (first|refine zW ?_|apply a_n|refine zO ?_|refine vY ?_|refine bxY ?_|refine ak rfl ?_|refine r1Y ?_|fail)
 exact ⟨rfl,rfl,rfl⟩
theorem mw (c d:Int) (R S:List (List Int)) (hr:xM c R) (hs:xM d S) (hcs:c=S.length):Pure Tryz.prog 16 [.agg [.int .i64 c,co R],.agg [.int .i64 d,co S]] (.tup [i8 d (R.map (cJ S)),.int .i64 0]):=by
 refine Pure.of_c2 follows HX (ba rfl) ?_;simp only [b16,aK];have hb:=Dm c d R S hr hs;have d1:Dat (.agg [.int .i64 c,co R]):=dD c R;have d2:Dat (.agg [.int .i64 d,co S]):=dD d S;have z0:decide ((0:Int) ≠ 0)=false:=rfl;have z1:decide (c ≠ (S.length:Int))=false:=by rw [hcs]; simp
 obtain ⟨m1,m2,m3,m4⟩:=hr;obtain ⟨n1,n2,n3,n4⟩:=hs;have zz:=aI @z0 @z1; repeat' (first|refine zW ?_|apply a_n|refine zO ?_|refine vY ?_|refine cY ?_ (hp:=hb)|refine alY ?_|refine bxY ?_|refine stY ?_|refine cFY ?_|fail)
 refine aF ev0 ev0 (vu c d R S _ _) ?_;rintro _ H1 nx1 ⟨rfl,rfl,rfl⟩
 repeat' (first|refine zW ?_|apply a_n|refine zO ?_|fail)
 refine oG 6 7 rfl rfl ev0 (fun c0 cj hy=>?_);refine Abs.Fn.mono (wh (nx:=7) (ab:=4) (bb:=5) (c:=c) (d:=d) (R:=R) (S:=S) m3 n3 (fun r h=>⟨hcs ▸ (m4 r h).1,(m4 r h).2.1⟩) (fun r h=>(n4 r h).2.1) (fun D H' nx'=>7 ≤ nx'∧H' 4=some [.int .i64 c,co R]∧H' 5=some [.int .i64 d,co S]∧H' 6=some [c0]∧H' 2=some [.int .i64 0,.esl]∧∃ sv,H' 3=some [.int .i64 d,sv]∧Row H' 1 sv (D.map cu)∧∀ b',dB sv=some b'→7 ≤ b'∧b' < nx') ?_ ?_ ?_) ?_
 ·rintro D H' nx' ⟨h1,h2,h3,h4,h5⟩;exact ⟨h2,h3⟩
 ·rintro D f H' nx' ⟨h1,h2,h3,h4,h5,sv,h6,h7,h8⟩ hlt;refine hy _ _ _ _ h4 rfl ?_;clear zz;clear hy
  repeat' (first|apply a_n|refine zO ?_|refine vZ ?_|fail)
  refine ⟨h4,?_⟩;have hdo:∀ x,x ≠ 6→cw H' 6 x=H' x:=fun x b=>dX b;generalize cw H' 6=H1 at *;have g3:H1 3=some [.int .i64 d,sv]:=(hdo 3 (by omega)).trans h6;have zz:=@g3; repeat' (first|refine zW ?_|apply a_n|refine zO ?_|refine vY ?_|refine blY ?_|fail)
  refine jb rfl ev0 (h7.same fun b' hb'=>?_) ev0 fl rfl rfl mi (by rw [cr]; omega) (by rw [cr]; omega) ?_
  ·have:=h8 b' hb';rw [ah (by omega)]; exact hdo _ (by omega)
  rintro sv' H3 nx3 r1 r2 r3 r4 r5;have zs:∀ x,x < 7→dB sv ≠ some x:=fun x hx e=>by have:=h8 x e; omega
  have z:∀ x,x < nx'→x ≠ 6→dB sv ≠ some x→H3 x=H' x:=fun x a1 a2 a3=>(r4 x (by omega) a3).trans (by rw [ah (by omega)]; exact hdo x a2);have g4:H3 3=some [.int .i64 d,sv]:=(z 3 (by omega) (by omega) (zs _ (by omega))).trans h6;obtain ⟨q1,q2⟩:=r1.one;clear zz;have zz:=aI @g4 (aI @q1 @q2); repeat' (first|apply a_n|refine zO ?_|refine vY ?_|refine stY ?_|fail)
  have w:∀ x,x ≠ 3→x ≠ 6→ao (ao H3 3 [.int .i64 d,sv']) 6 [c0] x=H3 x:=fun x a1 a2=>by rw [ah a2,ah a1]
  have u8:∀ b',dB sv'=some b'→7 ≤ b'∧b' < nx3:=fun b' hb'=>by
   rcases r5 b' hb' with e | ⟨e1,e2⟩
   ·have:=h8 b' e; omega
   ·omega
  refine ⟨rfl,by omega,(w 4 (by omega) (by omega)).trans ((z 4 (by omega) (by omega) (zs _ (by omega))).trans h2),(w 5 (by omega) (by omega)).trans ((z 5 (by omega) (by omega) (zs _ (by omega))).trans h3),aj,(w 2 (by omega) (by omega)).trans ((z 2 (by omega) (by omega) (zs _ (by omega))).trans h5),sv',?_,?_,u8⟩
  ·exact (ah (by omega)).trans aj
  ·rw [f9];exact r1.same fun b' hb'=>w b' (by have:=u8 b' hb'; omega) (by have:=u8 b' hb'; omega)
 ·refine ⟨aO _,?_,?_,aj,?_,.esl,?_,.nil,fun b' hb'=>(by cases hb')⟩
  ·rfl
  ·rfl
  ·rfl
  ·rfl
 ·rintro r H' nx' ⟨h1,h2,h3,h4,h5,sv,h6,h7,h8⟩;refine .inl ⟨h4,?_⟩;obtain ⟨q1,q2⟩:=h7.one;clear zz;have zz:=aI @h5 (aI @h6 (aI @q1 @q2)); repeat' (first|refine zW ?_|apply a_n|refine zO ?_|refine vY ?_|refine stY ?_|refine ak rfl ?_|refine r2Y ?_|fail)
  refine iU ?_ rfl;have hw:Row (ao (cw H' 6) 2 [.int .i64 d,sv]) 1 sv ((R.map (cJ S)).map cu):=h7.same fun b' hb'=>by have:=h8 b' hb'; rw [ah (by omega),dX (by omega)]
  exact hw.snapV
theorem iq {m:MapV} {c:List Spx} (hm:eb m=0) (hc:aH c=0) (ht:c.all (ci m)=true):eU m c (dE (c.map (bc m)))=(true,0)∧aH (dE (c.map (bc m)))=0:=by
 obtain ⟨p1,p2,p3,p4⟩:=cA hc
 have hI:aH (dE (c.map (bc m)))=0:=uH (by rw [cr]; omega) fun s hs=>by
  obtain ⟨t,t1,rfl⟩:=cL.1 hs;exact sM hm (p2 t t1) (dL.1 ht t t1)
 refine ⟨?_,hI⟩;unfold eU;rw [if_neg (fun h=>h hm),if_neg (fun h=>h hc),if_neg (fun h=>h hI),if_neg (by rw [ht]; decide)];refine Prod.ext (dL.2 fun s hs=>?_) rfl;obtain ⟨t,t1,rfl⟩:=cL.1 hs;exact oA hc t1 (fun v hv=>hv)
def mj (l:List Int):Prop:=l.Pairwise (· < ·)
theorem kX:∀ (n:Nat) (a b:List Int),a.length + b.length ≤ n→mj a→mj b→mj (g8 a b)∧∀ z,z ∈ g8 a b ↔ (z ∈ a∧z ∉ b) ∨ (z ∈ b∧z ∉ a)
 | _,[],b,_,_,hb=>by rw [yk]; exact ⟨hb,fun z=>by simp⟩
 | _,x :: a,[],_,ha,_=>by rw [xL]; exact ⟨ha,fun z=>by simp⟩
 | 0,x :: a,y :: b,h,_,_=>by simp only [cS] at h; omega
 | n + 1,x :: a,y :: b,h,ha,hb=>by
  simp only [cS] at h;obtain ⟨a1,a2⟩:=ml.1 ha;obtain ⟨b1,b2⟩:=ml.1 hb;rw [yu];by_cases g1:x < y
  ·rw [if_pos g1];obtain ⟨h1,h2⟩:=kX n a (y :: b) (by simp only [cS]; omega) a2 hb
   have hxb:∀ z ∈ y :: b,x < z:=fun z hz=>by
    rcases e9.1 hz with rfl | hz
    ·exact g1
    ·have:=b1 z hz; omega
   refine ⟨ml.2 ⟨fun z hz=>?_,h1⟩,fun z=>?_⟩
   ·rcases (h2 z).1 hz with ⟨q,_⟩ | ⟨q,_⟩
    ·exact a1 z q
    ·exact hxb z q
   ·rw [e9,h2,e9 (a:=z) (b:=x)];by_cases hz:z=x
    ·subst hz;have:z ∉ y :: b:=fun q=>by have:=hxb z q; omega
     simp [this]
    ·simp [hz]
  rw [if_neg g1];by_cases g2:y < x
  ·rw [if_pos g2];obtain ⟨h1,h2⟩:=kX n (x :: a) b (by simp only [cS]; omega) ha b2
   have hya:∀ z ∈ x :: a,y < z:=fun z hz=>by
    rcases e9.1 hz with rfl | hz
    ·exact g2
    ·have:=a1 z hz; omega
   refine ⟨ml.2 ⟨fun z hz=>?_,h1⟩,fun z=>?_⟩
   ·rcases (h2 z).1 hz with ⟨q,_⟩ | ⟨q,_⟩
    ·exact hya z q
    ·exact b1 z q
   ·rw [e9,h2,e9 (a:=z) (b:=y)];by_cases hz:z=y
    ·subst hz;have:z ∉ x :: a:=fun q=>by have:=hya z q; omega
     simp [this]
    ·simp [hz]
  rw [if_neg g2];obtain rfl:x=y:=by omega
  obtain ⟨h1,h2⟩:=kX n a b (by omega) a2 b2;refine ⟨h1,fun z=>?_⟩;rw [h2];by_cases hz:z=x
  ·subst hz;have q1:z ∉ a:=fun q=>by have:=a1 z q; omega
   have q2:z ∉ b:=fun q=>by have:=b1 z q; omega
   simp [q1,q2]
  ·simp [hz]
theorem sQ {a b:List Int} (ha:mj a) (hb:mj b) (h:∀ x,x ∈ a ↔ x ∈ b):a=b:=by
 have na:a.Nodup:=wK (fun {x y} (h:x < y) e=>by omega) ha;have nb:b.Nodup:=wK (fun {x y} (h:x < y) e=>by omega) hb;exact List.Perm.eq_of_pairwise (fun x y _ _ h1 h2=>by omega) ha hb ((List.perm_ext_iff_of_nodup na nb).2 h)
theorem rR {m:MapV} {X Y:List Spx} {n i:Nat} {x:Int}:x ∈ cp (eJ m X Y n i) ↔ ∃ s:Nat,x=s∧s < n∧bc m (X.getD s default)=Y.getD i default:=by
 unfold cp eJ;simp only [cL,fZ,ju,fN];exact ⟨fun ⟨s,h1,h2⟩=>⟨s,h2.symm,h1⟩,fun ⟨s,h1,h2⟩=>⟨s,h2,h1.symm⟩⟩
theorem qH {m:MapV} {X Y:List Spx} {n i:Nat}:mj (cp (eJ m X Y n i)):=by
 unfold cp eJ mj;rw [List.pairwise_map];exact (wK (fun {a b} (h:a < b)=>by omega) List.pairwise_lt_range).sublist p9
theorem wX {m:MapV} {X Y:List Spx} {i:Nat} (h:i < Y.length):(cV m X Y).getD i default=cp (eJ m X Y X.length i):=by
 unfold cV;simp [List.getD,h]
theorem iC {m:MapV} {X Y:List Spx}:(cV m X Y).length=Y.length:=by unfold cV; simp
theorem xj {l:List Int} (h:mj l) (i:Nat) (hi:i + 1 < l.length):l.getD i default < l.getD (i + 1) default:=by
 have:=(uR.1 h) i (i + 1) (by omega) hi (by omega);simpa [List.getD,hi,show i < l.length by omega] using this
theorem pW {m:MapV} {X Y:List Spx} (hX:X.length ≤ 4096) (hY:Y.length ≤ 4096):xM X.length (cV m X Y):=by
 refine ⟨by omega,by omega,by rw [iC]; exact hY,fun r hr=>?_⟩;unfold cV at hr;obtain ⟨i,hi,rfl⟩:=cL.1 hr;refine ⟨fun v hv=>?_,?_,xj qH⟩
 ·obtain ⟨s,rfl,h1,_⟩:=rR.1 hv;omega
 ·unfold cp;rw [cr];exact eX wa hX
theorem tB {m:MapV} {X0 X1:List Spx} (hX1:X1.Nodup) {l:List Nat} (hl:l.Nodup) (hb:∀ j ∈ l,j < X1.length):∀ k,k ≤ l.length→mj (cJ (cV m X0 X1) (cp (l.take k)))∧∀ x:Int,x ∈ cJ (cV m X0 X1) (cp (l.take k)) ↔ ∃ s:Nat,x=s∧s < X0.length∧∃ j ∈ l.take k,bc m (X0.getD s default)=X1.getD j default
 | 0,_=>by
  refine ⟨sH,fun x=>⟨fun h=>(by cases h),?_⟩⟩;rintro ⟨s,_,_,j,hj,_⟩;simp at hj
 | k + 1,hk=>by
  obtain ⟨h1,h2⟩:=tB hX1 hl hb k (by omega);have hj:=hb _ (aB (l:=l) (k:=k) (by omega))
  have hnt:l.getD k default ∉ l.take k:=fun h=>by
   have:=(yo.1 (by rw [← bW (show k < l.length by omega)]; exact hl.sublist (List.take_sublist _ _):(l.take k ++ [l.getD k default]).Nodup)).2.2 _ h _ (fV.2 rfl);exact this rfl
  rw [bW (by omega)];generalize l.getD k default=j at *;rw [show cp (l.take k ++ [j])=cp (l.take k) ++ [(j:Int)] by unfold cp; simp,ms,bz,wX hj];obtain ⟨h3,h4⟩:=kX _ _ _ (aO _) h1 (qH (m:=m) (X:=X0) (Y:=X1) (n:=X0.length) (i:=j));refine ⟨h3,fun x=>?_⟩;rw [h4,h2,rR];constructor
  ·rintro (⟨⟨s,rfl,q1,i,q2,q3⟩,_⟩ | ⟨⟨s,rfl,q1,q2⟩,_⟩)
   ·exact ⟨s,rfl,q1,i,sC _ q2,q3⟩
   ·exact ⟨s,rfl,q1,j,so _ (fV.2 rfl),q2⟩
  ·rintro ⟨s,rfl,q1,i,q2,q3⟩
   have key:∀ i',i' ∈ l.take k→bc m (X0.getD s default)=X1.getD i' default→bc m (X0.getD s default)=X1.getD j default→False:=fun i' r1 r2 r3=>by
    have hi':=hb i' (sB r1);rw [r2] at r3
    have:i'=j:=by
     have r4:X1[i']=X1[j]:=by simpa [List.getD,hi',hj] using r3
     exact (List.getElem_inj hX1).1 r4
    subst this;exact hnt r1
   rcases iH.1 q2 with q2 | q2
   ·exact .inl ⟨⟨s,rfl,q1,i,q2,q3⟩,fun ⟨s',e,_,q5⟩=>by
      obtain rfl:s=s':=by omega
      exact key i q2 q3 q5⟩
   ·obtain rfl:=fV.1 q2
    exact .inr ⟨⟨s,rfl,q1,q3⟩,fun ⟨s',e,_,i',q5,q6⟩=>by
     obtain rfl:s=s':=by omega
     exact key i' q5 q6 q3⟩
theorem mj.nodup {l:List Int} (h:mj l):l.Nodup:=wK (fun {x y} (h:x < y) e=>by omega) h
theorem sZ {l:List Nat} {n:Nat}:(n:Int) ∈ cp l ↔ n ∈ l:=by
 unfold cp;rw [cL];exact ⟨fun ⟨m,h1,h2⟩=>by rwa [← (by omega:m=n)],fun h=>⟨n,h,rfl⟩⟩
theorem CB {l:List Nat} {x:Int}:x ∈ cp l ↔ ∃ i:Nat,i ∈ l∧(i:Int)=x:=by unfold cp; exact cL
theorem tJ {l:List Nat} (h:l.Pairwise (· < ·)):mj (cp l):=by
 unfold cp mj;rw [List.pairwise_map];exact wK (fun {a b} (h:a < b)=>by omega) h
theorem mP {X Y:List Spx} {n i:Nat}:(fo X Y n i).Pairwise (· < ·):=List.pairwise_lt_range.sublist p9
theorem gw {X Y:List Spx} {n i j:Nat}:j ∈ fo X Y n i ↔ j < n∧Y.getD i default ∈ dj (X.getD j default):=by
 unfold fo;simp only [fZ,ju,fN]
theorem je {X Y:List Spx}:(gf X Y).length=Y.length:=by unfold gf; simp
theorem wS {X Y:List Spx} {i:Nat} (h:i < Y.length):(gf X Y).getD i default=cp (fo X Y X.length i):=by
 unfold gf;simp [List.getD,h]
theorem y3 {X Y:List Spx} (hX:X.length ≤ 4096) (hY:Y.length ≤ 4096):xM X.length (gf X Y):=by
 refine ⟨by omega,by omega,by rw [je]; exact hY,fun r hr=>?_⟩;unfold gf at hr;obtain ⟨i,hi,rfl⟩:=cL.1 hr;refine ⟨fun v hv=>?_,?_,xj (tJ mP)⟩
 ·unfold cp at hv;obtain ⟨j,hj,rfl⟩:=cL.1 hv;have:=(gw.1 hj).1;omega
 ·unfold cp;rw [cr];exact eX vn hX
theorem pb {Y:List Spx} {f:Spx} (h:f ∈ Y):Y.idxOf f < Y.length∧Y.getD (Y.idxOf f) default=f:=by
 have hl:=BE.2 h;exact ⟨hl,by simp [List.getD,hl]⟩
theorem AW {Y:List Spx} (hY:Y.Nodup) {i:Nat} (h:i < Y.length):Y.idxOf (Y.getD i default)=i:=by
 have h1:=pb (aB h);have e1:Y[Y.idxOf (Y.getD i default)]'h1.1=Y[i]:=(List.getElem_idxOf h1.1).trans (by simp [List.getD,h]);exact (List.getElem_inj hY).1 e1
def zo (l:List (List Spx)):AV:=g9 1 aE l
theorem vA (l:List (List Spx)):Dat (zo l):=tH (fun _=>rfl) bi
instance datI_encXsss {l:List (List Spx)}:DatI (zo l):=⟨vA l⟩
theorem Bt {a:List Spx} (h:∀ s ∈ a,cm s=0):∀ s ∈ a,Shn s:=fun s hs=>by have:=(cg (h s hs)).2.1; show _ ≤ _; omega
end Go.Proofs.YtpfkjcjgdilkkaaGreat
namespace Go.Proofs.YtpfkjcjgdilkkaaGreat
open Go Go.Abs
open Nat (reduceEqDiff reduceAdd reduceLeDiff)
section
variable {P:Program} {T:Tm} {H:Hp} {nx:Nat}
theorem FZ {dm:DM} {K:SP} {l:List Op2} {d:Option Nat} {sz bytes:Nat} {z:List AV} {s x:Opd} {k:IntKind} {n:Int} (hd:dm2 dm T (.apz sz bytes z s x)=true) (hs:ov T s=.esl) (hx:ov T x=.int k n) (h0:0 < n) (h1:n ≤ 9223372036854775807) (h2:n.toNat * bytes ≤ 140737488355328)
    (kk:av P dm l (aP T d (.msl nx (n.toNat * sz) sz 0 n.toNat)) (ao H nx (be (.agg z) n.toNat)) (nx + 1) K):av P dm (⟨d,none,.apz sz bytes z s x⟩ :: l) T H nx K:=by
 refine l9 rfl hd ?_ kk;simp only [gd,hs,hx];rw [if_pos ⟨h0,h1,h2⟩]
end
theorem y6 (T:Tm) (H:Hp) (x:Opd):br T H (.capE x)=match ov T x with | .esl=>some (.int .i64 0) | _=>none:=rfl
theorem yR (n:Nat):(be (.agg [.int .i64 0,.int .i64 0]) n).length=n * 2:=by simp [be,AV.cells]
attribute [local irreducible] aW av bQ bO bl bB aU bx bT cK Go.Abs.Fn bL Go.Abs.Pure aS bg Yl
theorem yB (n:Nat) (h0:0 < n) (h1:n ≤ 1000000) (H:Hp) (nx:Nat):Abs.Fn Tryz.prog 109 [.esl,.int .i64 n] H nx fun r H' nx'=>r=.msl nx (n * 2) 2 0 0∧H'=ao H nx (be (.agg [.int .i64 0,.int .i64 0]) n)∧nx'=nx + 1:=by
 refine Abs.Fn.of_c2 follows D0 (ba rfl) ?_;simp only [FG,aK];have z1:decide ((n:Int) < 0)=false:=bq (by omega);have z2:decide ((0:Int) < n)=true:=bk (by omega);have s2:iW 2 .esl none (some (.int .i64 0)) none=some .esl:=rfl;have s3:=qO (B:=nx) (n:=n * 2) (len:=n) (k:=0) (by omega) (by omega);rw [show ((0:Nat):Int)=0 from rfl] at s3;have zz:=aI @z1 (aI @z2 (aI @s2 (aI @Int.sub_zero (aI @Int.sub_self @y6)))); repeat' (first|refine zW ?_|apply a_n|refine zO ?_|refine vY ?_|refine cTY ?_|refine cFY ?_|fail)
 refine FZ rfl (have zz:=@s2; evY) ev0 (by omega) (by omega) (by omega) ?_;clear zz;have zz:=@s3; repeat' (first|refine zW ?_|apply a_n|refine zO ?_|refine vY ?_|refine ak rfl ?_|refine r1Y ?_|fail)
 exact ⟨rfl,rfl,rfl⟩
theorem Dy (H:Hp) (nx:Nat):Abs.Fn Tryz.prog 109 [.esl,.int .i64 0] H nx fun r H' nx'=>r=.esl∧H'=H∧nx'=nx:=by
 refine Abs.Fn.of_c2 follows D0 (ba rfl) ?_;simp only [FG,aK];have zz:=aI @Int.sub_zero (aI @Int.sub_self @y6); repeat' (first|refine zW ?_|apply a_n|refine zO ?_|refine vY ?_|(refine zGY ?_ ?_ <;> (intro _hg; try (exfalso; omega)))|refine ak rfl ?_|refine r1Y ?_|fail)
 exact ⟨rfl,rfl,rfl⟩
theorem lA {c:List Spx} {k:Nat} (hk:k < c.length):(c.take (k + 1)).flatten=(c.take k).flatten ++ c.getD k default:=by
 rw [bW hk,List.flatten_append]; simp
theorem zT (c:List Spx) (h0:c ≠ []) (hs:∀ s ∈ c,s ≠ []) (hl:c.flatten.length ≤ 1000000) (hc:c.length ≤ 1000000) (H:Hp) (nx:Nat) :
    Abs.Fn Tryz.prog 92 [aE c] H nx fun r H' nx'=>r=.msl nx (c.flatten.length * 2) 2 0 c.flatten.length∧H'=ao H nx (cX c.flatten)∧nx'=nx + 1:=by
 refine Abs.Fn.of_c2 follows FO (ba rfl) ?_;simp only [b92,aK]
 have hpos:0 < c.flatten.length:=by
  rw [pQ];intro e;obtain ⟨s,hm⟩:=List.exists_mem_of_ne_nil c h0;exact hs s hm (List.flatten_eq_nil_iff.1 e s hm)
 have hle:∀ k,(c.take k).flatten.length ≤ c.flatten.length:=fun k=>by
  have:c.flatten=(c.take k).flatten ++ (c.drop k).flatten:=by rw [← List.flatten_append,Aw]
  rw [this,dl]; omega
 refine ef ?_
 repeat' (first|apply a_n|refine zO ?_|refine vY ?_|fail)
 refine ef ?_
 repeat' (first|apply a_n|refine zO ?_|refine vY ?_|fail)
 refine bh (fun T H' nx'=>T 0=aE c∧T 3=.int .i64 (c.flatten.length:Nat)∧H=H'∧nx=nx') ?_ ?_
 ·have zz:=@an; repeat' (first|refine zW ?_|apply a_n|refine zO ?_|refine vY ?_|fail)
  refine pD (X:=Nat) (fun k=>[(0,aE c),(3,.int .i64 ((c.take k).flatten.length:Nat)),(9,aE c),(10,.int .i64 c.length),(11,.int .i64 (k:Nat))]) (fun k=>k ≤ c.length) (fun k=>c.length - k) 0 (by omega) (by simp (disch:=omega) only [agr,ZG,reduceEqDiff,↓reduceIte,List.take_zero,List.flatten_nil,ew] <;> simp) ?_;intro k hk;by_cases hk2:k < c.length
  rotate_left
  ·rw [fq (by omega)]
   repeat' (first|refine zW ?_|apply a_n|apply a_x|refine zO ?_|refine vY ?_|(refine zGY ?_ ?_ <;> (intro _hg; try (exfalso; omega)))|fail)
   exact ⟨rfl,rfl,rfl,rfl⟩
  have ix:=fC hk2;have hle2:=hle (k + 1);have e:(((c.take (k + 1)).flatten.length:Nat):Int)=((c.take k).flatten.length:Nat) + ((c.getD k default).length:Nat):=by rw [lA hk2,dl]; omega
  rw [lA hk2,dl] at hle2;have z:decide ((((c.take k).flatten.length:Nat):Int) + ((c.getD k default).length:Nat) < 0)=false:=bq (by omega);generalize c.getD k default=s at *;clear zz;have zz:=aI @ix (aI @ap @z); repeat' (first|refine zW ?_|apply a_n|refine zO ?_|refine vY ?_|refine cFY ?_|(refine zGY ?_ ?_ <;> (intro _hg; try (exfalso; omega)))|fail)
  exact ⟨k + 1,by omega,by omega,(have zz:=@e; agZ),rfl,rfl⟩
 rintro T _ _ ⟨t0,t3,rfl,rfl⟩;have zz:=@t3; repeat' (first|refine zW ?_|apply a_n|refine zO ?_|refine vY ?_|fail)
 refine aF ev0 (have zz:=@t3; evY) (yB c.flatten.length (by omega) (by omega) H nx) ?_;rintro _ _ _ ⟨rfl,rfl,rfl⟩;clear zz;have zz:=aI @t0 @an; repeat' (first|refine zW ?_|apply a_n|refine zO ?_|refine vY ?_|fail)
 refine aZ (X:=Nat) (fun k=>[(6,.msl nx (c.flatten.length * 2) 2 0 (c.take k).flatten.length),(25,aE c),(26,.int .i64 c.length),(27,.int .i64 (k:Nat))]) (fun k H' nx'=>k ≤ c.length∧(∃ C,H'=ao H nx C∧C.length=c.flatten.length * 2∧C.take ((c.take k).flatten.length * 2)=cX (c.take k).flatten)∧nx'=nx + 1) (fun k=>c.length - k) 0 ⟨by omega,⟨_,rfl,yR _,rfl⟩,rfl⟩ (by simp (disch:=omega) only [agr,ZG,reduceEqDiff,↓reduceIte,List.take_zero,List.flatten_nil,ew]) ?_;rintro k _ _ ⟨hk,⟨C,rfl,h1,h2⟩,rfl⟩;by_cases hk2:k < c.length
 rotate_left
 ·have ek:c.take k=c:=fq (by omega);rw [ek] at h2 ⊢;rw [fq (by omega)] at h2;subst h2
  repeat' (first|refine zW ?_|apply a_n|apply a_x|refine zO ?_|refine vY ?_|(refine zGY ?_ ?_ <;> (intro _hg; try (exfalso; omega)))|refine ak rfl ?_|refine r1Y ?_|fail)
  exact ⟨rfl,rfl,rfl⟩
 have ix:=fC hk2;have hle2:=hle (k + 1);have e:=lA hk2;have hsp:0 < (c.getD k default).length:=pQ.2 (hs _ (a7 hk2));rw [e,dl] at hle2;have hcl:=eH (c.getD k default);have hcp:=eH (c.take k).flatten;generalize c.getD k default=s at *;clear zz;have zz:=@ix; repeat' (first|refine zW ?_|apply a_n|refine zO ?_|refine vY ?_|(refine zGY ?_ ?_ <;> (intro _hg; try (exfalso; omega)))|fail)
 refine uF (b:=nx) (m:=c.flatten.length * 2) (off:=0) (len:=(c.take k).flatten.length) (n:=s.length) (cs:=C) rfl ev0 aj ev0 vT (lq _) h1 (fun _=>by omega) (by omega) (by omega) ?_
 repeat' (first|apply a_n|refine zO ?_|refine vY ?_|fail)
 refine ⟨k + 1,by omega,⟨by omega,⟨_,ay _ _ _ _,?_,?_⟩,rfl⟩,by simp (disch:=omega) only [agr,ZG,reduceEqDiff,↓reduceIte,e,dl]⟩
 ·simp only [bu,dl,go,uS,hcl,h1];omega
 ·rw [e,f8,dl,← h2];simp only [bu,b0];rw [vP (by rw [dl,go,h1,hcl]; omega),fq (by rw [dl,go,h1,hcl]; omega)]
theorem Ae (H:Hp) (nx:Nat):Abs.Fn Tryz.prog 92 [aE []] H nx fun r H' nx'=>r=.esl∧H'=H∧nx'=nx:=by
 refine Abs.Fn.of_c2 follows FO (ba rfl) ?_;simp only [b92,aK];have hal:dK (aE [])=some (.int .i64 0):=rfl;have zz:=@hal; repeat' (first|refine zW ?_|apply a_n|refine zO ?_|refine vY ?_|fail)
 refine aZ (X:=Unit) (fun _=>[(0,aE []),(3,.int .i64 0),(9,aE []),(10,.int .i64 0),(11,.int .i64 0)]) (fun _ H' nx'=>H'=H∧nx'=nx) (fun _=>0) () ⟨rfl,rfl⟩ ag0 ?_;rintro _ _ _ ⟨rfl,rfl⟩
 repeat' (first|refine zW ?_|apply a_n|apply a_x|refine zO ?_|refine vY ?_|(refine zGY ?_ ?_ <;> (intro _hg; try (exfalso; omega)))|fail)
 refine aF ev0 ev0 (Dy _ _) ?_;rintro _ Ha na ⟨rfl,rfl,rfl⟩;clear zz;have zz:=@hal; repeat' (first|refine zW ?_|apply a_n|refine zO ?_|refine vY ?_|fail)
 refine aZ (X:=Unit) (fun _=>[(6,.esl),(25,aE []),(26,.int .i64 0),(27,.int .i64 0)]) (fun _ H1 nx1=>H1=Ha∧nx1=na) (fun _=>0) () ⟨rfl,rfl⟩ ag0 ?_;rintro _ _ _ ⟨rfl,rfl⟩
 repeat' (first|refine zW ?_|apply a_n|apply a_x|refine zO ?_|refine vY ?_|(refine zGY ?_ ?_ <;> (intro _hg; try (exfalso; omega)))|refine ak rfl ?_|refine r1Y ?_|fail)
 exact ⟨rfl,rfl,rfl⟩
theorem Bi {v w:Vtx}:bJ [v] [w]=bE v w:=by
 rw [nT];split
 ·rfl
 ·rename_i h;have:=mF h;rw [this]; rfl
theorem Bf (v w:Vtx):Pure Tryz.prog 98 [bG v,bG w] (.int .i64 (bE v w)):=by
 refine Pure.of_c2 follows Iy (ba rfl) ?_;simp only [b98,aK];have hc:=ig [v] [w] (show 1 ≤ _ by omega) (show 1 ≤ _ by omega);rw [Bi] at hc
 repeat' (first|refine zW ?_|apply a_n|refine zO ?_|refine vY ?_|refine bxY ?_|refine blY ?_|fail)
 refine dG ev0 ev0 hc (af (aw (sf (Row.box 2 1 (cX [v]) ?_ rfl)) (aw (sf (Row.box 3 1 (cX [w]) ?_ rfl)) ae)) rfl) ?_
 ·rw [ah (by omega),aj]; rfl
 ·rw [aj]; rfl
 repeat' (first|apply a_n|refine zO ?_|refine vY ?_|refine ak rfl ?_|refine r1Y ?_|fail)
 exact .int _ _
theorem Gs:Cmp2 Tryz.prog bG bE (fun _=>True) 98 [] where
 len _:=rfl
 agg _:=rfl
 ones _:=rfl
 dat x:=bS x
 dcaps x hx:=by cases hx
 run x y _ _:=Bf x y
 ord:=gn.ord
theorem yr (H:Hp) (nx:Nat):Abs.Fn Tryz.prog 71 [.esl] H nx fun r H' nx'=>r=.esl∧H'=H∧nx'=nx:=by
 refine Abs.Fn.of_c2 follows EO (ba rfl) ?_;simp only [b71,aK]
 repeat' (first|refine zW ?_|apply a_n|apply a_r|refine zO ?_|refine vY ?_|(refine zGY ?_ ?_ <;> (intro _hg; try (exfalso; omega)))|refine ak rfl ?_|refine r1Y ?_|fail)
 exact ⟨rfl,rfl,rfl⟩
theorem x6 (c:List Spx) (hs:∀ s ∈ c,s ≠ []) (hl:c.flatten.length ≤ 100000) (hc:c.length ≤ 100000):Pure Tryz.prog 64 [aE c] (ar (fM bE c.flatten)):=by
 refine Pure.of_c2 follows HE (ba rfl) ?_;simp only [b64,aK];by_cases h0:c=[]
 ·subst h0
  repeat' (first|refine zW ?_|apply a_n|refine zO ?_|refine vY ?_|fail)
  refine aF ev0 ev0 (Ae _ _) ?_;rintro _ _ _ ⟨rfl,rfl,rfl⟩
  repeat' (first|refine zW ?_|apply a_n|refine zO ?_|refine vY ?_|fail)
  refine aF ev0 ev0 BB ?_;rintro _ _ _ ⟨rfl,rfl⟩
  repeat' (first|refine zW ?_|apply a_n|refine zO ?_|refine vY ?_|fail)
  refine aF ev0 ev0 (yr _ _) ?_;rintro _ _ _ ⟨rfl,rfl,rfl⟩
  repeat' (first|apply a_n|refine zO ?_|refine vY ?_|refine ak rfl ?_|refine r1Y ?_|fail)
  exact .eslsl 2
 have hpos:0 < c.flatten.length:=by
  rw [pQ];intro e;obtain ⟨s,hm⟩:=List.exists_mem_of_ne_nil c h0;exact hs s hm (List.flatten_eq_nil_iff.1 e s hm)
 repeat' (first|refine zW ?_|apply a_n|refine zO ?_|refine vY ?_|fail)
 refine aF ev0 ev0 (zT c h0 hs (by omega) (by omega) _ _) ?_;rintro _ _ _ ⟨rfl,rfl,rfl⟩;generalize c.flatten=M at *
 repeat' (first|refine zW ?_|apply a_n|refine zO ?_|refine vY ?_|fail)
 refine aF ev0 ev0 (yE Gs (L:=M) (b:=0) (n:=M.length) aj (by omega) rfl hpos (fun _ _=>trivial) (by omega)) ?_;rintro _ H3 nx3 ⟨L,ps,hperm,hsort⟩;have hLl:L.length=M.length:=hperm.length_eq;have hL0:L ≠ []:=fun e=>by rw [e] at hLl; simp at hLl; omega
 have hB3:H3 0=some (cX L):=ps.at_;rw [← hLl]
 repeat' (first|refine zW ?_|apply a_n|refine zO ?_|refine vY ?_|fail)
 refine aF ev0 ev0 (qp L (show _ ≤ _ by omega) hL0 H3 0 nx3 hB3 (by have:=ps.le; omega)) ?_;rintro _ H4 nx4 ⟨rfl,⟨C,rfl,c1,c2⟩,rfl⟩;have hd:ec L L.length=fM bE M:=pd gn hperm (by rw [hLl]; exact hsort);rw [hd] at c2;have hle:=rl L L.length;have hdl:=oP L L.length;rw [hd] at hdl
 repeat' (first|apply a_n|refine zO ?_|refine vY ?_|refine ak rfl ?_|refine r1Y ?_|fail)
 exact q9 aj c1 (by omega) hdl c2
theorem wQ (c:List Spx) (hc:c.length ≤ 5000) (hs:∀ s ∈ c,Shn s):Pure Tryz.prog 24 [d9 c] (.tup [ar (if aH c=0 then fM bE c.flatten else []),.int .i64 (aH c)]):=by
 refine Pure.of_c2 follows II (ba rfl) ?_;simp only [b24,aK];have hcc:=jw c (show _ ≤ _ by omega) hs;by_cases he:aH c=0
 rotate_left
 ·rw [if_neg he];have z:decide (aH c ≠ 0)=true:=bk he;have zz:=aI @aD (aI @au @z); repeat' (first|refine zW ?_|apply a_n|apply a_r|refine zO ?_|refine vY ?_|refine cY ?_ (hp:=hcc) (hs:=by (first | refine af ?_ rfl | apply ag); (repeat' (first | exact ae | apply am | apply ai | exact bm _)); first | done | fail)|refine bxY ?_|refine cTY ?_|refine ak rfl ?_|refine r2Y ?_|fail)
  exact Cx (.eslsl _) rfl
 rw [if_pos he];rw [he] at hcc ⊢;have z0:decide ((0:Int) ≠ 0)=false:=rfl;obtain ⟨p1,p2,p3,p4⟩:=cA he
 have hfl:∀ (l:List Spx),(∀ s ∈ l,s.length ≤ 8)→l.flatten.length ≤ 8 * l.length:=by
  intro l
  induction l with
  | nil=>intro _; simp
  | cons s l ih =>
   intro h;rw [List.flatten_cons,dl,cS];have:=h s ko;have:=ih fun t ht=>h t (rO _ ht);omega
 have h8:=hfl c (fun s h=>(cg (p2 s h)).2.1);have hv:=x6 c (fun s h e=>by have:=(cg (p2 s h)).1; rw [e] at this; simp at this) (by omega) (by omega);have zz:=aI @aD (aI @au @z0); repeat' (first|refine zW ?_|apply a_n|refine zO ?_|refine vY ?_|refine cY ?_ (hp:=by first | exact hcc | exact hv) (hs:=by (first | refine af ?_ rfl | apply ag); (repeat' (first | exact ae | apply am | apply ai | exact bm _ | exact bi _)); first | done | fail)|refine bxY ?_|refine cFY ?_|refine ak rfl ?_|refine r2Y ?_|fail)
 exact Cx (aA _).snap rfl
end Go.Proofs.YtpfkjcjgdilkkaaGreat
namespace Go.Proofs.YtpfkjcjgdilkkaaGreat
open Go Go.Abs
open Nat (reduceEqDiff reduceAdd reduceLeDiff)
theorem Fg {P:Program} {T:Tm} {H:Hp} {nx:Nat} {dm:DM} {K:SP} {l:List Op2} {d:Option Nat} {sz bytes b N len n:Nat} {s x:Opd} {v:AV} {new C:List AV} (hd:dm2 dm T (.app sz bytes s x)=true) (hs:ov T s=.msl b N sz 0 len) (hb:H b=some C) (hN:C.length=N) (hx:ov T x=v) (hsrc:ed sz H v=some (n,new)) (ho:AV.ones new=true) (hnl:new.length=n * sz) (hz:0 < sz) (h0:0 < N) (hle:(len + n) * sz ≤ N) (h1:(len + n) * bytes ≤ 140737488355328) (h2:len + n ≤ 9223372036854775807)
    (next:∀ C':List AV,C'.length=N→C'.take ((len + n) * sz)=C.take (len * sz) ++ new→av P dm l (aP T d (.msl b N sz 0 (len + n))) (ao H b C') nx K) :
    av P dm (⟨d,none,.app sz bytes s x⟩ :: l) T H nx K:=by
 by_cases e:N=len * sz
 ·have hn:n=0:=by
    rcases qj n with h | h
    ·exact h
    ·have:len * sz + 1 * 1 ≤ len * sz + n * sz:=Nat.add_le_add_left (Nat.mul_le_mul h hz) _;rw [eM] at hle; omega
  subst hn;obtain rfl:new=[]:=List.eq_nil_of_length_eq_zero (by rw [hnl,ol]);refine Cw hd hs hb hx hsrc ho hN e h1 h2 ?_;rw [lL] at next ⊢;rw [← e];exact next _ (by rw [iJ]; exact hN) (by rw [iJ,iJ])
 ·refine uF hd hs hb hx hsrc ho hN (fun _=>e) h0 (by rw [b0]; exact hle) ?_;have hlen:len * sz + new.length ≤ N:=by rw [hnl,← eM]; exact hle
  refine next _ ?_ ?_
  ·rw [gA (by rw [hN]; omega)]; exact hN
  ·simp only [bu,b0];rw [vP (by rw [dl,go,hN,hnl,eM]; omega),fq (by rw [dl,go,hN,hnl,eM]; omega)]
attribute [local irreducible] aW av bQ bO bl bB aU bx bT cK Go.Abs.Fn bL Go.Abs.Pure aS bg Yl
theorem AM (c:List Spx) (hpos:0 < c.flatten.length) (hl:c.flatten.length ≤ 1000000) (hc:c.length ≤ 1000000) (H:Hp) (nx:Nat) :
    Abs.Fn Tryz.prog 92 [aE c] H nx fun r H' nx'=>r=.msl nx (c.flatten.length * 2) 2 0 c.flatten.length∧H'=ao H nx (cX c.flatten)∧nx'=nx + 1:=by
 refine Abs.Fn.of_c2 follows FO (ba rfl) ?_;simp only [b92,aK]
 have hle:∀ k,(c.take k).flatten.length ≤ c.flatten.length:=fun k=>by
  have:c.flatten=(c.take k).flatten ++ (c.drop k).flatten:=by rw [← List.flatten_append,Aw]
  rw [this,dl]; omega
 refine ef ?_
 repeat' (first|apply a_n|refine zO ?_|refine vY ?_|fail)
 refine ef ?_
 repeat' (first|apply a_n|refine zO ?_|refine vY ?_|fail)
 refine bh (fun T H' nx'=>T 0=aE c∧T 3=.int .i64 (c.flatten.length:Nat)∧H=H'∧nx=nx') ?_ ?_
 ·have zz:=@an; repeat' (first|refine zW ?_|apply a_n|refine zO ?_|refine vY ?_|fail)
  refine pD (X:=Nat) (fun k=>[(0,aE c),(3,.int .i64 ((c.take k).flatten.length:Nat)),(9,aE c),(10,.int .i64 c.length),(11,.int .i64 (k:Nat))]) (fun k=>k ≤ c.length) (fun k=>c.length - k) 0 (by omega) (by simp (disch:=omega) only [agr,ZG,reduceEqDiff,↓reduceIte,List.take_zero,List.flatten_nil,ew] <;> simp) ?_;intro k hk;by_cases hk2:k < c.length
  rotate_left
  ·rw [fq (by omega)]
   repeat' (first|refine zW ?_|apply a_n|apply a_x|refine zO ?_|refine vY ?_|(refine zGY ?_ ?_ <;> (intro _hg; try (exfalso; omega)))|fail)
   exact ⟨rfl,rfl,rfl,rfl⟩
  have ix:=fC hk2;have hle2:=hle (k + 1);have e:(((c.take (k + 1)).flatten.length:Nat):Int)=((c.take k).flatten.length:Nat) + ((c.getD k default).length:Nat):=by rw [lA hk2,dl]; omega
  rw [lA hk2,dl] at hle2;have z:decide ((((c.take k).flatten.length:Nat):Int) + ((c.getD k default).length:Nat) < 0)=false:=bq (by omega);generalize c.getD k default=s at *;clear zz;have zz:=aI @ix (aI @ap @z); repeat' (first|refine zW ?_|apply a_n|refine zO ?_|refine vY ?_|refine cFY ?_|(refine zGY ?_ ?_ <;> (intro _hg; try (exfalso; omega)))|fail)
  exact ⟨k + 1,by omega,by omega,(have zz:=@e; agZ),rfl,rfl⟩
 rintro T _ _ ⟨t0,t3,rfl,rfl⟩;have zz:=@t3; repeat' (first|refine zW ?_|apply a_n|refine zO ?_|refine vY ?_|fail)
 refine aF ev0 (have zz:=@t3; evY) (yB c.flatten.length (by omega) (by omega) H nx) ?_;rintro _ _ _ ⟨rfl,rfl,rfl⟩;clear zz;have zz:=aI @t0 @an; repeat' (first|refine zW ?_|apply a_n|refine zO ?_|refine vY ?_|fail)
 refine aZ (X:=Nat) (fun k=>[(6,.msl nx (c.flatten.length * 2) 2 0 (c.take k).flatten.length),(25,aE c),(26,.int .i64 c.length),(27,.int .i64 (k:Nat))]) (fun k H' nx'=>k ≤ c.length∧(∃ C,H'=ao H nx C∧C.length=c.flatten.length * 2∧C.take ((c.take k).flatten.length * 2)=cX (c.take k).flatten)∧nx'=nx + 1) (fun k=>c.length - k) 0 ⟨by omega,⟨_,rfl,yR _,rfl⟩,rfl⟩ (by simp (disch:=omega) only [agr,ZG,reduceEqDiff,↓reduceIte,List.take_zero,List.flatten_nil,ew]) ?_;rintro k _ _ ⟨hk,⟨C,rfl,h1,h2⟩,rfl⟩;by_cases hk2:k < c.length
 rotate_left
 ·have ek:c.take k=c:=fq (by omega);rw [ek] at h2 ⊢;rw [fq (by omega)] at h2;subst h2
  repeat' (first|refine zW ?_|apply a_n|apply a_x|refine zO ?_|refine vY ?_|(refine zGY ?_ ?_ <;> (intro _hg; try (exfalso; omega)))|refine ak rfl ?_|refine r1Y ?_|fail)
  exact ⟨rfl,rfl,rfl⟩
 have ix:=fC hk2;have hle2:=hle (k + 1);have e:=lA hk2;rw [e,dl] at hle2;have hcl:=eH (c.getD k default);have hcp:=eH (c.take k).flatten;generalize c.getD k default=s at *;clear zz;have zz:=@ix; repeat' (first|refine zW ?_|apply a_n|refine zO ?_|refine vY ?_|(refine zGY ?_ ?_ <;> (intro _hg; try (exfalso; omega)))|fail)
 refine Fg (b:=nx) (N:=c.flatten.length * 2) (len:=(c.take k).flatten.length) (n:=s.length) (C:=C) rfl ev0 aj h1 ev0 vT (lq _) (by rw [hcl]) (by omega) (by omega) (by omega) (by omega) (by omega) fun C2 c1 c2=>?_
 repeat' (first|apply a_n|refine zO ?_|refine vY ?_|fail)
 refine ⟨k + 1,by omega,⟨by omega,⟨_,ay _ _ _ _,c1,?_⟩,rfl⟩,by simp (disch:=omega) only [agr,ZG,reduceEqDiff,↓reduceIte,e,dl]⟩;rw [e,f8,dl,← h2];exact c2
theorem Io {P:Program} {T:Tm} {H S:Hp} {nx n:Nat} {K:SP} {l:List (Op2 × Nat)} {d:Option Nat} {i:Ins} {t:Nat} {w:Bool} (h:T t=.bool w) (k:bt P S ((⟨d,none,i⟩,n) :: l) T H nx K):bt P S ((⟨d,some (t,w),i⟩,n) :: l) T H nx K:=by
 have e:g2 T (some (t,w))=some true:=by simp [g2,h]
 cases n with
 | zero=>show bx (g2 T (some (t,w))) _ _; rw [e]; exact k
 | succ n=>show bx (g2 T (some (t,w))) _ _; rw [e]; exact k
theorem Ad (x y:Spx) (h:0 < (x ++ y).length) (hl:(x ++ y).length ≤ 1000000):gV Tryz.prog 92 [aE [x,y]] (ar (x ++ y)):=by
 refine gV.of_fn ?_;have e:[x,y].flatten=x ++ y:=by simp
 have hc:=AM [x,y] (by rw [e]; exact h) (by rw [e]; exact hl) (by simp) bK 0;rw [e] at hc;refine Abs.Fn.mono hc ?_;rintro _ _ _ ⟨rfl,rfl,rfl⟩;exact tV (Row.box _ (x ++ y).length (cX (x ++ y)) aj (eH _))
theorem An (s:Spx) (H:Hp) (nx:Nat):Abs.Fn Tryz.prog 56 [ar s] H nx fun r H' nx'=>r=.func 91 [.ptr nx 1 0]∧H'=ao H nx [ar s]∧nx'=nx + 1:=by
 refine Abs.Fn.of_c2 follows Iw (ba rfl) ?_;simp only [b56,aK];have zz:=aI @aQ @aG; repeat' (first|refine zW ?_|apply a_n|refine zO ?_|refine vY ?_|refine bxY ?_|refine ak rfl ?_|refine r1Y ?_|fail)
 exact ⟨rfl,rfl,rfl⟩
theorem A6 {H:Hp} {b:Nat} {x y:Spx} (h:H b=some [ar x,ar y]):bg H [.msl b 2 1 0 2] [aE [x,y]] :=
 aw (zV (l:=[ar x,ar y]) h rfl rfl (by
  intro z hz;simp only [e9,List.not_mem_nil,or_false] at hz;rcases hz with rfl | rfl
  ·exact ⟨rfl,aA _⟩
  ·exact ⟨rfl,aA _⟩)) ae
theorem CS {s:Spx} (h:2 ≤ s.length):(fcs s).length=s.length:=by
 unfold fcs; rw [if_neg (by omega),ul]
theorem C7 {s:Spx} {i:Nat} (h:2 ≤ s.length) (hi:i < s.length):(fcs s).getD i default=s.take i ++ s.drop (i + 1):=by
 unfold fcs; rw [if_neg (by omega),yZ hi]
theorem z6 {y sb:Nat} {s:Spx} {H:Hp} {nx:Nat} (hs:s.length ≤ 1000) (I:List Spx→Hp→Nat→Prop)
    (hp:∀ D H nx,I D H nx→H sb=some [ar s])
    (stab:∀ D H H' nx1 nx',I D H nx1→nx1 ≤ nx'→(∀ i,i < nx1→H' i=H i)→I D H' nx')
    (rnd:∀ D f H nx1,I D H nx1→D.length < (fcs s).length→f=(fcs s).getD D.length default→D=(fcs s).take D.length→Yl Tryz.prog y [ar f] H nx1 fun r H' nx'=>r=.bool true∧I (D ++ [f]) H' nx')
    (h0:I [] H nx) :
    Abs.Fn Tryz.prog 91 [.yld y,.ptr sb 1 0] H nx fun _ H' nx'=>I (fcs s) H' nx':=by
 refine Abs.Fn.of_c2 follows Ir (ba rfl) ?_;simp only [b91,aK];have g1:=hp _ _ _ h0;have zz:=aI @g1 (aI @aQ (aI @aG @ap)); repeat' (first|refine zW ?_|apply a_n|refine zO ?_|refine vY ?_|fail)
 by_cases h2:2 ≤ s.length
 rotate_left
 ·have e:fcs s=[]:=by unfold fcs; rw [if_pos (by omega)]
  rw [e];refine aZ (X:=Nat) (fun k=>[(0,.yld y),(1,.ptr sb 1 0),(5,.int .i64 s.length),(6,.int .i64 k)]) (fun k H' nx'=>k ≤ s.length∧I [] H' nx') (fun k=>s.length - k) 0 ⟨cq _,h0⟩ ag0 ?_;rintro k H1 nx1 ⟨h1,hI⟩;have q1:=hp _ _ _ hI;by_cases hk:k < s.length
  rotate_left
  ·repeat' (first|refine zW ?_|apply a_n|apply a_x|refine zO ?_|refine vY ?_|(refine zGY ?_ ?_ <;> (intro _hg; try (exfalso; omega)))|refine ak rfl ?_|fail)
   exact hI
  have z:decide ((1:Int) < s.length)=false:=bq (by omega);clear zz;have zz:=aI @q1 (aI @aQ (aI @aG (aI @ap @z))); repeat' (first|refine zW ?_|refine zM ?_|apply a_n|refine zO ?_|refine vY ?_|refine gFY ?_|refine cFY ?_|(refine zGY ?_ ?_ <;> (intro _hg; try (exfalso; omega)))|fail)
  exact ⟨k + 1,by omega,⟨by omega,hI⟩,ag0⟩
 have z:decide ((1:Int) < s.length)=true:=bk (by omega);have hfl:=CS h2;have hfg:=fun {i:Nat} (hi:i < s.length)=>C7 (i:=i) h2 hi;refine aZ (X:=Nat) (fun k=>[(0,.yld y),(1,.ptr sb 1 0),(5,.int .i64 s.length),(6,.int .i64 k)]) (fun k H' nx'=>k ≤ s.length∧I ((fcs s).take k) H' nx') (fun k=>s.length - k) 0 ⟨cq _,h0⟩ ag0 ?_;rintro k H1 nx1 ⟨h1,hI⟩;have q1:=hp _ _ _ hI;by_cases hk:k < s.length
 rotate_left
 ·rw [fq (by omega)] at hI
  repeat' (first|refine zW ?_|apply a_n|apply a_x|refine zO ?_|refine vY ?_|(refine zGY ?_ ?_ <;> (intro _hg; try (exfalso; omega)))|refine ak rfl ?_|fail)
  exact hI
 have a1:iW 2 (ar s) none (some (.int .i64 (k:Int))) none=some (ar (s.take k)):=uD (by omega);have a2:iW 2 (ar s) (some (.int .i64 ((k:Int) + 1))) none none=some (ar (s.drop (k + 1))):=xY (k:=k + 1) (by omega);have hc:=Ad (s.take k) (s.drop (k + 1)) (by rw [dl,go,uS]; omega) (by rw [dl,go,uS]; omega);have hr:=rnd ((fcs s).take k) ((fcs s).getD k default) (ao H1 nx1 [ar (s.take k),ar (s.drop (k + 1))]) (nx1 + 1) (stab _ _ _ _ _ hI (by omega) fun i hi=>ah (by omega)) (by rw [go]; omega) (by rw [go,Nat.min_eq_left (by omega)]) (by rw [go,Nat.min_eq_left (by omega)]);rw [← bW (by omega),hfg hk] at hr;clear zz;have zz:=aI @q1 (aI @aQ (aI @aG (aI @ap (aI @z (aI @a1 @a2))))); repeat' (first|refine zW ?_|apply a_n|refine zO ?_|refine vY ?_|(refine zGY ?_ ?_ <;> (intro _hg; try (exfalso; omega)))|fail)
 refine ot sb q1 fun S0 hS1 hsub=>?_;simp only [gv,List.map_nil,List.getD_cons_succ,List.getD_cons_zero];clear zz;have zz:=aI @hS1 (aI @aQ (aI @aG (aI @ap (aI @z (aI @a1 @a2))))); repeat' (first|apply a_n|refine zO ?_|refine nvY ?_|apply jY|refine blY ?_|fail)
 repeat (refine Io ev0 ?_; skip)
 refine uX ev0 ev0 hc (A6 (by rw [aj])) ?_
 repeat' (first|apply a_n|refine zO ?_|apply jY|fail)
 refine uM ev0 ev0 (Yl.mono hr ?_);rintro v H3 nx3 ⟨rfl,e1⟩
 repeat' (first|apply a_n|refine zO ?_|refine vY ?_|refine nvY ?_|refine cFY ?_|fail)
 exact ⟨k + 1,by omega,⟨by omega,e1⟩,ag0⟩
end Go.Proofs.YtpfkjcjgdilkkaaGreat
namespace Go.Proofs.YtpfkjcjgdilkkaaGreat
open Go Go.Abs
def A1:Nat→Spx→List Int
 | 0,_=>[]
 | n + 1,[]=>0 :: 0 :: A1 n []
 | n + 1,v :: l=>v.color :: v.label :: A1 n l
theorem r8:∀ {n:Nat} {s:Spx},(A1 n s).length=2 * n
 | 0,_=>rfl
 | n + 1,[]=>by show (A1 n []).length + 1 + 1=_; rw [r8]; omega
 | n + 1,v :: l=>by show (A1 n l).length + 1 + 1=_; rw [r8]; omega
def kZ (s:Spx):K16:=⟨A1 8 s,by rw [r8]⟩
structure BOk (H:Hp) (n:Nat) (c:Spx→Nat) (O:List Spx) (bs:List Nat) (ck:Nat):Prop where
 box:H 0=some [.bmap ((O.map kZ).map eK) (O.map ar) bs ck]
 len:bs.length=O.length
 asc:bs.Pairwise (· < ·)
 below:∀ s ∈ bs,s < ck
 nd:O.Nodup
 all:∀ f ∈ O,f.length=n
 odd:∀ f,f ∈ O ↔ c f % 2=1
theorem BOk.same {H H':Hp} {n:Nat} {c c':Spx→Nat} {O:List Spx} {bs:List Nat} {ck:Nat} (h:BOk H n c O bs ck) (hs:H' 0=H 0) (hc:∀ f,c' f % 2=c f % 2):BOk H' n c' O bs ck :=
 ⟨hs.trans h.box,h.len,h.asc,h.below,h.nd,h.all,fun f=>by rw [hc]; exact h.odd f⟩
theorem BOk.put {H H':Hp} {n:Nat} {c c':Spx→Nat} {O:List Spx} {bs:List Nat} {ck:Nat} {f:Spx} (h:BOk H n c O bs ck) (hf:f ∉ O) (hl:f.length=n) (hH:H' 0=some [.bmap ((O.map kZ).map eK ++ [eK (kZ f)]) (O.map ar ++ [ar f]) (bs ++ [ck]) (ck + 1)]) (hc:∀ g,c' g=c g + if g=f then 1 else 0):BOk H' n c' (O ++ [f]) (bs ++ [ck]) (ck + 1):=by
 refine ⟨by rw [hH]; simp,by rw [dl,dl,h.len]; rfl,?_,fun s hs=>?_,?_,fun g hg=>?_,fun g=>?_⟩
 ·exact List.pairwise_append.2 ⟨h.asc,List.pairwise_singleton _ _,fun a ha b hb=>by rw [fV.1 hb]; exact h.below a ha⟩
 ·rcases iH.1 hs with q | q
  ·have:=h.below s q; omega
  ·rw [fV.1 q]; omega
 ·exact yo.2 ⟨h.nd,by simp,fun a ha b hb e=>by rw [e,fV.1 hb] at ha; exact hf ha⟩
 ·rcases iH.1 hg with q | q
  ·exact h.all g q
  ·rw [fV.1 q]; exact hl
 ·rw [iH,fV,h.odd,hc];by_cases e:g=f
  ·subst e;have:¬ c g % 2=1:=fun q=>hf ((h.odd g).2 q);rw [if_pos rfl];exact ⟨fun _=>by omega,fun _=>.inr rfl⟩
  ·rw [if_neg e]; simp [e]
theorem gu {α β:Type} {f:α→β}:∀ {l:List α} {i:Nat},(l.map f).eraseIdx i=(l.eraseIdx i).map f
 | [],_=>rfl
 | a :: l,0=>rfl
 | a :: l,i + 1=>by show f a :: (l.map f).eraseIdx i=f a :: (l.eraseIdx i).map f; rw [gu]
theorem BOk.del {H H':Hp} {n:Nat} {c c':Spx→Nat} {O:List Spx} {bs:List Nat} {ck i:Nat} {f:Spx} (h:BOk H n c O bs ck) (hf:f ∈ O) (hi:O.idxOf f=i) (hH:H' 0=some [.bmap (((O.map kZ).map eK).eraseIdx i) ((O.map ar).eraseIdx i) (bs.eraseIdx i) ck]) (hc:∀ g,c' g=c g + if g=f then 1 else 0):BOk H' n c' (O.erase f) (bs.eraseIdx i) ck:=by
 have hil:i < O.length:=by rw [← hi]; exact BE.2 hf
 have he:O.erase f=O.eraseIdx i:=List.erase_eq_eraseIdx_of_idxOf hi;refine ⟨?_,?_,h.asc.sublist (List.eraseIdx_sublist _ _),fun s hs=>h.below s ((List.eraseIdx_sublist _ _).subset hs),h.nd.erase _,fun g hg=>h.all g (List.mem_of_mem_erase hg),fun g=>?_⟩
 ·rw [hH,he];rw [gu,gu,gu]
 ·rw [he,List.length_eraseIdx_of_lt hil,List.length_eraseIdx_of_lt (by rw [h.len]; exact hil),h.len]
 ·rw [h.nd.mem_erase_iff,h.odd,hc];by_cases e:g=f
  ·subst e;have:=(h.odd g).1 hf;rw [if_pos rfl];constructor
   ·exact fun q=>absurd rfl q.1
   ·intro q; omega
  ·rw [if_neg e]; simp [e]
attribute [local irreducible] aW av bQ bO bl bB aU bx bT cK Go.Abs.Fn bL Go.Abs.Pure aS bg Yl
theorem GN {a:List Spx} (h:∀ s ∈ a,cm s=0):∀ s ∈ a,s.length ≤ 8:=fun s hs=>(cg (h s hs)).2.1
def on3 (b1:Nat) (c1:List AV) (b2:Nat) (c2:List AV) (b3:Nat) (c3:List AV):Hp:=fun x=>if x=b1 then some c1 else if x=b2 then some c2 else if x=b3 then some c3 else none
theorem FU {P:Program} {T:Tm} {H:Hp} {nx:Nat} (b1 b2 b3:Nat) {c1 c2 c3:List AV} {K:CP} {m:Nat} {l:List Op2} {C:List (Nat × Nat)} (h1:H b1=some c1) (h2:H b2=some c2) (h3:H b3=some c3) (n1:b2 ≠ b1) (n2:b3 ≠ b1) (n3:b3 ≠ b2) (k:∀ S:Hp,S b1=some c1→S b2=some c2→S b3=some c3→(∀ H':Hp,H' b1=some c1→H' b2=some c2→H' b3=some c3→Sub S H')→bt P S (C.map fun k=>(l.getD k.1 ⟨none,none,.dead⟩,k.2)) T H nx fun T H nx=>K .normal T H nx):aW P (.mixS m l C) T H nx K:=by
 have hsub:∀ H':Hp,H' b1=some c1→H' b2=some c2→H' b3=some c3→Sub (on3 b1 c1 b2 c2 b3 c3) H':=fun H' a b c x cs h=>by
  unfold on3 at h;split at h
  ·rename_i e; rw [e,a]; exact h
  split at h
  ·rename_i e; rw [e,b]; exact h
  split at h
  ·rename_i e; rw [e,c]; exact h
  ·cases h
 refine xZ (on3 b1 c1 b2 c2 b3 c3) rfl (hsub H h1 h2 h3) (k _ ?_ ?_ ?_ hsub)
 ·unfold on3; rw [if_pos rfl]
 ·unfold on3; rw [if_neg n1,if_pos rfl]
 ·unfold on3; rw [if_neg n2,if_neg n3,if_pos rfl]
theorem uO {α:Type} {p q:Prop} [Decidable p] [Decidable q] (h:p ↔ q) {a b:α}:(if p then a else b)=if q then a else b:=by
 by_cases hq:q
 ·rw [if_pos hq,if_pos (h.2 hq)]
 ·rw [if_neg hq,if_neg fun x=>hq (h.1 x)]
def A7 (c:List Spx) (d:Int):List Spx × Int:=if d < 0 then ([],0) else gc c (d + 1)
def fJ (c:List Spx) (d:Int):List Spx:=if d ≤ 0 then [] else dp c d.toNat
def sP (c:List Spx) (d:Int):(Int × List (List Int)) × Int:=if aH c ≠ 0 then ((0,[]),aH c) else if d < 0 ∨ 8 ≤ d then ((0,[]),2) else ((((fJ c (d + 1)).length:Nat),gf (fJ c (d + 1)) (fJ c d)),0)
theorem DH {c:List Spx} {d:Int} (hc:aH c=0) (h1:-1 ≤ d) (h2:d < 8):A7 c d=(fJ c (d + 1),0):=by
 unfold A7 fJ gc;by_cases h:d < 0
 ·rw [if_pos h,if_pos (by omega)]
 ·rw [if_neg h,if_neg (fun q=>q hc),if_neg (by omega),if_neg (by omega)]
theorem AO {c:List Spx} {d:Int}:cb bJ (fJ c d):=by
 unfold fJ; split
 ·exact cb.nil
 ·exact kI
theorem sX {c:List Spx} {d:Int} (hc:c.length ≤ 50) (h:aH c=0):(fJ c d).length ≤ 3500:=by
 unfold fJ; split
 ·exact cq _
 ·exact ja hc (GN (cA h).2.1)
theorem hZ {c:List Spx} {d:Int} {s:Spx}:s ∈ fJ c d ↔ 0 < d∧s.length=d.toNat∧∃ t ∈ c,s.Sublist t:=by
 unfold fJ; split
 ·exact ⟨fun h=>(by cases h),fun h=>absurd h.1 (by omega)⟩
 ·rw [gx];constructor
  ·rintro ⟨t,t1,t2⟩;exact ⟨by omega,(bP.1 t2).2,t,t1,(bP.1 t2).1⟩
  ·rintro ⟨_,h1,t,t1,t2⟩;exact ⟨t,t1,bP.2 ⟨t2,h1⟩⟩
theorem mE {c:List Spx} {d:Int} (h:aH c=0):∀ s ∈ fJ c d,cm s=0:=fun s hs=>by
 obtain ⟨h1,h2,t,t1,t2⟩:=hZ.1 hs;obtain ⟨p1,p2,p3,p4⟩:=cg ((cA h).2.1 t t1);have:=t2.length_le;exact vV ⟨by omega,by omega⟩ (p3.sublist t2) fun v hv=>p4 v (t2.subset hv)
theorem xX {c:List Spx} {d:Int} {s f:Spx} (hs:s ∈ fJ c (d + 1)) (hf:f ∈ dj s):f ∈ fJ c d:=by
 obtain ⟨h1,h2,t,t1,t2⟩:=hZ.1 hs;obtain ⟨g1,g2,g3⟩:=qP.1 hf;exact hZ.2 ⟨by omega,by omega,t,t1,g2.trans t2⟩
theorem BP (l:List Spx) (v:Spx) (hl:Shn l) (hs:∀ c ∈ l,Shn c) (hv:Shn v) (ha:cb bJ l):∃ b:Nat,Pure Tryz.prog 57 [aE l,ar v] (.tup [.int .i64 b,.bool (decide (v ∈ l))])∧(v ∈ l→b < l.length∧l.getD b default=v):=by
 obtain ⟨b,hb,h1,h2⟩:=mt (fun i=>bJ (l.getD i default) v) l.length (fun i j hij hj h=>jT.trans (cE ha hij hj) h);have hc:=qK l v hl hs hv hb h1 h2
 have he:(decide (b < l.length) && decide (bJ (l.getD b default) v=0))=decide (v ∈ l)∧(v ∈ l→b < l.length∧l.getD b default=v):=by
  by_cases hm:v ∈ l
  ·obtain ⟨i,hi,e⟩:=jp hm;have e':l.getD i default=v:=by simp [List.getD,hi,e]
   have hbi:b=i:=by
    rcases rh b i with h | h | h
    ·have h3:=h2 b (aO _) (by omega);have h4:=cE ha h hi;rw [e'] at h4; omega
    ·exact h
    ·have h3:=h1 i h;rw [e',dN] at h3; omega
   subst hbi;rw [bk hi,bk hm,e',bk (dN v)];exact ⟨rfl,fun _=>⟨hi,rfl⟩⟩
  ·rw [bq hm];refine ⟨?_,fun h=>absurd h hm⟩;by_cases hlt:b < l.length
   ·rw [bk hlt,Bool.true_and,bq];intro h;exact hm (by rw [← nD h]; exact a7 hlt)
   ·rw [bq hlt,Bool.false_and]
 rw [he.1] at hc;refine ⟨b,?_,he.2⟩;refine Pure.of_c2 follows It (ba rfl) ?_;simp only [b57,aK];have zz:=aI @aQ (aI @aG (aI @aD @au)); repeat' (first|refine zW ?_|apply a_n|refine zO ?_|refine vZ ?_|refine cZ ?_ (hp:=hc) (hs:=by (first | refine af ?_ rfl | apply ag); (repeat' (first | exact ae | apply am | apply ai | exact bi _ | exact aA _ | exact Dat.func DatL.nil)); first | done | fail)|refine ak rfl ?_|refine r2Z ?_|fail)
 exact eT (aw (.int _ _) (aw (.bool _) ae))
theorem DS (c:List Spx) (d:Int) (hd:d ≤ 1000) (hc:c.length ≤ 50) (hs:∀ s ∈ c,Shn s):Pure Tryz.prog 55 [d9 c,.int .i64 d] (.tup [aE (A7 c d).1,.int .i64 (A7 c d).2]):=by
 refine Pure.of_c2 follows HP (ba rfl) ?_;simp only [b55,aK];unfold A7;by_cases h:d < 0
 ·have z:decide (d < 0)=true:=bk h;rw [if_pos h];have zz:=aI @z (aI @aD @au); repeat' (first|refine zW ?_|apply a_n|apply a_r|refine zO ?_|refine vY ?_|refine bxY ?_|refine cTY ?_|refine ak rfl ?_|refine r2Y ?_|fail)
  exact jD (.eslsl _) rfl
 ·have z:decide (d < 0)=false:=bq h;rw [if_neg h];have hS:=jM c (d + 1) hc hs;have zz:=aI @z (aI @aD @au); repeat' (first|refine zW ?_|apply a_n|refine zO ?_|refine vY ?_|refine cY ?_ (hp:=hS) (hs:=by (first | refine af ?_ rfl | apply ag); (repeat' (first | exact ae | apply am | apply ai | exact bm _)); first | done | fail)|refine bxY ?_|refine cFY ?_|refine ak rfl ?_|refine r2Y ?_|fail)
  exact jD (bi _).snap rfl
set_option maxHeartbeats 2000000 in
theorem CO (c:List Spx) (d:Int) (hc:c.length ≤ 50) (hs:∀ s ∈ c,Shn s):Pure Tryz.prog 18 [d9 c,.int .i64 d] (.tup [i8 (sP c d).1.1 (sP c d).1.2,.int .i64 (sP c d).2]):=by
 refine Pure.of_c2 follows IB (ba rfl) ?_;simp only [b18,aK];have hcc:=jw c (show _ ≤ _ by omega) hs;unfold sP;by_cases he:aH c=0
 rotate_left
 ·rw [if_pos he];have z:decide (aH c ≠ 0)=true:=bk he;have zz:=aI @aD (aI @au @z); repeat' (first|refine zW ?_|apply a_n|apply a_r|refine zO ?_|refine vY ?_|refine cY ?_ (hp:=hcc) (hs:=by (first | refine af ?_ rfl | apply ag); (repeat' (first | exact ae | apply am | apply ai | exact bm _)); first | done | fail)|refine alY ?_|refine bxY ?_|refine stY ?_|refine cTY ?_|refine ak rfl ?_|refine r2Y ?_|fail)
  exact iU (.eslsl _) rfl
 rw [if_neg (fun h=>h he)];rw [he] at hcc;have z0:decide ((0:Int) ≠ 0)=false:=rfl;by_cases hd:d < 0 ∨ 8 ≤ d
 ·rw [if_pos hd];have zz:=aI @aD (aI @au @z0); repeat' (first|refine zW ?_|apply a_n|apply a_r|refine zO ?_|refine vY ?_|refine cY ?_ (hp:=hcc) (hs:=by (first | refine af ?_ rfl | apply ag); (repeat' (first | exact ae | apply am | apply ai | exact bm _)); first | done | fail)|refine alY ?_|refine bxY ?_|refine stY ?_|refine gTY ?_|refine gFY ?_|refine cTY ?_|refine cFY ?_|(refine zGY ?_ ?_ <;> (intro _hg; try (exfalso; omega)))|refine ak rfl ?_|refine r2Y ?_|fail)
  all_goals first | exact iU (.eslsl _) rfl | (exfalso; omega)
 rw [if_neg hd];have hX:=DS c d (by omega) hc hs;have hY:=DS c (d - 1) (by omega) hc hs;rw [DH he (by omega) (by omega)] at hX hY;rw [show d - 1 + 1=d by omega] at hY;have hXl:=sX (d:=d + 1) hc he;have hYl:=sX (d:=d) hc he;have hXm:=mE (d:=d + 1) he;have hYm:=Bt (mE (d:=d) he);have hYa:=AO (c:=c) (d:=d);generalize fJ c (d + 1)=X at *;generalize fJ c d=Y at *;have z1:decide (d < 0)=false:=bq (by omega);have z2:decide (8 ≤ d)=false:=bq (by omega);have hzc:be (AV.agg [AV.esl]) Y.length=List.replicate Y.length .esl:=by simp [be,AV.cells]
 have zz:=aI @aD (aI @au (aI @an (aI @z0 (aI @z1 @z2)))); repeat' (first|refine zW ?_|apply a_n|refine zO ?_|refine vY ?_|refine cY ?_ (hp:=by first | exact hcc | exact hX | exact hY) (hs:=by (first | refine af ?_ rfl | apply ag); (repeat' (first | exact ae | apply am | apply ai | exact bm _)); first | done | fail)|refine alY ?_|refine bxY ?_|refine stY ?_|refine gTY ?_|refine cFY ?_|fail)
 refine yD (k1:=.i64) (k2:=.i64) (n:=Y.length) (m:=Y.length) rfl ev0 ev0 (by omega) (Int.le_refl _) (by omega) (by omega) ?_;rw [bz,hzc,Nat.mul_one];clear zz;have zz:=@an; repeat' (first|refine zW ?_|apply a_n|refine zO ?_|refine vY ?_|refine alY ?_|refine stY ?_|fail)
 refine aZ (X:=Nat × List AV) (fun x=>[(4,.ptr 1 2 0),(9,.ptr 2 1 0),(10,.ptr 4 2 0),(56,aE X),(57,.int .i64 X.length),(58,.int .i64 x.1)]) (fun x H' nx'=>x.1 ≤ X.length∧5 ≤ nx'∧H' 1=some [.int .i64 0,.esl]∧H' 2=some [aE Y]∧H' 4=some [.int .i64 X.length,.msl 3 Y.length 1 0 Y.length]∧MatOk H' 3 5 nx' Y.length (fo X Y x.1) x.2) (fun x=>X.length - x.1) (0,List.replicate Y.length .esl) ⟨cq _,aO _,by (repeat rw [ah (by omega)]); rw [aj],by (repeat rw [ah (by omega)]); rw [aj]; rfl,by rw [aj]; rfl,MatOk.new (by (repeat rw [ah (by omega)]); rw [aj]) (fun j _=>rfl)⟩ (by (iterate 6 refine And.intro rfl ?_); trivial) ?_;rintro ⟨k,vs⟩ H nx ⟨h1,h2,g1,g2,g4,hmat⟩;dsimp only at h1 h2 g1 g2 g4 hmat ⊢;by_cases hk:k < X.length
 rotate_left
 ·obtain rfl:k=X.length:=by omega
  have hst:Snap (ao H 1 [.int .i64 X.length,.msl 3 Y.length 1 0 Y.length]) (.msl 3 Y.length 1 0 Y.length) (co (gf X Y)):=(hmat.same (hi':=nx) (G:=fo X Y X.length) (ah (by omega)) (fun x x1 x2 x3=>ah (by omega)) (aO _) (fun j _=>rfl)).snap;clear zz;have zz:=aI @g4 @g1; repeat' (first|refine zW ?_|apply a_n|apply a_x|refine zO ?_|refine vY ?_|refine stY ?_|(refine zGY ?_ ?_ <;> (intro _hg; try (exfalso; omega)))|refine ak rfl ?_|refine r2Y ?_|fail)
  exact iU hst rfl
 have ix:=fC hk;have hsim:=hXm _ (a7 hk);have hF:∀ i,fo X Y (k + 1) i=fo X Y k i ++ if Y.getD i default ∈ dj (X.getD k default) then [k] else []:=fun i=>Aq
 generalize X.getD k default=s at *;obtain ⟨p1,p2,p3,p4⟩:=cg hsim;clear zz;have zz:=@ix; repeat' (first|refine zW ?_|apply a_n|refine zO ?_|refine vY ?_|refine alY ?_|refine stY ?_|(refine zGY ?_ ?_ <;> (intro _hg; try (exfalso; omega)))|fail)
 refine aF ev0 ev0 (An s _ _) ?_;rintro _ H1 nx1 ⟨rfl,rfl,rfl⟩
 repeat' (first|refine zW ?_|apply a_n|refine zO ?_|fail)
 refine oG (nx + 2) (nx + 3) rfl rfl ev0 (fun c0 cj hy=>?_);refine Abs.Fn.mono (z6 (nx:=nx + 3) (y:=nx + 2) (sb:=nx + 1) (s:=s) (by omega) (fun D H' nx'=>nx + 3 ≤ nx'∧H' (nx + 1)=some [ar s]∧H' (nx + 2)=some [c0]∧H' nx=some [.int .i64 (k:Int)]∧H' 1=some [.int .i64 0,.esl]∧H' 2=some [aE Y]∧H' 4=some [.int .i64 X.length,.msl 3 Y.length 1 0 Y.length]∧∃ vs,MatOk H' 3 5 nx' Y.length (fun i=>fo X Y k i ++ if Y.getD i default ∈ D then [k] else []) vs∧∀ j B,j < Y.length→dB (vs.getD j .undef)=some B→B < nx ∨ nx + 3 ≤ B) ?_ ?_ ?_ ?_) ?_
 ·rintro D H' nx' ⟨j1,j2,_⟩;exact j2
 ·rintro D H' H'' n1 n2 ⟨j1,j2,j3,j4,j5,j6,j7,vs,j8,j9⟩ hle hsm;exact ⟨by omega,(hsm _ (by omega)).trans j2,(hsm _ (by omega)).trans j3,(hsm _ (by omega)).trans j4,(hsm _ (by omega)).trans j5,(hsm _ (by omega)).trans j6,(hsm _ (by omega)).trans j7,vs,j8.same (hsm _ (by omega)) (fun x x1 x2 x3=>hsm x x2) hle (fun _ _=>rfl),j9⟩
 ·rintro D f H' nx' ⟨j1,j2,j3,j4,j5,j6,j7,vs,j8,j9⟩ hlt hfe hDe;refine hy _ _ _ _ j3 rfl ?_;clear zz;clear hy;have hfm:f ∈ fcs s:=by rw [hfe]; exact a7 hlt
  have hfD:f ∉ D:=fun h=>by
   rw [hDe] at h;have hnd:=AQ p3;have e:=bW hlt;have h5:=(yo.1 (by rw [← e]; exact hnd.sublist (List.take_sublist _ _):((fcs s).take D.length ++ [(fcs s).getD D.length default]).Nodup)).2.2 _ h _ (fV.2 rfl);exact h5 hfe
  have hfs:=qP.1 (zq.1 hfm);have hfn:Shn f:=by show _ ≤ _; omega
  clear hfe hDe hlt hfm
  repeat' (first|apply a_n|refine zO ?_|refine vY ?_|fail)
  refine ⟨j3,?_⟩;have hd:∀ x,x ≠ nx + 2→cw H' (nx + 2) x=H' x:=fun x hx=>dX hx;generalize cw H' (nx + 2)=H2 at *;have q2:=(hd 2 (by omega)).trans j6;have q3:=(hd 3 (by omega)).trans j8.box;have q4:=(hd 4 (by omega)).trans j7;have qk:=(hd nx (by omega)).trans j4;obtain ⟨p,hpl,hpm⟩:=BP Y f (show _ ≤ _ by omega) hYm hfn hYa;by_cases hin:f ∈ Y
  rotate_left
  ·rw [bq hin] at hpl;have zz:=aI @q2 (aI @aD @au); repeat' (first|refine zW ?_|apply a_n|refine zO ?_|refine vY ?_|refine cY ?_ (hp:=hpl) (hs:=by (first | refine af ?_ rfl | apply ag); (repeat' (first | exact ae | apply am | apply ai | exact bi _ | exact aA _)); first | done | fail)|refine cFY ?_|fail)
   refine ⟨rfl,j1,(ah (by omega)).trans ((hd _ (by omega)).trans j2),aj,(ah (by omega)).trans qk,(ah (by omega)).trans ((hd _ (by omega)).trans j5),(ah (by omega)).trans q2,(ah (by omega)).trans q4,vs,j8.same ((ah (by omega)).trans (hd _ (by omega))) (fun x x1 x2 x3=>?_) (aO _) (fun j hj=>?_),j9⟩
   ·by_cases e:x=nx + 2
    ·rw [e,aj,j3]
    ·rw [ah e,hd x e]
   ·have hne:Y.getD j default ≠ f:=fun e=>hin (by rw [← e]; exact a7 hj)
    congr 1
    exact uO (by rw [iH,fV]; exact ⟨fun h=>h.resolve_right hne,.inl⟩)
  rw [bk hin] at hpl;obtain ⟨pl1,pl2⟩:=hpm hin;have hFD:fo X Y k p ++ (if Y.getD p default ∈ D then [k] else [])=fo X Y k p:=by rw [pl2,if_neg hfD,iJ]
  have hrow:Row H2 1 (vs.getD p .undef) ((fo X Y k p).map xK):=by
   have:=j8.row p pl1;rw [hFD] at this;exact this.same fun b hb=>hd b (by have:=j9 p b pl1 hb; omega)
  have hvs:vs[p]?=some (vs.getD p .undef):=by
   have:=j8.len;simp [List.getD,show p < vs.length by omega]
  have hlen:=j8.len
  have hb3:∀ b,dB (vs.getD p .undef)=some b→5 ≤ b∧b < nx'∧b ≠ 3∧(b < nx ∨ nx + 3 ≤ b):=fun b hb=>by
   have h5:=j8.bnd p b pl1 hb;have h6:=j9 p b pl1 hb;exact ⟨h5.1,h5.2.1,h5.2.2,h6⟩
  generalize hrv:vs.getD p .undef=rv at *;have zz:=aI @q2 (aI @aD @au); repeat' (first|refine zW ?_|apply a_n|refine zO ?_|refine vY ?_|refine cY ?_ (hp:=hpl) (hs:=by (first | refine af ?_ rfl | apply ag); (repeat' (first | exact ae | apply am | apply ai | exact bi _ | exact aA _)); first | done | fail)|refine cTY ?_|fail)
  refine FU 4 3 nx q4 q3 qk (by omega) (by omega) (by omega) fun S0 hS1 hS2 hS3 hsub=>?_;have hFl:=vn (X:=X) (Y:=Y) (n:=k) (i:=p);clear zz;have zz:=aI @hS1 (aI @hS2 (aI @hS3 (aI @hvs @hlen))); repeat' (first|apply a_n|refine zO ?_|refine nvY ?_|fail)
  refine ir ?_
  repeat' (first|apply a_n|refine zO ?_|refine blY ?_|fail)
  refine ⟨hsub _ (by rw [ah (by omega)]; exact q4) (by rw [ah (by omega)]; exact q3) (by rw [ah (by omega)]; exact qk),?_⟩;refine ir ?_;refine jb rfl ev0 (hrow.same fun b hb=>?_) ev0 fl rfl rfl mi (by rw [cr]; omega) (by rw [cr]; omega) ?_
  ·have:=hb3 b hb; rw [ah (by omega)]
  rintro s2 H4 nx4 hr2 i1 i2 i3 i4;have lo:∀ x,x < nx'→dB rv ≠ some x→H4 x=H2 x:=fun x x1 x2=>(i3 x (by omega) x2).trans (ah (by omega));have l3:H4 3=H2 3:=lo 3 (by omega) (fun h=>by have:=hb3 _ h; omega);have l4:H4 4=H2 4:=lo 4 (by omega) (fun h=>by have:=hb3 _ h; omega);have lk:H4 nx=H2 nx:=lo nx (by omega) (fun h=>by have:=hb3 _ h; omega);have lo2:∀ x,x < nx + 3→5 ≤ x→nx ≤ x→H4 x=H2 x:=fun x x1 x2 x3=>lo x (by omega) (fun h=>by have:=hb3 _ h; omega);have lo5:∀ x,x < 5→H4 x=H2 x:=fun x x1=>lo x (by omega) (fun h=>by have:=hb3 _ h; omega);obtain ⟨o1,o2⟩:=hr2.one;have m3:=l3.trans q3;refine px ⟨hsub _ (l4.trans q4) m3 (lk.trans qk),?_⟩
  have hlp:bu vs p [s2]=vs.set p s2:=by
   simp only [bu,cS,ew,b0];rw [B2,if_pos (by omega)]; simp
  clear zz;have zz:=aI @m3 (aI @o1 (aI @o2 (aI @hlen @hlp))); repeat' (first|apply a_n|refine zO ?_|refine nvY ?_|apply jY|refine stY ?_|fail)
  have hB2:∀ b,dB s2=some b→(dB rv=some b ∨ nx' ≤ b)∧b < nx4:=fun b hb=>by
   rcases i4 b hb with h | h
   ·exact ⟨.inl h,by have:=hb3 b h; omega⟩
   ·exact ⟨.inr (by omega),by omega⟩
  have hwd:∀ x,x ≠ 3→x ≠ nx + 2→ao (ao H4 3 (vs.set p s2)) (nx + 2) [c0] x=H4 x:=fun x x1 x2=>by rw [ah x2,ah x1]
  rw [hlp];refine ⟨rfl,by omega,?_,aj,?_,?_,?_,?_,vs.set p s2,?_,?_⟩
  ·rw [hwd _ (by omega) (by omega),lo2 _ (by omega) (by omega) (by omega),hd _ (by omega)]; exact j2
  ·rw [hwd _ (by omega) (by omega),lk]; exact qk
  ·rw [hwd _ (by omega) (by omega),lo5 _ (by omega),hd _ (by omega)]; exact j5
  ·rw [hwd _ (by omega) (by omega),lo5 _ (by omega)]; exact q2
  ·rw [hwd _ (by omega) (by omega),l4]; exact q4
  ·refine j8.put (sv:=s2) (x:=k) (i:=p) pl1 (fun j hj=>?_) ?_ (fun b hb=>?_) (by rw [ah (by omega),aj]) (fun x x1 x2 x3 x4=>?_) (by omega) (by omega)
   ·by_cases e:j=p
    ·subst e;rw [if_pos rfl,pl2,if_neg hfD,if_pos (so _ (fV.2 rfl)),iJ]
    ·rw [if_neg e]
     have hne:Y.getD j default ≠ f:=fun h=>e (by
      rcases rh j p with h' | h' | h'
      ·have:=cE hYa h' pl1;rw [h,pl2,dN] at this; omega
      ·exact h'
      ·have:=cE hYa h' hj;rw [h,pl2,dN] at this; omega)
     congr 1
     exact uO (by rw [iH,fV]; exact ⟨fun h=>h.resolve_right hne,.inl⟩)
   ·rw [hFD,f9];refine hr2.same fun b hb=>hwd b ?_ ?_
    ·have:=hB2 b hb;rcases this.1 with h | h
     ·have:=hb3 b h; omega
     ·omega
    ·have:=hB2 b hb;rcases this.1 with h | h
     ·have:=hb3 b h; omega
     ·omega
   ·rw [hrv];have:=hB2 b hb;rcases this.1 with h | h
    ·exact .inl h
    ·exact .inr ⟨h,this.2,by omega⟩
   ·rw [hrv] at x4;by_cases e:x=nx + 2
    ·rw [e,aj,j3]
    ·rw [hwd x x3 e,lo x x2 x4,hd x e]
  ·intro j B hj hB;rw [oZ (by omega)] at hB;by_cases e:p=j
   ·rw [if_pos e] at hB;have:=hB2 B hB;rcases this.1 with h | h
    ·have:=hb3 B h; omega
    ·omega
   ·rw [if_neg e] at hB;exact j9 j B hj hB
 ·have hlk:bu [AV.int .i64 0] 0 [.int .i64 (k:Int)]=[.int .i64 (k:Int)]:=rfl;have hw:∀ x,x ≠ nx→x ≠ nx + 1→x ≠ nx + 2→ao (ao (ao (ao H nx [.int .i64 0]) nx (bu [.int .i64 0] 0 [.int .i64 (k:Int)])) (nx + 1) [ar s]) (nx + 2) [c0] x=H x:=fun x x1 x2 x3=>by rw [ah x3,ah x2,ah x1,ah x1]
  refine ⟨aO _,by rw [ah (by omega),aj],aj,by rw [ah (by omega),ah (by omega),aj]; rfl,(hw _ (by omega) (by omega) (by omega)).trans g1,(hw _ (by omega) (by omega) (by omega)).trans g2,(hw _ (by omega) (by omega) (by omega)).trans g4,vs,hmat.same (hw _ (by omega) (by omega) (by omega)) (fun x x1 x2 x3=>hw x (by omega) (by omega) (by omega)) (by omega) (fun j _=>by simp),fun j B hj hB=>by have:=hmat.bnd j B hj hB; omega⟩
 ·rintro r H' nx' ⟨j1,j2,j3,j4,j5,j6,j7,vs2,j8,j9⟩;refine .inl ⟨j3,?_⟩
  repeat' (first|apply a_n|refine zO ?_|refine vY ?_|fail)
  refine ⟨(k + 1,vs2),by dsimp only; omega,⟨by dsimp only; omega,by omega,(dX (by omega)).trans j5,(dX (by omega)).trans j6,(dX (by omega)).trans j7,?_⟩,ag0⟩;dsimp only
  have hrows:∀ j,j < Y.length→fo X Y (k + 1) j=fo X Y k j ++ if Y.getD j default ∈ fcs s then [k] else []:=fun j _=>by
   rw [hF]; congr 1; exact uO zq.symm
  exact ⟨(dX (by omega)).trans j8.box,j8.len,fun j hj=>by rw [hrows j hj]; exact (j8.row j hj).same fun b hb=>dX (by have:=j9 j b hj hb; omega),fun j B hj hB=>by have:=j8.bnd j B hj hB; exact this,j8.apart⟩
structure PairV where
 a:List Spx
 b:List Spx
 d:Int
theorem y9 {m:MapV} (h1:m.fr.length ≤ 4096) (h2:m.to.length=m.fr.length) (h3:cb bE m.fr) (h4:∀ v ∈ m.fr,b9 v=true) (h5:∀ v ∈ m.to,b9 v=true):eb m=0:=by
 unfold eb;rw [if_neg (by omega),if_neg (by omega)];refine dx fun k hk=>?_;unfold vI;rw [if_neg,if_neg]
 ·rintro ⟨a,b⟩;have:=cE h3 (i:=k - 1) (j:=k) (by omega) hk;omega
 ·rintro (h | h)
  ·rw [h4 _ (a7 hk)] at h; cases h
  ·rw [h5 _ (a7 (by omega))] at h; cases h
def nH (c:List Spx):Spx:=fM bE c.flatten
theorem lI {c:List Spx} {v:Vtx}:v ∈ nH c ↔ ∃ s ∈ c,v ∈ s:=by
 unfold nH; rw [eu,List.mem_flatten]
theorem rM:∀ {l:List Spx},(∀ s ∈ l,s.length ≤ 8)→l.flatten.length ≤ 8 * l.length
 | [],_=>by simp
 | s :: l,h=>by
  rw [List.flatten_cons,dl,cS];have:=h s ko;have:=rM (l:=l) fun t ht=>h t (rO _ ht);omega
theorem kA:∀ {b a:Spx},cb bE b→cb bE a→(∀ v ∈ a,v ∈ b)→a.Sublist b
 | _,[],_,_,_=>List.nil_sublist _
 | [],x :: a,_,_,h=>by cases h x ko
 | y :: b,x :: a,hb,ha,h=>by
  obtain ⟨a1,a2⟩:=ml.1 ha;obtain ⟨b1,b2⟩:=ml.1 hb;have irr:=fun v=>gn.ord.irr v;by_cases e:x=y
  ·subst e;refine (kA b2 a2 fun v hv=>?_).cons_cons x;rcases e9.1 (h v (rO _ hv)) with rfl | q
   ·exact absurd (a1 v hv) (irr v)
   ·exact q
  ·have hx:=(e9.1 (h x ko)).resolve_left e;have hyx:=b1 x hx;refine (kA b2 ha fun v hv=>?_).cons y;rcases e9.1 (h v hv) with rfl | q
   ·rcases e9.1 hv with rfl | q2
    ·exact absurd rfl e
    ·exact absurd hyx (gn.ord.asym _ _ (a1 v q2))
   ·exact q
theorem sL {m n:MapV} {v:Vtx} (hm:m.to.length=m.fr.length) (hv:v ∈ m.fr):dI ⟨m.fr,m.to.map (dI n)⟩ v=dI n (dI m v):=by
 have hi:m.fr.idxOf v < m.to.length:=by rw [hm]; exact List.idxOf_lt_length_of_mem hv
 show (m.to.map (dI n)).getD (m.fr.idxOf v) default=dI n (m.to.getD (m.fr.idxOf v) default);simp [List.getD,hi]
theorem xb {m n:MapV} {l:Spx} (hm:m.to.length=m.fr.length) (ht:∀ v ∈ l,v ∈ m.fr):bc ⟨m.fr,m.to.map (dI n)⟩ l=bc n (bc m l):=by
 refine fh gn eS eS fun w=>?_;rw [cP,cP];constructor
 ·rintro ⟨v,v1,rfl⟩;exact ⟨dI m v,cP.2 ⟨v,v1,rfl⟩,(sL hm (ht v v1)).symm⟩
 ·rintro ⟨u,u1,rfl⟩;obtain ⟨v,v1,rfl⟩:=cP.1 u1;exact ⟨v,v1,sL hm (ht v v1)⟩
theorem Ds {L:List Spx} (h8:∀ s ∈ L,s.length ≤ 8) {n:MapV}:dE ((dE L).map (bc n))=dE (L.map (bc n)):=by
 have hYX:∀ s ∈ (dE L).map (bc n),s ∈ L.map (bc n):=fun s hs=>by
  obtain ⟨t,t1,rfl⟩:=cL.1 hs;exact cL.2 ⟨t,mX t1,rfl⟩
 have hXY:∀ s ∈ L.map (bc n),∃ y ∈ (dE L).map (bc n),∀ v ∈ s,v ∈ y:=fun s hs=>by
  obtain ⟨t,t1,rfl⟩:=cL.1 hs;obtain ⟨u,u1,u2⟩:=mc h8 8 t t1 (by omega);exact ⟨_,cL.2 ⟨u,u1,rfl⟩,yP u2⟩
 have hasc:∀ s ∈ L.map (bc n),cb bE s:=fun s hs=>by
  obtain ⟨t,t1,rfl⟩:=cL.1 hs;exact eS
 generalize (dE L).map (bc n)=Y at *;generalize L.map (bc n)=X at *;refine fh jT qw qw fun s=>?_;rw [lg,lg];constructor
 ·rintro ⟨h1,h2⟩;refine ⟨hYX s h1,?_⟩;rw [← Bool.not_eq_true] at h2 ⊢;refine fun h=>h2 ?_;obtain ⟨t,t1,t2,t3⟩:=ca.1 h;obtain ⟨y,y1,y2⟩:=hXY t t1;refine ca.2 ⟨y,y1,?_,fun v hv=>y2 v (t3 v hv)⟩;by_cases e:t=y
  ·rw [← e]; exact t2
  ·exact Nat.lt_trans t2 (xy (hasc t t1) (hasc y (hYX y y1)) y2 e)
 ·rintro ⟨h1,h2⟩;rw [← Bool.not_eq_true] at h2;obtain ⟨y,y1,y2⟩:=hXY s h1;by_cases e:s=y
  ·subst e;refine ⟨y1,?_⟩;rw [← Bool.not_eq_true];refine fun h=>h2 ?_;obtain ⟨t,t1,t2⟩:=ca.1 h;exact ca.2 ⟨t,hYX t t1,t2⟩
  ·exact absurd (ca.2 ⟨y,hYX y y1,xy (hasc s h1) (hasc y (hYX y y1)) y2 e,y2⟩) h2
theorem qz {m:MapV} {A:List Spx} {k:Nat} {s:Spx} (hA:aH A=0) (hone:aH (dE (A.map (bc m)))=0) (hs:s ∈ dp A k) (hl:(bc m s).length=k):bc m s ∈ dp (dE (A.map (bc m))) k:=by
 obtain ⟨t,t1,t2⟩:=gx.1 hs;have h:=oA (m:=m) hA t1 (y:=s) fun v hv=>(bP.1 t2).1.subset hv;obtain ⟨u,u1,u2⟩:=kY.1 h;exact gx.2 ⟨u,u1,bP.2 ⟨kA (cg ((cA hone).2.1 u u1)).2.2.1 eS (dR.1 u2),hl⟩⟩
theorem Ac {m n g:MapV} {A:List Spx} {k:Nat} {X2:List Spx} (hA:aH A=0) (hone:aH (dE (A.map (bc m)))=0) (hg:∀ s ∈ dp A k,bc g s=bc n (bc m s)) (h2:∀ s ∈ X2,s.length=k) :
    (cV n (dp (dE (A.map (bc m))) k) X2).map (cJ (cV m (dp A k) (dp (dE (A.map (bc m))) k)))=cV g (dp A k) X2:=by
 have hface:=fun {s:Spx}=>qz (m:=m) (A:=A) (k:=k) (s:=s) hA hone
 have h0:∀ s ∈ dp A k,s.length=k:=fun s hs=>by
  obtain ⟨t,t1,t2⟩:=gx.1 hs;exact (bP.1 t2).2
 have hnd:(dp (dE (A.map (bc m))) k).Nodup:=kI.nodup jT;generalize dp (dE (A.map (bc m))) k=X1 at *;generalize dp A k=X0 at *
 conv=>lhs; arg 2; unfold cV
 conv=>rhs; unfold cV
 rw [List.map_map];refine uN fun i hi=>?_;have hi:=ju.1 hi;show cJ _ (cp (eJ n X1 X2 X1.length i))=_
 have hmem:∀ j,j ∈ eJ n X1 X2 X1.length i ↔ j < X1.length∧bc n (X1.getD j default)=X2.getD i default:=fun j=>by
  unfold eJ;simp only [fZ,ju,fN]
 have hln:(eJ n X1 X2 X1.length i).Nodup:=by
  unfold eJ;exact List.nodup_range.sublist p9
 obtain ⟨r1,r2⟩:=tB (m:=m) (X0:=X0) hnd hln (fun j hj=>((hmem j).1 hj).1) _ (aO _);rw [List.take_length] at r1 r2;refine sQ r1 qH fun x=>?_;rw [r2,rR];refine exists_congr fun s=>and_congr_right fun _=>and_congr_right fun hs=>?_;rw [hg _ (aB hs)];have hs0:=h0 _ (aB hs);have hsf:=hface (aB hs);generalize X0.getD s default=t at *;constructor
 ·rintro ⟨j,j1,j2⟩;rw [j2]; exact ((hmem j).1 j1).2
 ·intro h
  have hlen:(bc m t).length=k:=by
   have q1:=gX (m:=m) (l:=t);have q2:=gX (m:=n) (l:=bc m t);rw [h,h2 _ (aB hi)] at q2;omega
  obtain ⟨j,j1,j2⟩:=jp (hsf hlen);have j3:X1.getD j default=bc m t:=by simp [List.getD,j1,j2]
  exact ⟨j,(hmem j).2 ⟨j1,by rw [j3]; exact h⟩,j3.symm⟩
theorem me {m:MapV} {a b:List Spx} {d:Int} (h:eU m a b=(true,0)) (hd:0 ≤ d∧d < 8):ez m a b d=(((((dp a (d + 1).toNat).length:Nat):Int),cV m (dp a (d + 1).toNat) (dp b (d + 1).toNat)),0):=by
 unfold ez;rw [h,if_neg (fun h=>h rfl),if_neg (by decide),if_neg (by omega)]
theorem kV {m:MapV} {c:List Spx} (hm:eb m=0) (hc:aH c=0) (ht:c.all (ci m)=true):im m c=(dE (c.map (bc m)),0):=by
 unfold im;rw [if_neg (fun h=>h hm),if_neg (fun h=>h hc),if_neg (by rw [ht]; decide)]
theorem vO {m n:MapV} (hm:eb m=0) (hn:eb n=0) (ht:ci n m.to=true):io m n=(⟨m.fr,m.to.map (dI n)⟩,0)∧eb ⟨m.fr,m.to.map (dI n)⟩=0:=by
 obtain ⟨p1,p2,p3,p4,p5⟩:=fT hm;obtain ⟨q1,q2,q3,q4,q5⟩:=fT hn;refine ⟨?_,y9 p1 (by rw [cr]; exact p2) p3 p4 fun v hv=>?_⟩
 ·unfold io;rw [if_neg (fun h=>h hm),if_neg (fun h=>h hn),if_neg (by rw [ht]; decide)]
 ·obtain ⟨u,u1,rfl⟩:=cL.1 hv;exact q5 _ (rt q2 (cC.1 ht u u1))
theorem sI {m n:MapV} {A:List Spx} (hm:eb m=0) (hn:eb n=0) (hA:aH A=0) (htn:ci n m.to=true) (htA:A.all (ci m)=true) :
    ∃ g:MapV,io m n=(g,0)∧eb g=0∧g.fr.length=m.fr.length∧g.to.length=m.to.length∧∃ one two,im m A=(one,0)∧im n one=(two,0)∧im g A=(two,0)∧aH one=0∧aH two=0∧one.length ≤ A.length∧two.length ≤ A.length ∧
     ∀ d:Int,0 ≤ d→d ≤ 3→∃ X0 X1 X2:List Spx,X0.length ≤ X0.length∧ez m A one d=((((X0.length:Nat):Int),cV m X0 X1),0)∧ez n one two d=((((X1.length:Nat):Int),cV n X1 X2),0)∧ez g A two d=((((X0.length:Nat):Int),cV g X0 X2),0)∧(cV n X1 X2).map (cJ (cV m X0 X1))=cV g X0 X2∧X0=dp A (d + 1).toNat∧X1=dp one (d + 1).toNat∧X2=dp two (d + 1).toNat:=by
 obtain ⟨c1,c2⟩:=vO hm hn htn;obtain ⟨p1,p2,p3,p4,p5⟩:=fT hm;obtain ⟨i1,i2⟩:=iq hm hA htA;have hone:=nL (l:=A.map (bc m))
 have hsub:∀ s ∈ dE (A.map (bc m)),ci n s=true:=fun s hs=>by
  obtain ⟨t,t1,rfl⟩:=cL.1 (mX hs);refine cC.2 fun w hw=>?_;obtain ⟨v,v1,rfl⟩:=cP.1 hw;exact cC.1 htn _ (rt p2 (cC.1 (dL.1 htA t t1) v v1))
 have htone:(dE (A.map (bc m))).all (ci n)=true:=dL.2 hsub;have htg:A.all (ci ⟨m.fr,m.to.map (dI n)⟩)=true:=dL.2 fun s hs=>cC.2 fun v hv=>cC.1 (dL.1 htA s hs) v hv;obtain ⟨j1,j2⟩:=iq hn i2 htone;obtain ⟨k1,k2⟩:=iq c2 hA htg;have htwo:=nL (l:=(dE (A.map (bc m))).map (bc n));have hA8:=(cA hA).2.1
 have heq:dE ((dE (A.map (bc m))).map (bc n))=dE (A.map (bc ⟨m.fr,m.to.map (dI n)⟩)):=by
  rw [Ds (L:=A.map (bc m)) (fun s hs=>by
   obtain ⟨t,t1,rfl⟩:=cL.1 hs;exact eX gX (cg (hA8 t t1)).2.1),List.map_map]
  congr 1
  refine uN fun s hs=>?_;exact (xb p2 (cC.1 (dL.1 htA s hs))).symm
 refine ⟨⟨m.fr,m.to.map (dI n)⟩,c1,c2,rfl,by simp,_,_,kV hm hA htA,kV hn i2 htone,?_,i2,j2,by simpa using hone,?_,fun d h1 h2=>⟨_,_,_,aO _,me i1 ⟨h1,by omega⟩,me j1 ⟨h1,by omega⟩,?_,?_,rfl,rfl,rfl⟩⟩
 ·rw [kV c2 hA htg,heq]
 ·rw [cr] at htwo hone; omega
 ·rw [heq]; exact me k1 ⟨h1,by omega⟩
 ·refine Ac hA i2 (fun s hs=>?_) (fun s hs=>?_)
  ·obtain ⟨t,t1,t2⟩:=gx.1 hs;exact xb p2 fun v hv=>cC.1 (dL.1 htA t t1) v ((bP.1 t2).1.subset hv)
  ·obtain ⟨t,t1,t2⟩:=gx.1 hs;exact (bP.1 t2).2
theorem sT {S:List (List Int)} {g:Nat→List Nat} (hg:∀ j,j < S.length→S.getD j default=cp (g j)∧(g j).Pairwise (· < ·)) {l:List Nat} (hb:∀ j ∈ l,j < S.length):∀ k,k ≤ l.length→mj (cJ S (cp (l.take k)))∧(∀ x ∈ cJ S (cp (l.take k)),∃ n:Nat,x=n)∧∀ x:Nat,(x:Int) ∈ cJ S (cp (l.take k)) ↔ ((l.take k).filter fun j=>decide (x ∈ g j)).length % 2=1
 | 0,_=>⟨sH,fun x h=>(by cases h),fun x=>⟨fun h=>(by cases h),fun h=>absurd h (by simp)⟩⟩
 | k + 1,hk=>by
  obtain ⟨h1,h0,h2⟩:=sT hg hb k (by omega);rw [bW (by omega)];have hj:=hb _ (aB (l:=l) (k:=k) (by omega));generalize l.getD k default=j at *;obtain ⟨e1,e2⟩:=hg j hj;rw [show cp (l.take k ++ [j])=cp (l.take k) ++ [(j:Int)] by unfold cp; simp,ms,bz,e1];obtain ⟨h3,h4⟩:=kX _ _ _ (aO _) h1 (tJ e2);refine ⟨h3,fun x hx=>?_,fun x=>?_⟩
  ·rcases (h4 x).1 hx with ⟨q,_⟩ | ⟨q,_⟩
   ·exact h0 x q
   ·obtain ⟨n,_,e⟩:=CB.1 q;exact ⟨n,e.symm⟩
  ·rw [h4,h2,sZ,xB,dl];by_cases hx:x ∈ g j
   ·rw [uE (by simpa using hx)];simp only [hx,not_true_eq_false,and_false,true_and,false_or,List.filter_nil,cS,ew,b0];omega
   ·rw [vX (by simpa using hx)];simp only [hx,not_false_eq_true,and_true,false_and,or_false,List.filter_nil,ew,lL]
theorem nY {S:List (List Int)} {g:Nat→List Nat} (hg:∀ j,j < S.length→S.getD j default=cp (g j)∧(g j).Pairwise (· < ·)) {l:List Nat} (hb:∀ j ∈ l,j < S.length):mj (cJ S (cp l))∧(∀ x ∈ cJ S (cp l),∃ n:Nat,x=n)∧∀ x:Nat,(x:Int) ∈ cJ S (cp l) ↔ (l.filter fun j=>decide (x ∈ g j)).length % 2=1:=by
 have:=sT hg hb l.length (aO _)
 rwa [List.take_length] at this
theorem kR {p:Nat}:∀ {L:List Nat},L.Nodup→(L.filter fun j=>decide (j=p)).length=if p ∈ L then 1 else 0
 | [],_=>rfl
 | a :: L,hnd=>by
  obtain ⟨n1,n2⟩:=List.nodup_cons.1 hnd;by_cases e:a=p
  ·subst e;rw [uE (by simp),cS,kR n2,if_neg n1,if_pos ko]
  ·rw [vX (by simpa using e),kR n2];exact uO (by rw [e9]; exact ⟨.inr,fun h=>h.resolve_left fun q=>e q.symm⟩)
theorem qC:∀ (Y S:List Spx),S.Nodup→(Y.foldl fB S).Nodup∧∀ y,y ∈ Y.foldl fB S ↔ (S.count y + Y.count y) % 2=1
 | [],S,hS=>⟨hS,fun y=>by
  show y ∈ S ↔ _;rw [List.count_nil,lL];by_cases h:y ∈ S
  ·have h1:=List.count_pos_iff.2 h;have h2:=List.nodup_iff_count.1 hS y;exact ⟨fun _=>by omega,fun _=>h⟩
  ·rw [Br h]; exact ⟨fun q=>absurd q h,fun q=>absurd q (by decide)⟩⟩
 | z :: Y,S,hS=>by
  rw [List.foldl_cons]
  have hcount:∀ y,y ∈ fB S z ↔ (S.count y + if z=y then 1 else 0) % 2=1:=fun y=>by
   have h2:=List.nodup_iff_count.1 hS y;unfold fB;by_cases hz:z ∈ S
   ·rw [if_pos hz,hS.mem_erase_iff];by_cases e:z=y
    ·subst e;have h1:=List.count_pos_iff.2 hz;rw [if_pos rfl];exact ⟨fun q=>absurd rfl q.1,fun q=>by omega⟩
    ·rw [if_neg e,lL];by_cases h:y ∈ S
     ·have h1:=List.count_pos_iff.2 h;exact ⟨fun _=>by omega,fun _=>⟨fun q=>e q.symm,h⟩⟩
     ·rw [Br h]; exact ⟨fun q=>absurd q.2 h,fun q=>absurd q (by decide)⟩
   ·rw [if_neg hz,iH,fV];by_cases e:z=y
    ·subst e;rw [Br hz,if_pos rfl];exact ⟨fun _=>rfl,fun _=>.inr rfl⟩
    ·rw [if_neg e,lL];by_cases h:y ∈ S
     ·have h1:=List.count_pos_iff.2 h;exact ⟨fun _=>by omega,fun _=>.inl h⟩
     ·rw [Br h];exact ⟨fun q=>absurd (q.resolve_right fun q2=>e q2.symm) h,fun q=>absurd q (by decide)⟩
  have hnd:(fB S z).Nodup:=by
   unfold fB;by_cases hz:z ∈ S
   ·rw [if_pos hz]; exact hS.erase _
   ·rw [if_neg hz];exact yo.2 ⟨hS,by simp,fun a ha b hb e=>by rw [e,fV.1 hb] at ha; exact hz ha⟩
  obtain ⟨h1,h2⟩:=qC Y (fB S z) hnd;refine ⟨h1,fun y=>?_⟩;have h3:=List.nodup_iff_count.1 hnd y;rw [h2,List.count_cons]
  have h4:(fB S z).count y % 2=(S.count y + if z=y then 1 else 0) % 2:=by
   by_cases h:y ∈ fB S z
   ·have h5:=List.count_pos_iff.2 h;have:=(hcount y).1 h;omega
   ·rw [Br h];have:¬ (S.count y + if z=y then 1 else 0) % 2=1:=fun q=>h ((hcount y).2 q);omega
  have h6:(if (z == y)=true then 1 else 0)=if z=y then 1 else 0:=by
   by_cases e:z=y
   ·subst e; simp
   ·simp [e]
  rw [h6];omega
theorem wE {m:MapV} {s y:Spx} (hs:cb bE s) (h2:2 ≤ s.length) (hy:y.length=s.length - 1):((dj s).filter fun f=>decide (bc m f=y)).length % 2=1 ↔ (bc m s).length=s.length∧y ∈ dj (bc m s):=by
 have hf:dj s=bV s (s.length - 1):=by unfold dj; rw [if_neg (by omega)]
 have hcnt:((dj s).filter fun f=>decide (bc m f=y)).length=(((dj s).filter (dJ m)).map (bc m)).count y:=by
  rw [hf]
  have:∀ L:List Spx,(∀ f ∈ L,f.length=s.length - 1)→(L.filter fun f=>decide (bc m f=y)).length=((L.filter (dJ m)).map (bc m)).count y:=fun L hL=>by
   induction L with
   | nil=>rfl
   | cons f L ih =>
    have ih:=ih fun t ht=>hL t (rO _ ht);have hfl:=hL f ko;by_cases e:bc m f=y
    ·have hk:dJ m f=true:=by unfold dJ; rw [e]; exact bk (by omega)
     rw [uE (by simpa using e),uE hk,gv,cS,ih,e,List.count_cons_self]
    ·rw [vX (by simpa using e)];by_cases hk:dJ m f=true
     ·rw [uE hk,gv,List.count_cons_of_ne e,ih]
     ·rw [vX hk,ih]
  exact this _ fun f hf=>(bP.1 hf).2
 have hfold:=jP (m:=m) (L:=bV s (s.length - 1)) (S:=[]);have htog:=(qC (((bV s (s.length - 1)).filter (dJ m)).map (bc m)) [] List.nodup_nil).2 y;rw [← hfold,List.count_nil,b0] at htog;rw [hcnt,hf,← htog];by_cases hk:dJ m s=true
 ·have hfull:=(xO (m:=m) hs hk).2 y;have hle:=gX (m:=m) (l:=s);unfold dJ at hk;have hk:=o0 hk;rw [hfull];unfold dj;rw [if_neg (by omega)];exact ⟨fun h=>⟨by omega,h⟩,fun h=>h.2⟩
 ·have hk:dJ m s=false:=by simpa using hk
  rw [xG (m:=m) hs (fun e=>by rw [e] at h2; simp at h2) hk];unfold dJ at hk;have hk:=of_decide_eq_false hk;exact ⟨fun h=>(by cases h),fun h=>absurd h.1 (by omega)⟩
theorem Af {m:MapV} {X Y X1 Y1:List Spx} {k:Nat} (hk:1 ≤ k) (hX:∀ s ∈ X,cb bE s∧s.length=k + 1) (hY1l:∀ s ∈ Y1,s.length=k) (hYa:cb bJ Y) (hX1a:cb bJ X1)
    (hin:∀ s ∈ X,∀ f ∈ dj s,f ∈ Y) (himg:∀ s ∈ X,bc m s ∈ X1 ↔ (bc m s).length=k + 1) :
    (gf X1 Y1).map (cJ (cV m X X1))=(cV m Y Y1).map (cJ (gf X Y)):=by
 conv=>lhs; arg 2; unfold gf
 conv=>rhs; arg 2; unfold cV
 rw [List.map_map,List.map_map];refine uN fun i hi=>?_;have hi:=ju.1 hi;show cJ (cV m X X1) (cp (fo X1 Y1 X1.length i))=cJ (gf X Y) (cp (eJ m Y Y1 Y.length i));have hindA:∀ (X Y:List Spx) (n i:Nat),(eJ m X Y n i).Pairwise (· < ·):=fun X Y n i=>List.pairwise_lt_range.sublist p9
 have hindM:∀ (X Y:List Spx) (n i j:Nat),j ∈ eJ m X Y n i ↔ j < n∧bc m (X.getD j default)=Y.getD i default:=fun X Y n i j=>by
  unfold eJ;simp only [fZ,ju,fN]
 obtain ⟨l1,l2,l3⟩:=nY (S:=cV m X X1) (g:=fun j=>eJ m X X1 X.length j) (l:=fo X1 Y1 X1.length i) (fun j hj=>by
  rw [iC] at hj;exact ⟨wX hj,hindA _ _ _ _⟩) (fun j hj=>by rw [iC]; exact (gw.1 hj).1)
 obtain ⟨r1,r2,r3⟩:=nY (S:=gf X Y) (g:=fun j=>fo X Y X.length j) (l:=eJ m Y Y1 Y.length i) (fun j hj=>by
  rw [je] at hj;exact ⟨wS hj,mP⟩) (fun j hj=>by rw [je]; exact ((hindM _ _ _ _ _).1 hj).1)
 have key:∀ x:Nat,((fo X1 Y1 X1.length i).filter fun j=>decide (x ∈ eJ m X X1 X.length j)).length % 2=1 ↔ ((eJ m Y Y1 Y.length i).filter fun j=>decide (x ∈ fo X Y X.length j)).length % 2=1:=fun x=>by
  by_cases hx:x < X.length
  rotate_left
  ·rw [zX.2 (fun j _=>by rw [fN,hindM]; exact fun h=>hx h.1),zX.2 (fun j _=>by rw [fN,gw]; exact fun h=>hx h.1)]
  obtain ⟨s1,s2⟩:=hX _ (aB hx);have hfin:=hin _ (aB hx);have hsi:=himg _ (aB hx);have e1:((fo X1 Y1 X1.length i).filter fun j=>decide (x ∈ eJ m X X1 X.length j))=(fo X1 Y1 X1.length i).filter fun j=>decide (bc m (X.getD x default)=X1.getD j default):=List.filter_congr fun j _=>decide_eq_decide.2 (by rw [hindM]; exact ⟨fun h=>h.2,fun h=>⟨hx,h⟩⟩);have e2:((eJ m Y Y1 Y.length i).filter fun j=>decide (x ∈ fo X Y X.length j))=(eJ m Y Y1 Y.length i).filter fun j=>decide (Y.getD j default ∈ dj (X.getD x default)):=List.filter_congr fun j _=>decide_eq_decide.2 (by rw [gw]; exact ⟨fun h=>h.2,fun h=>⟨hx,h⟩⟩);rw [e1,e2];have hyl:=hY1l _ (aB hi);generalize X.getD x default=s at *;generalize hy:Y1.getD i default=y at *
  have hperm:(((eJ m Y Y1 Y.length i).filter fun j=>decide (Y.getD j default ∈ dj s)).map fun j=>Y.getD j default).Perm ((dj s).filter fun f=>decide (bc m f=y)):=by
   refine (List.perm_ext_iff_of_nodup ?_ ((nC s1).sublist p9)).2 fun f=>?_
   ·refine List.nodup_iff_pairwise_ne.2 ?_;rw [List.pairwise_map];refine List.Pairwise.imp_of_mem (fun {j j'} hj hj' hlt e=>?_) ((hindA Y Y1 Y.length i).sublist p9);have h3:=((hindM _ _ _ _ _).1 (fZ.1 hj').1).1;have:=cE hYa hlt h3;rw [e,dN] at this;omega
   ·rw [cL,fZ,fN];constructor
    ·rintro ⟨j,hj,rfl⟩;obtain ⟨h3,h4⟩:=fZ.1 hj;exact ⟨o0 h4,by rw [← hy]; exact ((hindM _ _ _ _ _).1 h3).2⟩
    ·rintro ⟨h3,h4⟩;obtain ⟨h5,h6⟩:=pb (hfin f h3);exact ⟨Y.idxOf f,fZ.2 ⟨(hindM _ _ _ _ _).2 ⟨h5,by rw [h6,hy]; exact h4⟩,bk (by rw [h6]; exact h3)⟩,h6⟩
  have hl:=hperm.length_eq;rw [cr] at hl;rw [hl,wE s1 (by omega) (by omega)];by_cases hmem:bc m s ∈ X1
  ·obtain ⟨h5,h6⟩:=pb hmem
   have hone:((fo X1 Y1 X1.length i).filter fun j=>decide (bc m s=X1.getD j default))=(fo X1 Y1 X1.length i).filter fun j=>decide (j=X1.idxOf (bc m s)):=List.filter_congr fun j hj=>decide_eq_decide.2 ⟨fun h=>by
    rw [h]; exact (AW (hX1a.nodup jT) (gw.1 hj).1).symm,fun h=>by rw [h,h6]⟩
   rw [hone]
   have hlen1:((fo X1 Y1 X1.length i).filter fun j=>decide (j=X1.idxOf (bc m s))).length=if X1.idxOf (bc m s) ∈ fo X1 Y1 X1.length i then 1 else 0:=by
    exact kR (wK (fun {a b} (h:a < b) e=>by omega) mP)
   rw [hlen1];have hb:=gw (X:=X1) (Y:=Y1) (n:=X1.length) (i:=i) (j:=X1.idxOf (bc m s));rw [h6,hy] at hb;have hlen2:=hsi.1 hmem;by_cases hf:y ∈ dj (bc m s)
   ·rw [if_pos (hb.2 ⟨h5,hf⟩)];exact ⟨fun _=>⟨by omega,hf⟩,fun _=>rfl⟩
   ·rw [if_neg (fun h=>hf (hb.1 h).2)];exact ⟨fun h=>absurd h (by decide),fun h=>absurd h.2 hf⟩
  ·rw [zX.2 (fun j hj=>by
     rw [fN];intro h;exact hmem (by rw [h]; exact a7 (gw.1 hj).1))]
   exact ⟨fun h=>absurd h (by decide),fun h=>absurd (hsi.2 (by omega)) hmem⟩
 refine sQ l1 r1 fun x=>?_;constructor
 ·intro hx;obtain ⟨n,rfl⟩:=l2 x hx;exact (r3 n).2 ((key n).1 ((l3 n).1 hx))
 ·intro hx;obtain ⟨n,rfl⟩:=r2 x hx;exact (l3 n).2 ((key n).2 ((r3 n).1 hx))
theorem fR {c:List Spx} (h:aH c=0):∀ t ∈ c,Shn t:=fun t ht=>by have:=(cg ((cA h).2.1 t ht)).2.1; show _ ≤ _; omega
def szS (c:List Spx):Nat→Int × Bool
 | 0=>(-1,true)
 | k + 1=>(if (szS c k).1 < ((c.getD k default).length:Int) - 1 then ((c.getD k default).length:Int) - 1 else (szS c k).1,(szS c k).2 && (decide (k=0) || decide (((c.getD k default).length:Int) - 1=(szS c k).1)))
theorem BW {c:List Spx}:∀ {k:Nat},∀ i,i < k→((c.getD i default).length:Int) - 1 ≤ (szS c k).1
 | 0,i,h=>absurd h (by omega)
 | k + 1,i,h=>by
  unfold szS;rcases gI.1 h with h | rfl
  ·have:=BW (c:=c) i h;dsimp only; split <;> omega
  ·dsimp only; split <;> omega
theorem Fa (c:List Spx) (hc:Shn c) (hs:∀ s ∈ c,Shn s):Pure Tryz.prog 21 [d9 c] (.tup [.int .i64 (szS c c.length).1,.bool (szS c c.length).2]):=by
 refine Pure.of_c2 follows HA (ba rfl) ?_;simp only [b21,aK];have hc':c.length ≤ 17592186044416:=hc;have zz:=aI @aD @au; repeat' (first|refine zW ?_|apply a_n|refine zO ?_|refine vY ?_|refine bxY ?_|fail)
 refine aZ (X:=Nat) (fun k=>[(1,.ptr 0 1 0),(4,.int .i64 (szS c k).1),(5,.bool (szS c k).2),(6,.int .i64 k)]) (fun k H nx=>k ≤ c.length∧H 0=some [aE c]) (fun k=>c.length - k) 0 ⟨cq _,aj⟩ (by (iterate 4 refine And.intro rfl ?_); trivial) ?_;rintro k H nx ⟨h1,g0⟩;by_cases hk:k < c.length
 rotate_left
 ·obtain rfl:k=c.length:=by omega
  clear zz;have zz:=aI @g0 @an; repeat' (first|refine zW ?_|apply a_n|apply a_x|refine zO ?_|refine vY ?_|(refine zGY ?_ ?_ <;> (intro _hg; try (exfalso; omega)))|refine ak rfl ?_|refine r2Y ?_|fail)
  exact eT (aw (.int _ _) (aw (.bool _) ae))
 have ix:=fC hk;have hsl:(c.getD k default).length ≤ 17592186044416:=hs _ (a7 hk);have e:szS c (k + 1)=(if (szS c k).1 < ((c.getD k default).length:Int) - 1 then ((c.getD k default).length:Int) - 1 else (szS c k).1,(szS c k).2 && (decide (k=0) || decide (((c.getD k default).length:Int) - 1=(szS c k).1))):=rfl;generalize c.getD k default=s at *;generalize szS c k=P at *;obtain ⟨m,p⟩:=P;dsimp only at e ⊢;by_cases hm:m < (s.length:Int) - 1
 ·have zm:decide (m < (s.length:Int) - 1)=true:=bk hm;rw [if_pos hm] at e;cases p
  ·rw [Bool.false_and] at e;clear zz;have zz:=aI @g0 (aI @ix (aI @an (aI @ap @zm))); repeat' (first|refine zW ?_|apply a_n|refine zO ?_|refine vY ?_|refine gFY ?_|refine cTY ?_|(refine zGY ?_ ?_ <;> (intro _hg; try (exfalso; omega)))|fail)
   exact ⟨k + 1,by omega,⟨by omega,g0⟩,by rw [e]; (iterate 4 refine And.intro rfl ?_); trivial⟩
  ·rw [Bool.true_and] at e;by_cases hk0:k=0
   ·have zk:decide ((k:Int)=0)=true:=bk (by omega);rw [bk hk0,Bool.true_or] at e;clear zz;have zz:=aI @g0 (aI @ix (aI @an (aI @ap (aI @zm @zk)))); repeat' (first|refine zW ?_|apply a_n|refine zO ?_|refine vY ?_|refine gTY ?_|refine gFY ?_|refine cTY ?_|(refine zGY ?_ ?_ <;> (intro _hg; try (exfalso; omega)))|fail)
    exact ⟨k + 1,by omega,⟨by omega,g0⟩,by rw [e]; (iterate 4 refine And.intro rfl ?_); trivial⟩
   ·have zk:decide ((k:Int)=0)=false:=bq (by omega);rw [bq hk0,Bool.false_or] at e;clear zz;have zz:=aI @g0 (aI @ix (aI @an (aI @ap (aI @zm @zk)))); repeat' (first|refine zW ?_|apply a_n|refine zO ?_|refine vY ?_|refine gTY ?_|refine cTY ?_|(refine zGY ?_ ?_ <;> (intro _hg; try (exfalso; omega)))|fail)
    exact ⟨k + 1,by omega,⟨by omega,g0⟩,by rw [e]; (iterate 4 refine And.intro rfl ?_); trivial⟩
 ·have zm:decide (m < (s.length:Int) - 1)=false:=bq hm;rw [if_neg hm] at e;cases p
  ·rw [Bool.false_and] at e;clear zz;have zz:=aI @g0 (aI @ix (aI @an (aI @ap @zm))); repeat' (first|refine zW ?_|apply a_n|refine zO ?_|refine vY ?_|refine gFY ?_|refine cFY ?_|(refine zGY ?_ ?_ <;> (intro _hg; try (exfalso; omega)))|fail)
   exact ⟨k + 1,by omega,⟨by omega,g0⟩,by rw [e]; (iterate 4 refine And.intro rfl ?_); trivial⟩
  ·rw [Bool.true_and] at e;by_cases hk0:k=0
   ·have zk:decide ((k:Int)=0)=true:=bk (by omega);rw [bk hk0,Bool.true_or] at e;clear zz;have zz:=aI @g0 (aI @ix (aI @an (aI @ap (aI @zm @zk)))); repeat' (first|refine zW ?_|apply a_n|refine zO ?_|refine vY ?_|refine gTY ?_|refine gFY ?_|refine cFY ?_|(refine zGY ?_ ?_ <;> (intro _hg; try (exfalso; omega)))|fail)
    exact ⟨k + 1,by omega,⟨by omega,g0⟩,by rw [e]; (iterate 4 refine And.intro rfl ?_); trivial⟩
   ·have zk:decide ((k:Int)=0)=false:=bq (by omega);rw [bq hk0,Bool.false_or] at e;clear zz;have zz:=aI @g0 (aI @ix (aI @an (aI @ap (aI @zm @zk)))); repeat' (first|refine zW ?_|apply a_n|refine zO ?_|refine vY ?_|refine gTY ?_|refine cFY ?_|(refine zGY ?_ ?_ <;> (intro _hg; try (exfalso; omega)))|fail)
    exact ⟨k + 1,by omega,⟨by omega,g0⟩,by rw [e]; (iterate 4 refine And.intro rfl ?_); trivial⟩
def BT (c:List Spx):Bool:=lv c && decide (aH c=0) && decide (c.length ≤ 12) && decide ((szS c c.length).1 ≤ 3)
theorem B9 {c:List Spx} (h:BT c=true):lv c=true∧aH c=0∧c.length ≤ 12∧∀ s ∈ c,s.length ≤ 4:=by
 unfold BT at h;simp only [eL,fN] at h;refine ⟨h.1.1.1,h.1.1.2,h.1.2,fun s hs=>?_⟩;obtain ⟨i,hi,e⟩:=jp hs;have:=BW (c:=c) i hi;rw [show c.getD i default=s by simp [List.getD,hi,e]] at this;omega
theorem E7 (c:List Spx) (hc:Shn c∧∀ s ∈ c,Shn s):Pure Tryz.prog 6 [d9 c] (.bool (BT c)):=by
 refine Pure.of_c2 follows is6 (ba rfl) ?_;simp only [b6,aK];have hc':c.length ≤ 17592186044416:=hc.1;have h1:=Fa c hc.1 hc.2;have h2:=CV c hc.1 hc.2;have h3:=C8 c hc.1 hc.2;unfold BT;generalize szS c c.length=P at *;obtain ⟨m,p⟩:=P;dsimp only at h1 ⊢;cases hf:lv c
 ·rw [hf] at h2;have zz:=aI @aD @au; repeat' (first|refine zW ?_|apply a_n|refine zO ?_|refine vY ?_|refine cY ?_ (hp:=by first | exact h1 | exact h2 | exact h3) (hs:=by (first | refine af ?_ rfl | apply ag); (repeat' (first | exact ae | apply am | apply ai | exact bm _)); first | done | fail)|refine bxY ?_|refine gFY ?_|refine ak rfl ?_|refine r1Y ?_|fail)
  exact .bool _
 rw [hf] at h2;by_cases he:aH c=0
 rotate_left
 ·have z:decide (aH c=0)=false:=bq he;rw [z];have zz:=aI @aD (aI @au @z); repeat' (first|refine zW ?_|apply a_n|refine zO ?_|refine vY ?_|refine cY ?_ (hp:=by first | exact h1 | exact h2 | exact h3) (hs:=by (first | refine af ?_ rfl | apply ag); (repeat' (first | exact ae | apply am | apply ai | exact bm _)); first | done | fail)|refine bxY ?_|refine gTY ?_|refine gFY ?_|refine ak rfl ?_|refine r1Y ?_|fail)
  exact .bool _
 rw [he] at h3;rw [bk he];have z0:decide ((0:Int)=0)=true:=rfl;by_cases hl:c.length ≤ 12
 rotate_left
 ·have z:decide ((c.length:Int) ≤ 12)=false:=bq (by omega);rw [bq hl];have zz:=aI @aD (aI @au (aI @an (aI @z @z0))); repeat' (first|refine zW ?_|apply a_n|refine zO ?_|refine vY ?_|refine cY ?_ (hp:=by first | exact h1 | exact h2 | exact h3) (hs:=by (first | refine af ?_ rfl | apply ag); (repeat' (first | exact ae | apply am | apply ai | exact bm _)); first | done | fail)|refine bxY ?_|refine gTY ?_|refine gFY ?_|(refine zGY ?_ ?_ <;> (intro _hg; try (exfalso; omega)))|refine ak rfl ?_|refine r1Y ?_|fail)
  exact .bool _
 have z:decide ((c.length:Int) ≤ 12)=true:=bk (by omega);rw [bk hl];have zz:=aI @aD (aI @au (aI @an (aI @z @z0))); repeat' (first|refine zW ?_|apply a_n|refine zO ?_|refine vY ?_|refine cY ?_ (hp:=by first | exact h1 | exact h2 | exact h3) (hs:=by (first | refine af ?_ rfl | apply ag); (repeat' (first | exact ae | apply am | apply ai | exact bm _)); first | done | fail)|refine bxY ?_|refine gTY ?_|(refine zGY ?_ ?_ <;> (intro _hg; try (exfalso; omega)))|refine ak rfl ?_|refine r1Y ?_|fail)
 exact bF (by simp)
def sE (l:List Nat):AV:=g9 1 (fun n:Nat=>AV.int .u8 (n:Int)) l
theorem wV (l:List Nat):Dat (sE l):=tH (fun _=>rfl) (fun _=>Dat.int)
instance datI_encU {l:List Nat}:DatI (sE l):=⟨wV l⟩
theorem mH {l:List Nat}:dK (sE l)=some (.int .i64 l.length):=mq
theorem ixU {l:List Nat} {k:Nat} (h:k < l.length):fg 1 (sE l) (.int .i64 (k:Int))=some (.iptr [.int .u8 ((l.getD k default:Nat):Int)] 0):=by
 unfold sE;rw [nP,if_pos ⟨by omega,by omega⟩,bz]; rfl
def nby (b:List Nat) (i:Nat):Nat:=if b.length=0 then 0 else b.getD (i % b.length) default
def vtN (n:Nat):Vtx:=⟨(n % 3:Nat),(n / 3 % 3:Nat)⟩
def toL (n:Nat) (b:List Nat):Spx:=(List.range n).map fun i=>vtN (nby b i)
theorem Ch {n:Nat} {b:List Nat}:toL (n + 1) b=toL n b ++ [vtN (nby b n)]:=by
 unfold toL; rw [List.range_succ,f9]; rfl
theorem yU {n:Nat} {b:List Nat}:(toL n b).length=n:=by unfold toL; simp
def eE (c:List Spx) (b:List Nat):MapV:=⟨nH c,toL (nH c).length b⟩
theorem mV {c:List Spx} {b:List Nat} (hc:aH c=0) (hl:c.length ≤ 30):eb (eE c b)=0:=by
 obtain ⟨c1,c2,c3,c4⟩:=cA hc
 have hV:(nH c).length ≤ 4096:=by
  have h1:=jn (K:=bE) (l:=c.flatten);have h2:=rM (l:=c) fun s h=>(cg (c2 s h)).2.1;unfold nH; omega
 refine y9 hV yU (gz gn _) (fun v hv=>?_) (fun v hv=>?_)
 ·obtain ⟨s,s1,s2⟩:=lI.1 hv;exact (cg (c2 s s1)).2.2.2 v s2
 ·unfold eE toL at hv;obtain ⟨i,_,rfl⟩:=cL.1 hv;unfold b9 vtN;have h1:nby b i % 3 < 3:=Nat.mod_lt _ (by omega);have h2:nby b i / 3 % 3 < 3:=Nat.mod_lt _ (by omega);simp only [eL,fN];omega
theorem xC {c:List Spx} {b:List Nat}:c.all (ci (eE c b))=true:=dL.2 fun s hs=>cC.2 fun v hv=>lI.2 ⟨s,hs,hv⟩
theorem Ag {c:List Spx} {b b2:List Nat} (hc:aH c=0) (hl:c.length ≤ 30):ci (eE (dE (c.map (bc (eE c b)))) b2) (eE c b).to=true:=by
 refine cC.2 fun w hw=>?_;have hm:=mV (b:=b) hc hl;obtain ⟨p1,p2,p3,p4,p5⟩:=fT hm;obtain ⟨i,hi,e⟩:=jp hw;have hif:i < (eE c b).fr.length:=by rw [← p2]; exact hi
 have hv:=aB hif
 have hidx:(eE c b).fr.idxOf ((eE c b).fr.getD i default)=i:=by
  have h1:=BE.2 hv;have h2:(eE c b).fr[(eE c b).fr.idxOf ((eE c b).fr.getD i default)]=(eE c b).fr[i]:=(List.getElem_idxOf h1).trans (by simp [List.getD,hif]);exact (List.getElem_inj (p3.nodup gn)).1 h2
 have hg:dI (eE c b) ((eE c b).fr.getD i default)=w:=by
  unfold dI;rw [hidx,← e];simp [List.getD,hi]
 obtain ⟨s,s1,s2⟩:=lI.1 hv;have hh:=oA (m:=eE c b) hc s1 (y:=s) fun v hv=>hv;obtain ⟨t,t1,t2⟩:=kY.1 hh;exact lI.2 ⟨t,t1,dR.1 t2 w (cP.2 ⟨_,s2,hg⟩)⟩
theorem CD (l m:List Int) (hl:l.length ≤ 1000000) (hm:m.length ≤ 1000000):Pure Tryz.prog 54 [cu l,cu m] (.bool (decide (l=m))):=by
 refine Pure.of_c2 follows Ik (ba rfl) ?_;simp only [b54,aK]
 repeat' (first|refine zW ?_|apply a_n|apply a_r|refine zO ?_|refine vZ ?_|(refine zGZ ?_ ?_ <;> (intro _hg; try (exfalso; omega)))|refine ak rfl ?_|refine r1Z ?_|fail)
 ·refine bF ?_
  symm; rw [decide_eq_false_iff_not]; rintro rfl; omega
 refine pD (X:=Nat) (fun k=>[(0,cu l),(1,cu m),(12,.int .i64 l.length),(13,.int .i64 k)]) (fun k=>k ≤ l.length∧∀ i,i < k→l.getD i default=m.getD i default) (fun k=>l.length - k) 0 ⟨cq _,by simp⟩ ag0 ?_;rintro k ⟨h1,h2⟩
 repeat' (first|refine zW ?_|apply a_n|apply a_x|apply a_r|refine zO ?_|refine vZ ?_|(refine zGZ ?_ ?_ <;> (intro _hg; try (exfalso; omega)))|refine ak rfl ?_|refine r1Z ?_|fail)
 ·refine bF ?_
  symm; rw [decide_eq_false_iff_not]; rintro rfl; exact absurd rfl ‹_›
 ·refine ⟨k + 1,⟨by omega,fun i hi=>?_⟩,by omega,ag0,rfl,rfl⟩;rcases gI.1 hi with h | rfl
  ·exact h2 i h
  ·omega
 ·refine bF ?_
  symm; rw [ux]
  refine List.ext_getElem (by omega) (fun i h3 h4=>?_);have:=h2 i (by omega);simpa [List.getD,h3,h4] using this
def GF:List (Nat × F2):=[(5,b5),(19,b19),(8,b8),(20,b20),(31,b31),(32,b32),(33,b33),(58,b58),(59,b59),(37,b37),(75,b75),(65,b65),(25,b25),(26,b26),(27,b27),(28,b28),(29,b29),(72,b72),(73,b73),(74,b74),(76,b76),(49,b49),(77,b77),(66,b66),(45,b45),(93,b93),(79,b79),(69,b69),(71,b71),(44,b44),(30,b30),(67,b67),(68,b68),(105,Dp),(104,DG),(87,b87),(99,b99),(100,Fh),(103,Db),(83,b83),(70,b70),(101,Fu),(102,FE),(122,CY),(123,F6),(124,Fl),(125,Fj),(126,ER),(127,FK),(128,FY),(129,Fx),(120,Hn),(121,Dg),(110,EH),(112,Dd),(113,EU),(114,FH),(115,Fv),(116,Fd),(117,F1),(118,EE),(119,EY),(111,EA),(137,EN),(133,FN),(134,Fe),(138,Fs),(139,FB),(132,FR),(135,Fb),(136,FI),(144,FD),(143,EL)]
theorem Gw:kG Tryz.prog (lookup GF) :=
 (ax is5 (ax HZ (ax is8 (ax Hh (ax IA (ax HG (ax Ho (ax HQ (ax IE (ax GG (ax Gl (ax Gv (ax GV (ax Gi (ax Gg (ax Gc (ax Gq (ax Ij (ax H6 (ax Gk (ax Fm (ax Hc (ax FA (ax Hr (ax EF (ax Iu (ax Gr (ax FT (ax EO (ax Gu (ax G0 (ax Hl (ax G4 (ax Cz (ax Bx (ax GU (ax Gy (ax D6 (ax Bs (ax G3 (ax Hs (ax D9 (ax El (ax Cb (ax D2 (ax DX (ax DZ (ax DL (ax DR (ax D1 (ax DT (ax F9 (ax CH (ax D4 (ax BL (ax Ez (ax Er (ax D7 (ax Ei (ax Eg (ax Es (ax Em (ax Ex (ax D5 (ax Eb (ax Et (ax D3 (ax DY (ax Ek (ax Ev (ax Ej (ax DP (ax Eo z8)))))))))))))))))))))))))))))))))))))))))))))))))))))))))))))))))))))))))
set_option maxRecDepth 100000 in
theorem mG:Go.Abs.Pure Tryz.prog 5 [] (.bool true):=Pure.of_run follows Gw (pf:=Ee [20]) (n:=2000) (good:=isTrue) (by decide +kernel) zS
theorem Gf {n:Nat} (h:n < 256):IntKind.wrap .i64 (n:Int)=n:=oO (by omega) (by omega)
theorem u6 (c:List Spx) (b:List Nat) (hc:aH c=0) (hl:c.length ≤ 30) (hb:b.length ≤ 1000) (hb8:∀ n ∈ b,n < 256):Pure Tryz.prog 7 [d9 c,sE b] (.tup [pT (eE c b),.int .i64 0]):=by
 refine Pure.of_c2 follows is7 (ba rfl) ?_;simp only [b7,aK];have hv:=wQ c (by omega) (fR hc);rw [if_pos hc,hc] at hv;have hV:(nH c).length ≤ 100000:=by have:=(fT (mV (b:=b) hc hl)).1; show _ ≤ _; exact eX this (by omega)
 unfold eE;change Pure Tryz.prog 24 [d9 c] (.tup [ar (nH c),.int .i64 0]) at hv;generalize nH c=V at *;have zz:=aI @aD (aI @au (aI @aQ (aI @aG @ap))); repeat' (first|refine zW ?_|apply a_n|refine zO ?_|refine vY ?_|refine cY ?_ (hp:=hv) (hs:=by (first | refine af ?_ rfl | apply ag); (repeat' (first | exact ae | apply am | apply ai | exact bm _)); first | done | fail)|refine alY ?_|refine bxY ?_|refine stY ?_|fail)
 refine aZ (X:=Nat × AV) (fun x=>[(1,sE b),(4,.ptr 1 2 0),(7,.int .i64 0),(8,.ptr 2 2 0),(18,ar V),(19,.int .i64 V.length),(20,.int .i64 x.1)]) (fun x H nx=>x.1 ≤ V.length∧3 ≤ nx∧H 1=some [.esl,.esl]∧H 2=some [ar V,x.2]∧Row H 2 x.2 (cX (toL x.1 b))∧∀ d,dB x.2=some d→3 ≤ d∧d < nx) (fun x=>V.length - x.1) (0,.esl) ⟨cq _,aO _,by (repeat rw [ah (by omega)]); rw [aj],by rw [aj]; rfl,Row.nil,fun d h=>(by cases h)⟩ (by (iterate 7 refine And.intro rfl ?_); trivial) ?_;rintro ⟨k,sv⟩ H nx ⟨k1,k2,g1,g2,hrow,hbd⟩;dsimp only at k1 g2 hrow hbd ⊢;obtain ⟨o1,o2⟩:=hrow.one;by_cases hk:k < V.length
 rotate_left
 ·obtain rfl:k=V.length:=by omega
  clear zz;have zz:=aI @g1 (aI @g2 (aI @o1 (aI @o2 (aI @aQ @aG)))); repeat' (first|refine zW ?_|apply a_n|apply a_x|refine zO ?_|refine vY ?_|refine stY ?_|(refine zGY ?_ ?_ <;> (intro _hg; try (exfalso; omega)))|refine ak rfl ?_|refine r2Y ?_|fail)
  exact sc (aA _).snap (sf (hrow.same fun d hd=>ah (by have:=hbd d hd; omega))) rfl
 have hts:=Ch (n:=k) (b:=b);have hcl:(cX (toL k b)).length=k * 2:=by rw [eH,yU]
 have hfin:∀ (s2:AV) (H2:Hp) (nx2:Nat),Row H2 2 s2 (cX (toL k b) ++ cX [vtN (nby b k)])→nx ≤ nx2→(∀ x,x < nx→dB sv ≠ some x→H2 x=H x)→(∀ d,dB s2=some d→dB sv=some d ∨ nx ≤ d∧d < nx2)→Row (ao H2 2 [ar V,s2]) 2 s2 (cX (toL (k + 1) b))∧(∀ d,dB s2=some d→3 ≤ d∧d < nx2)∧ao H2 2 [ar V,s2] 1=some [.esl,.esl]∧H2 2=some [ar V,sv]:=fun s2 H2 nx2 r1 r2 r3 r4=>by
  have hd2:∀ d,dB s2=some d→3 ≤ d∧d < nx2:=fun d hd=>by
   rcases r4 d hd with h | h
   ·have:=hbd d h; omega
   ·omega
  refine ⟨?_,hd2,?_,?_⟩
  ·rw [hts,f8];exact r1.same fun d hd=>ah (by have:=hd2 d hd; omega)
  ·rw [ah (by omega),r3 1 (by omega) (fun h=>by have:=hbd _ h; omega)]; exact g1
  ·rw [r3 2 (by omega) (fun h=>by have:=hbd _ h; omega)]; exact g2
 have hn:nby b k < 256:=by
  unfold nby;split
  ·omega
  ·exact hb8 _ (aB (Nat.mod_lt _ (by omega)))
 have hn':nby b k=nby b k:=rfl;have hr1:∀ tb tf,bf .rem tb tf (.int .i64 ((nby b k:Nat):Int)) (.int .i64 3)=some (.int .i64 ((nby b k % 3:Nat):Int)):=fun _ _=>(ui (by omega) (by omega)).trans (by rw [show ((nby b k:Nat):Int) % 3=((nby b k % 3:Nat):Int) by omega]);have hq1:∀ tb tf,bf .quo tb tf (.int .i64 ((nby b k:Nat):Int)) (.int .i64 3)=some (.int .i64 ((nby b k / 3:Nat):Int)):=fun _ _=>(gZ (by omega) (by omega) (by omega)).trans (by rw [show ((nby b k:Nat):Int) / 3=((nby b k / 3:Nat):Int) by omega]);have hr2:∀ tb tf,bf .rem tb tf (.int .i64 ((nby b k / 3:Nat):Int)) (.int .i64 3)=some (.int .i64 ((nby b k / 3 % 3:Nat):Int)):=fun _ _=>(ui (by omega) (by omega)).trans (by rw [show ((nby b k / 3:Nat):Int) % 3=((nby b k / 3 % 3:Nat):Int) by omega]);have hvn:cX [vtN (nby b k)]=[.int .i64 ((nby b k % 3:Nat):Int),.int .i64 ((nby b k / 3 % 3:Nat):Int)]:=rfl;by_cases hb0:b.length=0
 ·have zb:decide ((0:Int) < b.length)=false:=bq (by omega);have e0:nby b k=0:=by unfold nby; rw [if_pos hb0]
  rw [e0] at hvn hfin;have q0:∀ tb tf,bf .rem tb tf (.int .i64 0) (.int .i64 3)=some (.int .i64 0):=fun _ _=>rfl;have q1:∀ tb tf,bf .quo tb tf (.int .i64 0) (.int .i64 3)=some (.int .i64 0):=fun _ _=>rfl;have hvn:cX [vtN 0]=[.int .i64 0,.int .i64 0]:=rfl;rw [hvn] at hfin;clear zz;have zz:=aI @mH (aI @zb (aI @g2 (aI @q0 (aI @q1 (aI @o1 (aI @o2 (aI @aQ @aG))))))); repeat' (first|refine zW ?_|apply a_n|refine zO ?_|refine vY ?_|refine blY ?_|refine cFY ?_|(refine zGY ?_ ?_ <;> (intro _hg; try (exfalso; omega)))|fail)
  refine jb rfl ev0 (hrow.same fun d hd=>?_) ev0 jt rfl rfl (by omega) (by omega) (by omega) ?_
  ·have:=hbd d hd; rw [ah (by omega)]
  rintro s2 H2 nx2 r1 r2 r3 r4 r5;obtain ⟨u1,u2,u3,u4⟩:=hfin s2 H2 nx2 r1 (by omega) (fun x hx hne=>(r4 x (by omega) hne).trans (ah (by omega))) (fun d hd=>(r5 d hd).imp id fun h=>⟨by omega,by omega⟩);obtain ⟨o3,o4⟩:=r1.one;clear zz;have zz:=aI @u4 (aI @o3 @o4); repeat' (first|apply a_n|refine zO ?_|refine vY ?_|refine stY ?_|fail)
  exact ⟨(k + 1,s2),by dsimp only; omega,⟨by dsimp only; omega,by omega,u3,by rw [aj]; rfl,u1,u2⟩,ag0⟩
 have zb:decide ((0:Int) < b.length)=true:=bk (by omega);have hrm:∀ tb tf,bf .rem tb tf (.int .i64 (k:Int)) (.int .i64 (b.length:Int))=some (.int .i64 ((k % b.length:Nat):Int)):=fun _ _=>(ui (by omega) (by omega)).trans (by rw [Int.natCast_emod]);have ix:=ixU (l:=b) (k:=k % b.length) (Nat.mod_lt _ (by omega));have e0:b.getD (k % b.length) default=nby b k:=by unfold nby; rw [if_neg hb0]
 rw [e0] at ix;have hcv:=Gf hn;rw [hvn] at hfin;clear zz;have zz:=aI @mH (aI @zb (aI @g2 (aI @hrm (aI @ix (aI @hcv (aI @hr1 (aI @hq1 (aI @hr2 (aI @o1 (aI @o2 (aI @aQ @aG))))))))))); repeat' (first|refine zW ?_|apply a_n|refine zO ?_|refine vY ?_|refine blY ?_|refine cTY ?_|(refine zGY ?_ ?_ <;> (intro _hg; try (exfalso; omega)))|fail)
 refine jb rfl ev0 (hrow.same fun d hd=>?_) ev0 jt rfl rfl (by omega) (by omega) (by omega) ?_
 ·have:=hbd d hd; rw [ah (by omega)]
 rintro s2 H2 nx2 r1 r2 r3 r4 r5;obtain ⟨u1,u2,u3,u4⟩:=hfin s2 H2 nx2 r1 (by omega) (fun x hx hne=>(r4 x (by omega) hne).trans (ah (by omega))) (fun d hd=>(r5 d hd).imp id fun h=>⟨by omega,by omega⟩);obtain ⟨o3,o4⟩:=r1.one;clear zz;have zz:=aI @u4 (aI @o3 @o4); repeat' (first|apply a_n|refine zO ?_|refine vY ?_|refine stY ?_|fail)
 exact ⟨(k + 1,s2),by dsimp only; omega,⟨by dsimp only; omega,by omega,u3,by rw [aj]; rfl,u1,u2⟩,ag0⟩
theorem DF (x y:List Int) (hx:x.length ≤ 1000000) (hy:y.length ≤ 1000000):Pure Tryz.prog 53 [cu x,cu y] (.bool (decide (x=y))):=by
 refine Pure.of_c2 follows Ix (ba rfl) ?_;simp only [b53,aK]
 repeat' (first|refine zW ?_|apply a_n|refine zO ?_|refine vY ?_|refine cY ?_ (hp:=by exact CD x y hx hy) (hs:=by (first | refine af ?_ rfl | apply ag); (repeat' (first | exact ae | apply am | apply ai | exact fS _)); first | done | fail)|refine ak rfl ?_|refine r1Y ?_|fail)
 exact .bool _
theorem GS {l:List (List Int)} {k:Nat} (h:k < l.length):fg 1 (co l) (.int .i64 (k:Int))=some (.iptr [cu (l.getD k default)] 0):=by
 rw [jR,if_pos ⟨by omega,by omega⟩,bz]
theorem Cd (R:List (List Int)) (hR:R.length ≤ 1000000) (hr:∀ r ∈ R,r.length ≤ 1000000):Pure Tryz.prog 52 [co R,co R,.func 53 []] (.bool true):=by
 refine Pure.of_c2 follows IJ (ba rfl) ?_;simp only [b52,aK];have z:decide ((R.length:Int) ≠ R.length)=false:=by simp
 have zz:=@z; repeat' (first|refine zW ?_|apply a_n|refine zO ?_|refine vY ?_|refine cFY ?_|fail)
 refine pD (X:=Nat) (fun k=>[(1,co R),(2,.func 53 []),(15,co R),(16,.int .i64 R.length),(17,.int .i64 k)]) (fun k=>k ≤ R.length) (fun k=>R.length - k) 0 (cq _) (by (iterate 5 refine And.intro rfl ?_); trivial) ?_;intro k hk;by_cases hk2:k < R.length
 rotate_left
 ·repeat' (first|refine zW ?_|apply a_n|apply a_x|refine zO ?_|refine vY ?_|(refine zGY ?_ ?_ <;> (intro _hg; try (exfalso; omega)))|refine ak rfl ?_|refine r1Y ?_|fail)
  exact .bool _
 have ix:=GS hk2;have hs:=DF (R.getD k default) (R.getD k default) (hr _ (aB hk2)) (hr _ (aB hk2));rw [bk rfl] at hs;clear zz;have zz:=@ix; repeat' (first|refine zW ?_|apply a_n|refine zO ?_|refine vY ?_|refine cY ?_ (hp:=hs) (hs:=by (first | refine af ?_ rfl | apply ag); (repeat' (first | exact ae | apply am | apply ai | exact fS _)); first | done | fail)|refine cFY ?_|(refine zGY ?_ ?_ <;> (intro _hg; try (exfalso; omega)))|fail)
 exact ⟨k + 1,by omega,by omega,ag0,rfl,rfl⟩
theorem tc (c:Int) (R:List (List Int)) (hR:R.length ≤ 1000000) (hr:∀ r ∈ R,r.length ≤ 1000000):Pure Tryz.prog 17 [i8 c R,i8 c R] (.bool true):=by
 refine Pure.of_c2 follows Ie (ba rfl) ?_;simp only [b17,aK];unfold i8;have z:decide (c=c)=true:=bk rfl;have dc:Dat (AV.func 53 []):=Dat.func DatL.nil;have zz:=@z; repeat' (first|refine zW ?_|apply a_n|refine zO ?_|refine vY ?_|refine cY ?_ (hp:=by exact Cd R hR hr) (hs:=by (first | refine af ?_ rfl | apply ag); (repeat' (first | exact ae | apply am | apply ai | exact nQ _ | exact dc)); first | done | fail)|refine bxY ?_|refine gTY ?_|(refine zGY ?_ ?_ <;> (intro _hg; try (exfalso; omega)))|refine ak rfl ?_|refine r1Y ?_|fail)
 exact .bool _
theorem wr {S:List (List Int)} {g:Nat→List Nat} (hg:∀ j,j < S.length→S.getD j default=cp (g j)∧(g j).Pairwise (· < ·)) {l:List Nat} (hb:∀ j ∈ l,j < S.length) {n:Nat} (hn:∀ j ∈ l,∀ x ∈ g j,x < n):(cJ S (cp l)).length ≤ n:=by
 obtain ⟨h1,h2,h3⟩:=nY hg hb
 have hsub:∀ x ∈ cJ S (cp l),x ∈ cp (List.range n):=fun x hx=>by
  obtain ⟨k,rfl⟩:=h2 x hx;have hodd:=(h3 k).1 hx;have hne:(l.filter fun j=>decide (k ∈ g j)) ≠ []:=fun e=>by rw [e] at hodd; exact absurd hodd (by decide)
  obtain ⟨j,hj⟩:=List.exists_mem_of_ne_nil _ hne;obtain ⟨j1,j2⟩:=fZ.1 hj;exact sZ.2 (ju.2 (hn j j1 k (o0 j2)))
 have:=xR h1.nodup hsub;unfold cp at this
 rwa [cr,List.length_range] at this
structure CmpK (c d x:List Spx) (f g gg:MapV) (k:Nat) (X0 X1 X2:List Spx):Prop where
 i1:ez f c d k=(((((X0.length:Nat):Int),cV f X0 X1)),0)
 i2:ez g d x k=(((((X1.length:Nat):Int),cV g X1 X2)),0)
 i3:ez gg c x k=(((((X0.length:Nat):Int),cV gg X0 X2)),0)
 pr:(cV g X1 X2).map (cJ (cV f X0 X1))=cV gg X0 X2
 e0:X0=dp c (k + 1)
 e1:X1=dp d (k + 1)
 l0:X0.length ≤ 3500
 l1:X1.length ≤ 3500
 l2:X2.length ≤ 3500
theorem wZ {c:List Spx} {b b2:List Nat} (hc:aH c=0) (hl:c.length ≤ 12) :
    ∃ gg:MapV,∃ d x:List Spx,im (eE c b) c=(d,0)∧aH d=0∧d.length ≤ 12∧im (eE d b2) d=(x,0)∧aH x=0∧x.length ≤ 12∧io (eE c b) (eE d b2)=(gg,0)∧ShM gg∧im gg c=(x,0)∧eU gg c x=(true,0)∧d=dE (c.map (bc (eE c b))) ∧
     ∀ k:Nat,k ≤ 3→∃ X0 X1 X2,CmpK c d x (eE c b) (eE d b2) gg k X0 X1 X2:=by
 have hm:=mV (b:=b) hc (show c.length ≤ 30 by omega);have ht:=xC (c:=c) (b:=b);obtain ⟨i1,i2⟩:=iq hm hc ht
 have hdl:(dE (c.map (bc (eE c b)))).length ≤ 12:=by
  have:=nL (l:=c.map (bc (eE c b)));rw [cr] at this; omega
 have hcomp:=Ag (b:=b) (b2:=b2) hc (show c.length ≤ 30 by omega);have hn:=mV (b:=b2) i2 (show (dE (c.map (bc (eE c b)))).length ≤ 30 by omega);obtain ⟨q1,q2⟩:=vO hm hn hcomp;obtain ⟨gg,c1,c2,c3,c4,one,two,c5,c6,c7,c8,c9,c10,c11,hind⟩:=sI hm hn hc hcomp ht;have e1:one=dE (c.map (bc (eE c b))):=(Prod.mk.inj (c5.symm.trans (kV hm hc ht))).1;have eg:gg=_:=(Prod.mk.inj (c1.symm.trans q1)).1
 have htg:c.all (ci gg)=true:=by
  rw [eg];exact dL.2 fun s hs=>cC.2 fun v hv=>cC.1 (dL.1 ht s hs) v hv
 have e2:two=dE (c.map (bc gg)):=(Prod.mk.inj (c7.symm.trans (kV c2 hc htg))).1;obtain ⟨j1,j2⟩:=iq c2 hc htg;obtain ⟨p1,p2,p3,p4,p5⟩:=fT c2;subst e1;refine ⟨gg,_,two,c5,c8,hdl,c6,c9,by omega,c1,⟨show _ ≤ _ by omega,show _ ≤ _ by omega⟩,c7,by rw [e2]; exact j1,rfl,fun k hk=>?_⟩;obtain ⟨X0,X1,X2,_,d1,d2,d3,d4,d5,d6,d7⟩:=hind (k:Int) (by omega) (by omega);have h8:∀ {c:List Spx},aH c=0→∀ s ∈ c,s.length ≤ 8:=fun h s hs=>(cg ((cA h).2.1 s hs)).2.1;have ek:((k:Int) + 1).toNat=k + 1:=by omega
 rw [ek] at d5 d6 d7;exact ⟨X0,X1,X2,d1,d2,d3,d4,d5,d6,by rw [d5]; exact ja (by omega) (h8 hc),by rw [d6]; exact ja (by omega) (h8 c8),by rw [d7]; exact ja (by omega) (h8 c9)⟩
theorem Aa {c:List Spx} {f:MapV} {k:Nat} (hk:1 ≤ k) (hc:aH c=0) (hone:aH (dE (c.map (bc f)))=0) :
    (gf (dp (dE (c.map (bc f))) (k + 1)) (dp (dE (c.map (bc f))) k)).map (cJ (cV f (dp c (k + 1)) (dp (dE (c.map (bc f))) (k + 1))))=(cV f (dp c k) (dp (dE (c.map (bc f))) k)).map (cJ (gf (dp c (k + 1)) (dp c k))):=by
 have eA:∀ (c:List Spx) (m:Nat),0 < m→dp c m=fJ c (m:Int):=fun c m h=>by unfold fJ; rw [if_neg (by omega),bz]
 refine Af hk (fun s hs=>?_) (fun s hs=>?_) kI kI (fun s hs fc hf=>?_) (fun s hs=>?_)
 ·rw [eA _ _ (by omega)] at hs;have h1:=(hZ.1 hs).2.1;exact ⟨Bo (mE hc) s hs,by omega⟩
 ·rw [eA _ _ (by omega)] at hs;have h1:=(hZ.1 hs).2.1;omega
 ·rw [eA _ _ (by omega)] at hs ⊢;rw [show ((k + 1:Nat):Int)=(k:Int) + 1 by omega] at hs;exact xX hs hf
 ·refine ⟨fun h=>?_,fun h=>qz hc hone hs h⟩;rw [eA _ _ (by omega)] at h;have h1:=(hZ.1 h).2.1;omega
set_option maxHeartbeats 4000000 in
theorem xm (c:List Spx) (b b2:List Nat) (hc:Shn c∧∀ s ∈ c,Shn s) (hb:b.length ≤ 1000000000000000∧∀ n ∈ b,n < 256) (hb2:b2.length ≤ 1000000000000000∧∀ n ∈ b2,n < 256):Pure Tryz.prog 4 [d9 c,sE b,sE b2] (.bool true):=by
 refine Pure.of_c2 follows is4 (ba rfl) ?_;simp only [b4,aK];have hc':c.length ≤ 17592186044416:=hc.1;have hb':b.length ≤ 1000000000000000:=hb.1;have hb2':b2.length ≤ 1000000000000000:=hb2.1;have f1:=E7 c hc;cases e1:BT c
 ·rw [e1] at f1;have zz:=aI @aD @au; repeat' (first|refine zW ?_|apply a_n|apply a_r|refine zO ?_|refine vY ?_|refine cY ?_ (hp:=by first | exact f1 | exact mG) (hs:=by (first | refine af ?_ rfl | apply ag); (repeat' (first | exact ae | apply am | apply ai | exact bm _)); first | done | fail)|refine bxY ?_|refine gFY ?_|refine cTY ?_|refine cFY ?_|refine ak rfl ?_|refine r1Y ?_|fail)
  exact .bool _
 rw [e1] at f1;obtain ⟨t1,t2,t3,t4⟩:=B9 e1;by_cases hl:40 < b.length
 ·have z:decide ((40:Int) < b.length)=true:=bk (by omega);have zz:=aI @aD (aI @au (aI @mH @z)); repeat' (first|refine zW ?_|apply a_n|apply a_r|refine zO ?_|refine vY ?_|refine cY ?_ (hp:=by first | exact f1 | exact mG) (hs:=by (first | refine af ?_ rfl | apply ag); (repeat' (first | exact ae | apply am | apply ai | exact bm _)); first | done | fail)|refine bxY ?_|refine gTY ?_|refine gFY ?_|refine cTY ?_|refine cFY ?_|refine ak rfl ?_|refine r1Y ?_|fail)
  exact .bool _
 have zl:decide ((40:Int) < b.length)=false:=bq (by omega);by_cases hl2:40 < b2.length
 ·have z:decide ((40:Int) < b2.length)=true:=bk (by omega);have zz:=aI @aD (aI @au (aI @mH (aI @zl @z))); repeat' (first|refine zW ?_|apply a_n|apply a_r|refine zO ?_|refine vY ?_|refine cY ?_ (hp:=by first | exact f1 | exact mG) (hs:=by (first | refine af ?_ rfl | apply ag); (repeat' (first | exact ae | apply am | apply ai | exact bm _)); first | done | fail)|refine bxY ?_|refine gTY ?_|refine cTY ?_|refine cFY ?_|refine ak rfl ?_|refine r1Y ?_|fail)
  exact .bool _
 have zl2:decide ((40:Int) < b2.length)=false:=bq (by omega);obtain ⟨gg,d,x,k1,k2,k3,k4,k5,k6,k7,k8,k9,k10,kd,hind⟩:=wZ (b:=b) (b2:=b2) t2 t3
 have hmS:∀ {c:List Spx} {b:List Nat},aH c=0→c.length ≤ 30→ShM (eE c b):=fun {c b} h1 h2=>by
  obtain ⟨p1,p2,p3,p4,p5⟩:=fT (mV (b:=b) h1 h2);exact ⟨show _ ≤ _ by omega,show _ ≤ _ by omega⟩
 have hf:=hmS (b:=b) t2 (by omega);have hg:=hmS (b:=b2) k2 (by omega);have sd:Shn d:=show _ ≤ _ by omega
 have sx:Shn x:=show _ ≤ _ by omega
 have s1:=u6 c b t2 (by omega) (by omega) hb.2;have s2:=uC (eE c b) c hf hc.1 hc.2;have s3:=u6 d b2 k2 (by omega) (by omega) hb2.2;have s4:=uC (eE d b2) d hg sd (fR k2);have s5:=AF (eE c b) (eE d b2) hf hg;have s6:=uC gg c k8 hc.1 hc.2;have s7:=mS gg c x k8 hc.1 hc.2 sx (fR k5);have s8:=BK x x sx sx (fR k5) (fR k5);rw [bk rfl] at s8;rw [k1] at s2;rw [k4] at s4;rw [k7] at s5;rw [k9] at s6;rw [k10] at s7;dsimp only at s2 s4 s5 s6 s7;have hct:=fun {k:Nat} (hk:1 ≤ k)=>Aa (f:=eE c b) hk t2 (by rw [← kd]; exact k2);rw [← kd] at hct;clear kd;generalize eE c b=f at *;generalize eE d b2=g at *;have d1:Dat (.agg [ar f.fr,ar f.to]):=er f;have d2:Dat (.agg [ar g.fr,ar g.to]):=er g;have d3:Dat (.agg [ar gg.fr,ar gg.to]):=er gg;have z0:decide ((0:Int) + 0 ≠ 0)=false:=rfl;have z00:decide ((0:Int) + 0 + 0 ≠ 0)=false:=rfl;have zz:=aI @aD (aI @au (aI @aQ (aI @aG (aI @an (aI @mH (aI @zl (aI @zl2 (aI @z0 @z00)))))))); repeat' (first|refine zW ?_|apply a_n|refine zO ?_|refine vY ?_|refine cY ?_ (hp:=by first | exact f1 | exact s1 | exact s2 | exact s3 | exact s4 | exact s5 | exact s6 | exact s7 | exact s8 | exact mG) (hs:=by (first | refine af ?_ rfl | apply ag); (repeat' (first | exact ae | apply am | apply ai | exact bm _ | exact wV _ | exact d1 | exact d2 | exact d3)); first | done | fail)|refine alY ?_|refine bxY ?_|refine stY ?_|refine gTY ?_|refine cFY ?_|fail)
 set_option maxRecDepth 100000 in
 refine aZ (X:=Nat) (fun k=>[(3,.ptr 0 1 0),(7,.ptr 1 2 0),(9,.ptr 2 1 0),(11,.ptr 3 2 0),(12,.ptr 4 1 0),(13,.ptr 5 2 0),(114,.int .i64 k)]) (fun k H nx=>k ≤ 4∧6 ≤ nx∧H 0=some [aE c]∧H 1=some [ar f.fr,ar f.to]∧H 2=some [aE d]∧H 3=some [ar g.fr,ar g.to]∧H 4=some [aE x]∧H 5=some [ar gg.fr,ar gg.to]) (fun k=>4 - k) 0 ⟨cq _,by omega,by (repeat rw [ah (by omega)]); rw [aj],by (repeat rw [ah (by omega)]); rw [aj]; rfl,by (repeat rw [ah (by omega)]); rw [aj]; rfl,by (repeat rw [ah (by omega)]); rw [aj]; rfl,by (repeat rw [ah (by omega)]); rw [aj]; rfl,by (repeat rw [ah (by omega)]); rw [aj]; rfl⟩ (by (iterate 7 refine And.intro rfl ?_); trivial) ?_;clear zz;clear f1 s1 s2 s3 s4 s5 s6 s7 s8 k1 k4 k7 k9 k10;rintro k H nx ⟨m1,m2,g0,g1,g2,g3,g4,g5⟩;by_cases hk:k < 4
 rotate_left
 ·have z:decide ((k:Int) < 4)=false:=bq (by omega);have zz:=@z; repeat' (first|refine zW ?_|apply a_n|apply a_x|refine zO ?_|refine vY ?_|refine cFY ?_|refine ak rfl ?_|refine r1Y ?_|fail)
  exact .bool _
 have zk:decide ((k:Int) < 4)=true:=bk (by omega);obtain ⟨X0,X1,X2,⟨n1,n2,n3,n4,n5,n6,n7,n8,n9⟩⟩:=hind k (by omega);have a1:=lz f c d k hf (by omega) hc.2 (by omega) (fR k2);have a2:=lz g d x k hg (by omega) (fR k2) (by omega) (fR k5);have a3:=lz gg c x k k8 (by omega) hc.2 (by omega) (fR k5);rw [n1] at a1;rw [n2] at a2;rw [n3] at a3;have w1:=pW (m:=f) (X:=X0) (Y:=X1) (by omega) (by omega);have w2:=pW (m:=g) (X:=X1) (Y:=X2) (by omega) (by omega);have w3:=pW (m:=gg) (X:=X0) (Y:=X2) (by omega) (by omega);have a4:=mw (X1.length:Nat) (X0.length:Nat) (cV g X1 X2) (cV f X0 X1) w2 w1 (by rw [iC]);rw [n4] at a4;have a5:=tc (X0.length:Nat) (cV gg X0 X2) (by rw [iC]; omega) (fun r hr=>by have:=(w3.2.2.2 r hr).2.1; omega);have e1:=dD (X0.length:Nat) (cV f X0 X1);have e2:=dD (X1.length:Nat) (cV g X1 X2);have e3:=dD (X0.length:Nat) (cV gg X0 X2);have z4:decide ((0:Int) + 0 + 0 + 0 ≠ 0)=false:=rfl;have z5:decide ((0:Int) + 0 + 0 + 0 + 0 ≠ 0)=false:=rfl;dsimp only at a1 a2 a3;by_cases hk0:k=0
 ·have zk0:decide ((k:Int)=0)=true:=bk (by omega);unfold i8 at a1 a2 a3 a4 a5 e1 e2 e3;clear n1 n2 n3 n4 w1 w2 w3;generalize cV f X0 X1=M1 at *;generalize cV g X1 X2=M2 at *;generalize cV gg X0 X2=M3 at *;have zz:=aI @aD (aI @au (aI @aQ (aI @aG (aI @zk (aI @zk0 (aI @z4 (aI @g0 (aI @g1 (aI @g2 (aI @g3 (aI @g4 @g5))))))))))); repeat' (first|refine zW ?_|apply a_n|apply a_x|refine zO ?_|refine vY ?_|refine cY ?_ (hp:=by first | exact a1 | exact a2 | exact a3 | exact a4 | exact a5) (hs:=by (first | refine af ?_ rfl | apply ag); (repeat' (first | exact ae | apply am | apply ai | exact bm _ | exact d1 | exact d2 | exact d3 | exact e1 | exact e2 | exact e3)); first | done | fail)|refine alY ?_|refine stY ?_|refine gTY ?_|refine cTY ?_|refine cFY ?_|fail)
  exact ⟨k + 1,by omega,⟨by omega,by omega,by (repeat rw [ah (by omega)]); exact g0,by (repeat rw [ah (by omega)]); exact g1,by (repeat rw [ah (by omega)]); exact g2,by (repeat rw [ah (by omega)]); exact g3,by (repeat rw [ah (by omega)]); exact g4,by (repeat rw [ah (by omega)]); exact g5⟩,ag0⟩
 have zk0:decide ((k:Int)=0)=false:=bq (by omega);obtain ⟨j,rfl⟩:∃ j,k=j + 1:=⟨k - 1,by omega⟩
 obtain ⟨Y0,Y1,Y2,⟨o1,o2,o3,o4,o5,o6,o7,o8,o9⟩⟩:=hind j (by omega);have hct2:=hct (k:=j + 1) (by omega);rw [← n5,← n6,← o5,← o6] at hct2;have eA:∀ (c:List Spx) (m:Nat),0 < m→dp c m=fJ c (m:Int):=fun c m h=>by unfold fJ; rw [if_neg (by omega),bz]
 have eB:∀ c:List Spx,aH c=0→sP c ((j + 1:Nat):Int)=((((((dp c (j + 1 + 1)).length:Nat):Int),gf (dp c (j + 1 + 1)) (dp c (j + 1))),(0:Int))):=fun c h=>by
  unfold sP;rw [if_neg (fun q=>q h),if_neg (by omega),eA _ _ (by omega),eA _ _ (by omega),show ((j + 1:Nat):Int) + 1=((j + 1 + 1:Nat):Int) by omega]
 have b1:=lz f c d j hf (by omega) hc.2 (by omega) (fR k2);rw [o1] at b1;have b2':=CO c ((j + 1:Nat):Int) (by omega) hc.2;have b3:=CO d ((j + 1:Nat):Int) (by omega) (fR k2);rw [eB _ t2,← n5,← o5] at b2';rw [eB _ k2,← n6,← o6] at b3;have v1:=y3 (X:=X1) (Y:=Y1) (by omega) (by omega);have v2:=y3 (X:=X0) (Y:=Y0) (by omega) (by omega);have v3:=pW (m:=f) (X:=Y0) (Y:=Y1) (by omega) (by omega);have b4:=mw (X1.length:Nat) (X0.length:Nat) (gf X1 Y1) (cV f X0 X1) v1 w1 (by rw [iC]);have b5:=mw (Y0.length:Nat) (X0.length:Nat) (cV f Y0 Y1) (gf X0 Y0) v3 v2 (by rw [je]);rw [hct2] at b4
 have hrow:∀ r ∈ (cV f Y0 Y1).map (cJ (gf X0 Y0)),r.length ≤ 1000000:=fun r hr=>by
  obtain ⟨u,u1,rfl⟩:=cL.1 hr;unfold cV at u1;obtain ⟨i,i1,rfl⟩:=cL.1 u1
  have hmem:∀ q,q ∈ eJ f Y0 Y1 Y0.length i→q < Y0.length:=fun q hq=>by
   unfold eJ at hq;exact ju.1 (fZ.1 hq).1
  have:=wr (S:=gf X0 Y0) (g:=fun q=>fo X0 Y0 X0.length q) (l:=eJ f Y0 Y1 Y0.length i) (fun q hq=>by
   rw [je] at hq;exact ⟨wS hq,mP⟩) (fun q hq=>by rw [je]; exact hmem q hq) (n:=X0.length) (fun q hq y hy=>(gw.1 hy).1)
  omega
 have b6:=tc (X0.length:Nat) ((cV f Y0 Y1).map (cJ (gf X0 Y0))) (by rw [cr,iC]; omega) hrow;have e4:=dD (Y0.length:Nat) (cV f Y0 Y1);have e5:=dD (X0.length:Nat) (gf X0 Y0);have e6:=dD (X1.length:Nat) (gf X1 Y1);have e7:=dD (X0.length:Nat) ((cV f Y0 Y1).map (cJ (gf X0 Y0)));dsimp only at b1 b2' b3;have hsub:((j + 1:Nat):Int) - 1=(j:Int):=by omega
 unfold i8 at a1 a2 a3 a4 a5 b1 b2' b3 b4 b5 b6 e1 e2 e3 e4 e5 e6 e7;clear n1 n2 n3 n4 w1 w2 w3 v1 v2 v3 hrow hct2 eB o1 o2 o3 o4;generalize (cV f Y0 Y1).map (cJ (gf X0 Y0))=M7 at *;generalize cV f Y0 Y1=M4 at *;generalize gf X0 Y0=M5 at *;generalize gf X1 Y1=M6 at *;generalize cV f X0 X1=M1 at *;generalize cV g X1 X2=M2 at *;generalize cV gg X0 X2=M3 at *;have zz:=aI @aD (aI @au (aI @aQ (aI @aG (aI @zk (aI @zk0 (aI @hsub (aI @z4 (aI @z5 (aI @g0 (aI @g1 (aI @g2 (aI @g3 (aI @g4 @g5))))))))))))); repeat' (first|refine zW ?_|apply a_n|refine zO ?_|refine vY ?_|refine cY ?_ (hp:=by first | exact a1 | exact a2 | exact a3 | exact a4 | exact a5 | exact b1 | exact b2' | exact b3 | exact b4 | exact b5 | exact b6) (hs:=by (first | refine af ?_ rfl | apply ag); (repeat' (first | exact ae | apply am | apply ai | exact bm _ | exact d1 | exact d2 | exact d3 | exact e1 | exact e2 | exact e3 | exact e4 | exact e5 | exact e6 | exact e7)); first | done | fail)|refine alY ?_|refine stY ?_|refine gTY ?_|refine cTY ?_|refine cFY ?_|fail)
 exact ⟨j + 1 + 1,by omega,⟨by omega,by omega,by (repeat rw [ah (by omega)]); exact g0,by (repeat rw [ah (by omega)]); exact g1,by (repeat rw [ah (by omega)]); exact g2,by (repeat rw [ah (by omega)]); exact g3,by (repeat rw [ah (by omega)]); exact g4,by (repeat rw [ah (by omega)]); exact g5⟩,ag0⟩
end Go.Proofs.YtpfkjcjgdilkkaaGreat
namespace Go.Proofs.YtpfkjcjgdilkkaaGreat
open Go Go.Abs Go.RowKit
section
variable {H:Type} {enc:TypeId × Value→H} {W:World}
theorem oi:eo enc Tryz.prog W 3 (AV.int .i64) (fun n=>(Lit.int .i64 n).wf=true):=tF Tryz.underlying3
set_option maxRecDepth 100000 in
theorem HI:eo enc Tryz.prog W 55 bG (fun _=>True) :=
 (mI Tryz.underlying55 (by kernel_rfl) (li (off:=0) (off':=1) rfl (by kernel_rfl) oi (li (off:=1) (off':=2) rfl (by kernel_rfl) oi r7))).map
  (fun a=>(⟨a.1,a.2.1⟩:Vtx)) (fun _ _=>trivial) (fun _ _=>rfl)
theorem oXs:eo enc Tryz.prog W 28 ar Shn :=
 (kU Tryz.underlying28 (sz:=2) (by_:=16) (by kernel_rfl) (by kernel_rfl) (by omega) (fun _=>rfl) HI).mono fun l h=>by have:=h.2.2; show _ ≤ _; omega
theorem HM:eo enc Tryz.prog W 22 aE (fun l=>Shn l∧∀ x ∈ l,Shn x) :=
 (kU Tryz.underlying22 (sz:=1) (by_:=24) (by kernel_rfl) (by kernel_rfl) mi (fun _=>rfl) oXs).mono fun l h=>⟨by have:=h.2.2; show _ ≤ _; omega,h.1⟩
set_option maxRecDepth 100000 in
theorem oCx:eo enc Tryz.prog W 24 d9 (fun l=>Shn l∧∀ x ∈ l,Shn x) :=
 (mI Tryz.underlying24 (by kernel_rfl) (li (off:=0) (off':=1) rfl (by kernel_rfl) HM r7)).map
  (fun a=>a.1) (by rintro ⟨n,u⟩ ⟨h1,_⟩; exact h1) (fun _ _=>rfl)
end
theorem qa {f:FuncId} {xs:List AV} {vs:List Value} (h:Go.Abs.Pure Tryz.prog f xs (.bool true)) (w:World) (hv:du (E0 (sw w)) w xs vs) :
    Calls Tryz.prog f vs.toArray w fun e w'=>e=.returned (.bool true)∧Below w.heap.size w w':=by
 refine (h.2 (sw w) w vs (fun _ h=>h) hv).mono ?_;rintro e w' ⟨v,imm',rfl,hb,_,_,_,hr⟩;cases hr;exact ⟨rfl,hb⟩
theorem Hz:laidOutB Tryz.prog=true:=by kernel_rfl
end Go.Proofs.YtpfkjcjgdilkkaaGreat
namespace Go.Proofs.YtpfkjcjgdilkkaaGreat
open Go Go.Abs Go.RowKit
theorem wf8 {n:Int} (h:(Lit.int .u8 n).wf=true):0 ≤ n∧n < 256:=by
 simp only [Lit.wf,eL,fN] at h;have h1:IntKind.min .u8=0:=by decide
 have h2:IntKind.max .u8=255:=by decide
 omega
section
variable {H:Type} {enc:TypeId × Value→H} {W:World}
theorem ou8:eo enc Tryz.prog W 5 (fun n:Nat=>AV.int .u8 (n:Int)) (fun n=>n < 256) :=
 (tF Tryz.underlying5).map (fun n=>n.toNat) (fun n h=>by
  have h2:=wf8 h;omega) (fun n h=>by
  have h2:=wf8 h;rw [Int.toNat_of_nonneg h2.1])
end
end Go.Proofs.YtpfkjcjgdilkkaaGreat
namespace Go.Proofs.YtpfkjcjgdilkkaaGreat
open Go Go.Abs Go.RowKit
section
variable {H:Type} {enc:TypeId × Value→H} {W:World}
theorem oU:eo enc Tryz.prog W 25 sE (fun l=>l.length ≤ 1000000000000000∧∀ n ∈ l,n < 256) :=
 (kU Tryz.underlying25 (sz:=1) (by_:=1) (by kernel_rfl) (by kernel_rfl) mi (fun _=>rfl) ou8).mono fun l h=>⟨by have:=h.2.2; show _ ≤ _; omega,h.1⟩
end
end Go.Proofs.YtpfkjcjgdilkkaaGreat
namespace Go.Proofs.YtpfkjcjgdilkkaaGreat
open Go Go.Abs Go.RowKit Go.ChangeShapes Go.WideShapes Go.ChangeAt
theorem sn {H:Type} {enc:TypeId × Value→H} {P:Program} {f:Func} {s:ChangeSpec} {apart fresh handsOn again:Bool} {W W':World} {args:Array Value} {v:Value} {ds gs:List (DataW H)} {before pa pv:List MemPlace}
    (hW:DataW.Whole enc P f.params.toList s.vars apart W args.toList ds gs before)
    (hres:∀ (b:Nat) (sp:Nat→Bool) (hd:Bool),DataW.TrodAll enc P W' b sp hd f.resultTypes.toList (v.resultList f.resultTypes.size) (s.fn H (ds ++ gs)).results [])
    (hargs:∀ sp:Nat→Bool,(∀ p ∈ before,sp p.block=true)→DataW.TrodAll enc P W' 0 sp true f.params.toList args.toList (s.fn H (ds ++ gs)).args pa)
    (hvars:∀ sp:Nat→Bool,(∀ p ∈ before,sp p.block=true)→DataW.TrodVars enc P W' sp s.vars (s.fn H (ds ++ gs)).vars pv)
    (hps:before=pa ++ pv) (hb:Below W.heap.size W W')
    (hok:∀ (j:Nat) (t:TypeId) (r:Value),f.resultTypes[j]?=some t→(v.resultList f.resultTypes.size)[j]?=some r→Value.okWide P W' .any 0 t r) :
    s.post enc P f apart fresh handsOn again W args v W':=by
 have hold:∀ p ∈ before,(fun b=>decide (b < W.heap.size)) p.block=true:=fun p hp=>by simpa using hW.lt p hp
 have hlt:=fun p hp=>hW.lt p hp;refine ⟨ds,gs,before,[],pa,pv,hW,hres _ _ _,hargs _ hold,hvars _ hold,World.keptBut_mono (fun p hp=>⟨hp,?_⟩) (hb.frame _),fun _=>?_⟩
 ·rw [hps,iH] at hp;exact Or.inr hp
 ·obtain ⟨_,_,_,_,_,hz,hn⟩:=hW;refine ⟨hok,_,_,([] ++ pa) ++ pv,⟨[] ++ pa,pv,trodAll_append (hargs _ (fun _ _=>rfl)) (hres _ _ _),hvars _ (fun _ _=>rfl),rfl,?_,?_⟩,?_⟩
  ·intro b off hp;have hp':MemPlace.cell b off ∈ before:=by rw [hps]; simpa using hp
   rw [hb.frozen (hlt _ hp')];exact hz b off hp'
  ·intro ha;have:=hn ha;rw [hps] at this;simpa using this
  ·intro p hp _;rw [hps];simpa using hp
theorem Bh {E:Env} {w:World}:du E w [] []:=⟨rfl,fun i x y h=>(by cases h)⟩
theorem oY {E:Env} {w:World} {x:AV} {y:Value} {xs:List AV} {ys:List Value} (h:Rel E w x y) (hs:du E w xs ys):du E w (x :: xs) (y :: ys):=by
 refine ⟨by simp [hs.1],fun i a b ha hb=>?_⟩;cases i with
 | zero=>simp at ha hb; subst ha hb; exact h
 | succ i=>simp at ha hb; exact hs.2 i a b ha hb
theorem own:ownKnob Tryz.prog.godebug=none:=by kernel_rfl
end Go.Proofs.YtpfkjcjgdilkkaaGreat