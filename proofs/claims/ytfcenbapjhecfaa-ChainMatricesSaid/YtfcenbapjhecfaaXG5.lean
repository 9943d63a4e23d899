/- Texts of this claim, one after the other: U9s, U10s, U11s, U12s, U13s, U2p, U3p, U4p, U5p, U6p, U7p, U8p, U10p, U12p, U13p, T106, T109, T110, T111, T112, T113, T107, T114, T115, T116, T117, T119, T124, T125, T120, T123, T126, T127, T128, T135, T136, T137, T129, T130, T131, T138, T170, T172, T132, T173, T151, T139, T140, T141, T142, T171, T134, T146. -/
import Derived.Test.YtfcenbapjhecfaaXG4

set_option linter.unusedSimpArgs false
set_option linter.unusedVariables false
namespace Go.Proofs.Ytfcenbapjhecfaa
open Go Go.Abs
def iM (x:Nat):Nat:=if x=0 then 0 else Nat.log2 x + 1
def lq:ByteArray:=ByteArray.mk (Array.mk [0,1,2,2,3,3,3,3,4,4,4,4,4,4,4,4,5,5,5,5,5,5,5,5,5,5,5,5,5,5,5,5,6,6,6,6,6,6,6,6,6,6,6,6,6,6,6,6,6,6,6,6,6,6,6,6,6,6,6,6,6,6,6,6,7,7,7,7,7,7,7,7,7,7,7,7,7,7,7,7,7,7,7,7,7,7,7,7,7,7,7,7,7,7,7,7,7,7,7,7,7,7,7,7,7,7,7,7,7,7,7,7,7,7,7,7,7,7,7,7,7,7,7,7,7,7,7,7,8,8,8,8,8,8,8,8,8,8,8,8,8,8,8,8,8,8,8,8,8,8,8,8,8,8,8,8,8,8,8,8,8,8,8,8,8,8,8,8,8,8,8,8,8,8,8,8,8,8,8,8,8,8,8,8,8,8,8,8,8,8,8,8,8,8,8,8,8,8,8,8,8,8,8,8,8,8,8,8,8,8,8,8,8,8,8,8,8,8,8,8,8,8,8,8,8,8,8,8,8,8,8,8,8,8,8,8,8,8,8,8,8,8,8,8,8,8,8,8,8,8,8,8,8,8,8,8])
theorem xd (x:Nat):x < 2 ^ iM x:=by
 unfold iM
 split
 ·omega
 ·exact Nat.lt_log2_self
theorem sW {x:Nat} (h:0 < x):2 ^ iM x ≤ 2 * x:=by
 unfold iM
 rw [if_neg (by omega),Nat.pow_succ]
 have:=Nat.log2_self_le (n:=x) (by omega)
 omega
theorem qG {x:Nat} (hx:x < 256):iv (.str (ByteArray.mk (Array.mk [0,1,2,2,3,3,3,3,4,4,4,4,4,4,4,4,5,5,5,5,5,5,5,5,5,5,5,5,5,5,5,5,6,6,6,6,6,6,6,6,6,6,6,6,6,6,6,6,6,6,6,6,6,6,6,6,6,6,6,6,6,6,6,6,7,7,7,7,7,7,7,7,7,7,7,7,7,7,7,7,7,7,7,7,7,7,7,7,7,7,7,7,7,7,7,7,7,7,7,7,7,7,7,7,7,7,7,7,7,7,7,7,7,7,7,7,7,7,7,7,7,7,7,7,7,7,7,7,8,8,8,8,8,8,8,8,8,8,8,8,8,8,8,8,8,8,8,8,8,8,8,8,8,8,8,8,8,8,8,8,8,8,8,8,8,8,8,8,8,8,8,8,8,8,8,8,8,8,8,8,8,8,8,8,8,8,8,8,8,8,8,8,8,8,8,8,8,8,8,8,8,8,8,8,8,8,8,8,8,8,8,8,8,8,8,8,8,8,8,8,8,8,8,8,8,8,8,8,8,8,8,8,8,8,8,8,8,8,8,8,8,8,8,8,8,8,8,8,8,8,8,8,8,8,8,8]))) (.int .u8 (x:Nat))=some (.int .u8 (iM x:Nat)):=by
 have h1:lq.size=256:=by decide +kernel
 have h2:∀ i:Fin 256,(lq[i.val]?.getD 0).toNat=iM i.val:=by decide +kernel
 rw [SV2.2.2.2.2.2.2.2.2]
 have h3:=h2 ⟨x,hx⟩
 change (if 0 ≤ (x:Int)∧(x:Int) < lq.size then some (AV.int .u8 (lq[(x:Int).toNat]?.getD 0).toNat) else none)=_
 rw [if_pos ⟨by omega,by rw [h1]; omega⟩,Int.toNat_natCast]
 simp only at h3
 rw [h3]
theorem lh {x s k:Nat} (hk:k=iM (x / 2 ^ s)) (h:0 < x / 2 ^ s):x < 2 ^ (k + s)∧2 ^ (k + s) ≤ 2 * x:=by
 subst hk
 have h1:=xd (x / 2 ^ s)
 have h2:=sW h
 have hp:0 < 2 ^ s:=Nat.pow_pos (by omega)
 rw [Nat.pow_add]
 constructor
 ·have:=(Nat.div_lt_iff_lt_mul hp).1 h1
  exact this
 ·calc 2 ^ iM (x / 2 ^ s) * 2 ^ s ≤ 2 * (x / 2 ^ s) * 2 ^ s:=Nat.mul_le_mul_right _ h2
    _=2 * (x / 2 ^ s * 2 ^ s):=by rw [Nat.mul_assoc]
    _ ≤ 2 * x:=Nat.mul_le_mul_left _ (Nat.div_mul_le_self x (2 ^ s))
theorem fN {x:Nat} (hx:x < 256):iM x ≤ 8:=by
 rcases Nat.eq_zero_or_pos x with e | e
 ·subst e; decide
 ·have h:=sW e
  rcases Nat.lt_or_ge 8 (iM x) with h1 | h1
  ·have:=Nat.pow_le_pow_right (n:=2) (by omega) h1
   omega
  ·exact h1
theorem eZ {x:Int} (h:0 ≤ x) (h2:x < 18446744073709551616):IntKind.wrap .u64 x=x:=by
 simp only [IntKind.bits,IntKind.wrap,IntKind.signed]; simp; omega
theorem mJ {x:Int} (h:0 ≤ x) (h2:x < 256):IntKind.wrap .u8 x=x:=by
 simp only [IntKind.bits,IntKind.wrap,IntKind.signed]; simp; omega
def xr (a b:Int):Int:=IntKind.wrap .u64 (BitVec.ofInt 64 a ^^^ BitVec.ofInt 64 b).toNat
def y4 (a:Int):Int:=IntKind.wrap .u64 (a * 2 ^ 13)
def zx (a:Int):Int:=IntKind.wrap .u64 (a * 2 ^ 17)
def sr7 (a:Int):Int:=a.fdiv (2 ^ 7)
theorem SX:(∀ a b:Int,aW .xor false false (.int .u64 a) (.int .u64 b)=some (.int .u64 (xr a b)))∧(∀ a:Int,aW .shl false false (.int .u64 a) (.int .u64 13)=some (.int .u64 (y4 a))) ∧
    (∀ a:Int,aW .shl false false (.int .u64 a) (.int .u64 17)=some (.int .u64 (zx a)))∧(∀ a:Int,aW .shr false false (.int .u64 a) (.int .u64 7)=some (.int .u64 (sr7 a))) :=
 ⟨fun _ _=>rfl,fun _=>rfl,fun _=>rfl,fun _=>rfl⟩
attribute [irreducible] xr y4 zx sr7
attribute [local irreducible] aD aj aX aP aG aL az aM aR bd Go.Abs.Fn aO Go.Abs.Pure aw aF Yl
theorem yn {H:Hp} {c nx:Nat} {s:Int} (hcc:H c=some [.int .u64 s]):Abs.Fn Try.prog 113 [.ptr c 1 0] H nx fun r H' nx'=>nx'=nx∧∃ s':Int,r=.int .u64 s'∧H'=ar H c [.int .u64 s']:=by
 refine Abs.Fn.of_c2 follows Aa (Nat.le_of_ble_eq_true rfl) ?_
 simp only [y5,cO,cG,cN,cM,cD,cF,cB,aB,aQ]
 have ls:∀ x y:AV,bl [x] 0 [y]=[y]:=fun _ _=>rfl
 simp only [bl,List.length_cons,List.length_nil,Nat.zero_add] at ls
 (have zz:=aI @hcc (aI @SV3 (aI @SX @ls)); repeat' (first|refine zW ?_|apply a_n|refine zO ?_|refine vZ ?_|refine stZ ?_|refine ak rfl ?_|refine r1Z ?_|fail)) <;> (try clear zz)
 exact ⟨rfl,_,rfl,by rw [aJ,aJ]; rfl⟩
set_option maxRecDepth 100000 in
theorem xb {H:Hp} {nx x:Nat} (hx:0 < x) (h2:x < 4294967296):Abs.Fn Try.prog 107 [.int .u64 x] H nx fun r H' nx'=>nx'=nx∧H'=H∧∃ k:Nat,r=.int .i64 k∧x < 2 ^ k∧2 ^ k ≤ 2 * x:=by
 refine Abs.Fn.of_c2 follows xE (Nat.le_of_ble_eq_true rfl) ?_
 delta yq cO cG cN cM cD cF cB aB aQ
 generalize hT:AV.str (ByteArray.mk (Array.mk [0,1,2,2,3,3,3,3,4,4,4,4,4,4,4,4,5,5,5,5,5,5,5,5,5,5,5,5,5,5,5,5,6,6,6,6,6,6,6,6,6,6,6,6,6,6,6,6,6,6,6,6,6,6,6,6,6,6,6,6,6,6,6,6,7,7,7,7,7,7,7,7,7,7,7,7,7,7,7,7,7,7,7,7,7,7,7,7,7,7,7,7,7,7,7,7,7,7,7,7,7,7,7,7,7,7,7,7,7,7,7,7,7,7,7,7,7,7,7,7,7,7,7,7,7,7,7,7,8,8,8,8,8,8,8,8,8,8,8,8,8,8,8,8,8,8,8,8,8,8,8,8,8,8,8,8,8,8,8,8,8,8,8,8,8,8,8,8,8,8,8,8,8,8,8,8,8,8,8,8,8,8,8,8,8,8,8,8,8,8,8,8,8,8,8,8,8,8,8,8,8,8,8,8,8,8,8,8,8,8,8,8,8,8,8,8,8,8,8,8,8,8,8,8,8,8,8,8,8,8,8,8,8,8,8,8,8,8,8,8,8,8,8,8,8,8,8,8,8,8,8,8,8,8,8,8]))=tb
 have htab:∀ x:Nat,x < 256→iv tb (.int .u8 (x:Nat))=some (.int .u8 (iM x:Nat)):=fun x hx=>by rw [← hT]; exact qG hx
 clear hT
 have s16:∀ z:Nat,aW .shr false false (.int .u64 (z:Nat)) (.int .u64 16)=some (.int .u64 ((z / 2 ^ 16:Nat):Int)):=fun z=>oI (b:=16) (k:=.u64) (k':=.u64) (by decide)
 have s8:∀ z:Nat,aW .shr false false (.int .u64 (z:Nat)) (.int .u64 8)=some (.int .u64 ((z / 2 ^ 8:Nat):Int)):=fun z=>oI (b:=8) (k:=.u64) (k':=.u64) (by decide)
 by_cases h16:65536 ≤ x
 ·obtain ⟨y,hy⟩:∃ y,x / 2 ^ 16=y:=⟨_,rfl⟩
  have hy1:0 < y:=by omega
  have hy2:y < 65536:=by omega
  by_cases h8:256 ≤ y
  ·obtain ⟨z,hz⟩:∃ z,y / 2 ^ 8=z:=⟨_,rfl⟩
   have hz1:0 < z:=by omega
   have hz2:z < 256:=by omega
   have hl:=fN hz2
   have w8:IntKind.wrap .u8 (z:Int)=z:=mJ (by omega) (by omega)
   have ht:=htab z hz2
   (have zz:=aI @s16 (aI @s8 (aI @hy (aI @hz (aI @w8 @ht)))); repeat' (first|refine zW ?_|apply a_n|refine zO ?_|refine vZ ?_|(refine zGZ ?_ ?_ <;> (intro _hg; try (exfalso; omega)))|refine ak rfl ?_|refine r1Z ?_|fail)) <;> (try clear zz)
   have e:x / 2 ^ 24=z:=by rw [← hz,← hy,Nat.div_div_eq_div_mul]
   exact ⟨rfl,rfl,iM z + 24,by congr 1; omega,lh (by rw [e]) (by omega)⟩
  ·have hl:=fN (x:=y) (by omega)
   have w8:IntKind.wrap .u8 (y:Int)=y:=mJ (by omega) (by omega)
   have ht:=htab y (by omega)
   (have zz:=aI @s16 (aI @s8 (aI @hy (aI @w8 @ht))); repeat' (first|refine zW ?_|apply a_n|refine zO ?_|refine vZ ?_|(refine zGZ ?_ ?_ <;> (intro _hg; try (exfalso; omega)))|refine ak rfl ?_|refine r1Z ?_|fail)) <;> (try clear zz)
   exact ⟨rfl,rfl,iM y + 16,by congr 1; omega,lh (by rw [hy]) (by omega)⟩
 ·by_cases h8:256 ≤ x
  ·obtain ⟨z,hz⟩:∃ z,x / 2 ^ 8=z:=⟨_,rfl⟩
   have hz1:0 < z:=by omega
   have hz2:z < 256:=by omega
   have hl:=fN hz2
   have w8:IntKind.wrap .u8 (z:Int)=z:=mJ (by omega) (by omega)
   have ht:=htab z hz2
   (have zz:=aI @s16 (aI @s8 (aI @hz (aI @w8 @ht))); repeat' (first|refine zW ?_|apply a_n|refine zO ?_|refine vZ ?_|(refine zGZ ?_ ?_ <;> (intro _hg; try (exfalso; omega)))|refine ak rfl ?_|refine r1Z ?_|fail)) <;> (try clear zz)
   exact ⟨rfl,rfl,iM z + 8,by congr 1; omega,lh (by rw [hz]) (by omega)⟩
  ·have hl:=fN (x:=x) (by omega)
   have w8:IntKind.wrap .u8 (x:Int)=x:=mJ (by omega) (by omega)
   have ht:=htab x (by omega)
   (have zz:=aI @w8 @ht; repeat' (first|refine zW ?_|apply a_n|refine zO ?_|refine vZ ?_|(refine zGZ ?_ ?_ <;> (intro _hg; try (exfalso; omega)))|refine ak rfl ?_|refine r1Z ?_|fail)) <;> (try clear zz)
   exact ⟨rfl,rfl,iM x + 0,by congr 1; omega,lh (s:=0) (by simp) (by simpa using hx)⟩
theorem xK {H:Hp} {nx x:Nat} (hx:0 < x) (h2:x < 4294967296):Abs.Fn Try.prog 90 [.int .u64 x] H nx fun r H' nx'=>nx'=nx∧H'=H∧∃ k:Nat,r=.int .i64 k∧x < 2 ^ k∧2 ^ k ≤ 2 * x:=by
 refine Abs.Fn.of_c2 follows zJ (Nat.le_of_ble_eq_true rfl) ?_
 simp only [b90,cO,cG,cN,cM,cD,cF,cB,aB,aQ]
 (have zz:=and_self; repeat' (first|refine zW ?_|apply a_n|refine zO ?_|refine vZ ?_|refine cFZ ?_|fail)) <;> (try clear zz)
 refine aU ev0 ev0 (xb hx h2) ?_
 rintro _ _ _ ⟨rfl,rfl,k,rfl,h3,h4⟩
 (have zz:=and_self; repeat' (first|apply a_n|refine zO ?_|refine vZ ?_|refine ak rfl ?_|refine r1Z ?_|fail)) <;> (try clear zz)
 exact ⟨rfl,rfl,k,rfl,h3,h4⟩
theorem ye {H:Hp} {nx x:Nat} (hx:0 < x) (h2:x ≤ 1000000000):Abs.Fn Try.prog 112 [.int .i64 x] H nx fun r H' nx'=>nx'=nx∧H'=H∧∃ k:Nat,r=.int .u64 ((2 ^ k:Nat):Int)∧x < 2 ^ k∧2 ^ k ≤ 2 * x:=by
 have w:IntKind.wrap .u64 (x:Int)=x:=eZ (by omega) (by omega)
 refine Abs.Fn.of_c2 follows zo (Nat.le_of_ble_eq_true rfl) ?_
 simp only [zi,cO,cG,cN,cM,cD,cF,cB,aB,aQ]
 (have zz:=@w; repeat' (first|refine zW ?_|apply a_n|refine zO ?_|refine vZ ?_|fail)) <;> (try clear zz)
 refine aU ev0 (have zz:=@w; evZ) (xK hx (by omega)) ?_
 rintro _ _ _ ⟨rfl,rfl,k,rfl,h3,h4⟩
 have hk:k ≤ 62:=by
  rcases Nat.lt_or_ge 62 k with h | h
  ·have:=Nat.pow_le_pow_right (n:=2) (by omega) h
   omega
  ·exact h
 have sh:aW .shl false false (.int .u64 1) (.int .i64 (k:Int))=some (.int .u64 ((2 ^ k:Nat):Int)):=by
  have h:=wQ (k:=.u64) (k':=.i64) (a:=1) (b:=k) (tb:=false) (tf:=false) (by show k ≤ 64; omega) (by show 1 * 2 ^ k < 2 ^ 63; omega)
  rw [Nat.one_mul] at h
  exact h
 (have zz:=@sh; repeat' (first|apply a_n|refine zO ?_|refine vZ ?_|refine ak rfl ?_|refine r1Z ?_|fail)) <;> (try clear zz)
 exact ⟨rfl,rfl,k,rfl,h3,h4⟩
end Go.Proofs.Ytfcenbapjhecfaa
namespace Go.Proofs.Ytfcenbapjhecfaa
open Go Go.Abs
open Nat (reduceEqDiff reduceAdd reduceLeDiff)
theorem wn {a:Int} {m:Nat} (hm:m < 18446744073709551616):∃ r:Nat,aW .and false false (.int .u64 a) (.int .u64 (m:Nat))=some (.int .u64 (r:Nat))∧r ≤ m:=by
 refine ⟨(BitVec.ofInt 64 a).toNat &&& m,?_,Nat.and_le_right⟩
 show (if (IntKind.u64=IntKind.u64) then db .and .u64 a m else none)=_
 rw [if_pos rfl]
 have h:(BitVec.ofInt 64 a &&& BitVec.ofInt 64 (m:Int)).toNat=(BitVec.ofInt 64 a).toNat &&& m:=by
  rw [BitVec.toNat_and]
  congr 1
  simp [BitVec.toNat_ofInt]
  omega
 have h2:(BitVec.ofInt 64 a).toNat &&& m ≤ m:=Nat.and_le_right
 show some (AV.int .u64 (IntKind.wrap .u64 ((BitVec.ofInt 64 a &&& BitVec.ofInt 64 (m:Int)).toNat:Int)))=_
 rw [h,eZ (by omega) (by omega)]
section
variable {α:Type} [Inhabited α] {f:α→AV} {K:α→α→Int} {G:α→Prop} {g:Nat} {caps:List AV}
attribute [local irreducible] aD aj aX aP aG aL az aM aR bd Go.Abs.Fn aO Go.Abs.Pure aw aF Yl
theorem wS (hc:Cmp Try.prog f K G g caps) {L:List α} {H:Hp} {b nx n a e:Nat} (hH:H b=some (L.map f)) (hbx:b < nx) (hn:L.length=n) (hae:a + 8 ≤ e) (hen:e ≤ n) (hn2:n ≤ 1000000000) :
    Abs.Fn Try.prog 100 [.msl b n 1 0 n,.int .i64 a,.int .i64 e,.func g caps] H nx fun r H' nx'=>nx'=nx + 1∧∃ L',H' b=some (L'.map f)∧(∀ i,i < nx→i ≠ b→H' i=H i)∧PermR a e L L':=by
 obtain ⟨l,rfl⟩:∃ l,e=a + l:=⟨e - a,by omega⟩
 have te:((a + l:Nat):Int) - (a:Int)=(l:Int):=by omega
 obtain ⟨w,hw⟩:∃ w,a + l / 4 * 2 - 1=w:=⟨_,rfl⟩
 have tq:aW .quo false false (.int .i64 (l:Int)) (.int .i64 4)=some (.int .i64 ((l / 4:Nat):Int)):=by
  rw [lj (by omega) (by omega) (by omega)]
  congr 2
 have w1:(a:Int) + ((l / 4:Nat):Int) * 2 - 1=(w:Int):=by omega
 have w2:(a:Int) + ((l / 4:Nat):Int) * 2 + 1=((w + 2:Nat):Int):=by omega
 have hbn:b ≠ nx:=by omega
 have wl:IntKind.wrap .u64 (l:Int)=l:=eZ (by omega) (by omega)
 refine Abs.Fn.of_c2 follows zl (Nat.le_of_ble_eq_true rfl) ?_
 simp only [zn,cO,cG,cN,cM,cD,cF,cB,aB,aQ]
 have ls:∀ x y:AV,bl [x] 0 [y]=[y]:=fun _ _=>rfl
 simp only [bl,List.length_cons,List.length_nil,Nat.zero_add] at ls
 (have zz:=aI @te (aI @wl @ls); repeat' (first|refine zW ?_|apply a_n|refine zO ?_|refine vZ ?_|refine alZ ?_|refine stZ ?_|(refine zGZ ?_ ?_ <;> (intro _hg; try (exfalso; omega)))|fail)) <;> (try clear zz)
 refine aU ev0 ev0 (ye (x:=l) (by omega) (by omega)) ?_
 rintro _ _ _ ⟨rfl,rfl,k,rfl,hk1,hk2⟩
 obtain ⟨p,hp⟩:∃ p,2 ^ k=p + 1:=⟨2 ^ k - 1,by omega⟩
 rw [hp] at hk1 hk2 ⊢
 (have zz:=aI @te (aI @tq @w1); repeat' (first|refine zW ?_|apply a_n|refine zO ?_|refine vZ ?_|fail)) <;> (try clear zz)
 have wm:IntKind.wrap .u64 (((p + 1:Nat):Int) - 1)=(p:Int):=by rw [eZ (by omega) (by omega)]; omega
 refine bb (X:=Nat × List α) (fun x=>[(0,.msl b n 1 0 n),(1,.int .i64 a),(8,.int .i64 l),(9,.ptr nx 1 0),(10,.int .u64 ((p + 1:Nat):Int)),(11,.int .i64 (x.1:Nat))]) (fun x H' nxx=>w ≤ x.1∧x.1 ≤ w + 3∧H' b=some (x.2.map f)∧(∃ s,H' nx=some [.int .u64 s])∧(∀ i,i < nx→i ≠ b→H' i=H i)∧nxx=nx + 1∧PermR a (a + l) L x.2) (fun x=>w + 3 - x.1) (w,L) ⟨Nat.le_refl _,by dsimp only; omega,by dsimp only; rw [ag hbn]; first | exact hH | (rw [ag hbn]; exact hH),⟨_,ah⟩,fun i h1 h2=>by rw [ag (by omega)]; first | rfl | exact ag (by omega),rfl,.refl⟩ (by simp (disch:=omega) only [agr,ZG,reduceEqDiff,↓reduceIte,List.length_cons,List.length_nil,Nat.zero_add,true_and]) ?_
 rintro ⟨i,M⟩ H1 nxx ⟨h1,h2,hb1,⟨s,hs⟩,hfr,rfl,hp1⟩
 dsimp only at *
 have hl:M.length=n:=by rw [hp1.len,hn]
 by_cases hi:i=w + 3
 ·subst hi
  (have zz:=aI @tq @w2; repeat' (first|refine zW ?_|apply a_n|apply a_x|refine zO ?_|refine vZ ?_|(refine zGZ ?_ ?_ <;> (intro _hg; try (exfalso; omega)))|refine ak rfl ?_|fail)) <;> (try clear zz)
  exact ⟨rfl,M,hb1,hfr,hp1⟩
 have ti:((i:Nat):Int) + 1=((i + 1:Nat):Int):=by omega
 (have zz:=aI @tq @w2; repeat' (first|refine zW ?_|apply a_n|refine zO ?_|refine vZ ?_|(refine zGZ ?_ ?_ <;> (intro _hg; try (exfalso; omega)))|fail)) <;> (try clear zz)
 refine aU ev0 ev0 (yn hs) ?_
 rintro _ _ _ ⟨rfl,s1,rfl,rfl⟩
 obtain ⟨r,hr1,hr2⟩:=wn (a:=s1) (m:=p) (by omega)
 obtain ⟨H2,hH2⟩:∃ H2,ar H1 nx [.int .u64 s1]=H2:=⟨_,rfl⟩
 have hb2:H2 b=some (M.map f):=by rw [← hH2,ag hbn]; exact hb1
 have hs2:H2 nx=some [.int .u64 s1]:=by rw [← hH2]; exact ah
 have hfr2:∀ i,i < nx→i ≠ b→H2 i=H i:=fun i k1 k2=>by rw [← hH2,ag (by omega)]; exact hfr i k1 k2
 rw [hH2]
 clear hH2 hb1 hs hfr
 obtain ⟨z,hz,hzl⟩:∃ z:Nat,(if l ≤ r then (r:Int) - l else (r:Int))=(z:Int)∧z < l:=by
  split
  ·exact ⟨r - l,by omega,by omega⟩
  ·exact ⟨r,rfl,by omega⟩
 obtain ⟨M1,hl1,lm1,lm2⟩:=b9 (f:=f) (M:=M) (i:=i) (j:=a + z) (by omega) (by omega)
 have lm3:=lm2
 simp only [bl,List.length_cons,List.length_nil,Nat.zero_add] at lm1 lm2
 by_cases hrl:l ≤ r
 ·rw [if_pos hrl] at hz
  (have zz:=aI @wm (aI @hr1 (aI @hz (aI @hb2 (aI @ti (aI @dQ (aI hc.cells (aI hc.one (aI @lm1 @lm2)))))))); repeat' (first|refine zW ?_|apply a_n|refine zO ?_|refine vZ ?_|refine stZ ?_|(refine zGZ ?_ ?_ <;> (intro _hg; try (exfalso; omega)))|fail)) <;> (try clear zz)
  exact ⟨(i + 1,swp M i (a + z)),by dsimp only; omega,⟨by dsimp only; omega,by dsimp only; omega,by dsimp only; rw [aJ,lm3,ah],⟨s1,by rw [aJ,ag (Ne.symm hbn)]; exact hs2⟩,fun i k1 k2=>by rw [aJ,ag k2]; exact hfr2 i k1 k2,rfl,hp1.trans (PermR.swap (by omega) (by omega) (by omega))⟩,ag0⟩
 ·rw [if_neg hrl] at hz
  have hz':r=z:=by omega
  subst hz'
  (have zz:=aI @wm (aI @hr1 (aI @hb2 (aI @ti (aI @dQ (aI hc.cells (aI hc.one (aI @lm1 @lm2))))))); repeat' (first|refine zW ?_|apply a_n|refine zO ?_|refine vZ ?_|refine stZ ?_|(refine zGZ ?_ ?_ <;> (intro _hg; try (exfalso; omega)))|fail)) <;> (try clear zz)
  exact ⟨(i + 1,swp M i (a + r)),by dsimp only; omega,⟨by dsimp only; omega,by dsimp only; omega,by dsimp only; rw [aJ,lm3,ah],⟨s1,by rw [aJ,ag (Ne.symm hbn)]; exact hs2⟩,fun i k1 k2=>by rw [aJ,ag k2]; exact hfr2 i k1 k2,rfl,hp1.trans (PermR.swap (by omega) (by omega) (by omega))⟩,ag0⟩
end
end Go.Proofs.Ytfcenbapjhecfaa
namespace Go.Proofs.Ytfcenbapjhecfaa
open Go Go.Abs
structure PS (H H1:Hp) (nx n1 b:Nat) (cs:List AV):Prop where
 at_:H1 b=some cs
 fr:∀ i,i < nx→i ≠ b→H1 i=H i
 le:nx ≤ n1
section
variable {H H1 H2:Hp} {nx n1 n2 b:Nat} {cs cs':List AV}
theorem PS.upd (h:PS H H1 nx n1 b cs):PS H (ar H1 b cs') nx n1 b cs':=⟨ah,fun i k1 k2=>by rw [ag k2]; exact h.fr i k1 k2,h.le⟩
theorem PS.new {v:List AV} (hb:b < nx) (h:PS H H1 nx n1 b cs):PS H (ar H1 n1 v) nx (n1 + 1) b cs :=
 have h1:=h.le
 ⟨by rw [ag (by omega)]; exact h.at_,fun i k1 k2=>by rw [ag (by omega)]; exact h.fr i k1 k2,by omega⟩
theorem PS.rec_ (h:PS H H1 nx n1 b cs) (h1:H2 b=some cs') (h2:∀ i,i < n1→i ≠ b→H2 i=H1 i) (h3:n1 ≤ n2):PS H H2 nx n2 b cs' :=
 have h4:=h.le
 ⟨h1,fun i k1 k2=>by rw [h2 i (by omega) k2]; exact h.fr i k1 k2,by omega⟩
end
section
variable {α:Type} [Inhabited α] {f:α→AV} {K:α→α→Int} {G:α→Prop} {g:Nat} {caps:List AV}
structure PI {α:Type} [Inhabited α] (K:α→α→Int) (a e:Nat) (L:List α) (a1 e1:Nat) (M:List α):Prop where
 lo:a ≤ a1
 mid:a1 ≤ e1
 hi:e1 ≤ e
 len:e ≤ L.length
 perm:PermR a e L M
 low:nw K a1 e1 M
 close:∀ N,PermR a1 e1 M N→aZ K a1 e1 N→aZ K a e N
variable {a e a1 e1:Nat} {L M N:List α}
theorem PI.mlen (h:PI K a e L a1 e1 M):e1 ≤ M.length:=by rw [h.perm.len]; exact Nat.le_trans h.hi h.len
theorem PI.start (h1:a ≤ e) (h2:e ≤ L.length) (h3:nw K a e L):PI K a e L a e L:=⟨Nat.le_refl _,h1,Nat.le_refl _,h2,.refl,h3,fun _ _ h=>h⟩
theorem PI.swap (h:PI K a e L a1 e1 M) (hp:PermR a1 e1 M N):PI K a e L a1 e1 N :=
 ⟨h.lo,h.mid,h.hi,h.len,h.perm.trans (hp.mono h.lo h.hi),h.low.perm hp h.mid h.mlen,fun N' k1 k2=>h.close N' (hp.trans k1) k2⟩
theorem PI.done (h:PI K a e L a1 e1 M) (hp:PermR a1 e1 M N) (hs:aZ K a1 e1 N):PermR a e L N∧aZ K a e N:=⟨h.perm.trans (hp.mono h.lo h.hi),h.close N hp hs⟩
theorem PI.equal {v:α} {m:Nat} (hK:Ord K) (h:PI K a e L a1 e1 M) (hp:PermR a1 e1 M N) (hv:¬ K (M.getD (a1 - 1) default) v < 0) (ha:0 < a1) (hm:a1 < m∧m ≤ e1) (h1:∀ p,a1 ≤ p→p < m→¬ K v (N.getD p default) < 0) (h2:∀ q,m ≤ q→q < e1→K v (N.getD q default) < 0):PI K a e L m e1 N:=by
 have hN:=h.swap hp
 have hlow:=hN.low
 have ho:N.getD (a1 - 1) default=M.getD (a1 - 1) default:=hp.out _ (.inl (by omega))
 refine ⟨by have:=h.lo; omega,hm.2,h.hi,h.len,hN.perm,fun q k0 k1 k2=>hK.negtr _ _ _ (h1 (m - 1) (by omega) (by omega)) (hK.asym _ _ (h2 q k1 k2)),fun N' k1 k2=>hN.close N' (k1.mono (by omega) (Nat.le_refl _)) (fun p q c1 c2 c3=>?_)⟩
 by_cases e1':m ≤ p
 ·exact k2 p q e1' c2 c3
 ·rw [k1.out p (.inl (by omega))]
  refine hK.negtr _ _ _ (h1 p c1 (by omega)) ?_
  by_cases e2:m ≤ q
  ·exact hK.asym _ _ (k1.all (p:=fun x=>K v x < 0) hm.2 hN.mlen h2 q e2 c3)
  ·rw [k1.out q (.inl (by omega))]
   exact hK.negtr _ _ _ hv (by rw [← ho]; exact hlow q ha (by omega) c3)
theorem aZ.glue {m:Nat} (hK:Ord K) (h1:aZ K a1 m N) (h2:aZ K (m + 1) e1 N) (h3:∀ p,a1 ≤ p→p < m→¬ K (N.getD m default) (N.getD p default) < 0) (h4:∀ q,m < q→q < e1→¬ K (N.getD q default) (N.getD m default) < 0):aZ K a1 e1 N:=fun p q k1 k2 k3=>by
 by_cases c1:q < m
 ·exact h1 p q k1 k2 c1
 ·by_cases c2:m < p
  ·exact h2 p q c2 k2 k3
  ·by_cases c3:p=m
   ·subst c3; exact h4 q (by omega) k3
   ·by_cases c4:q=m
    ·subst c4; exact h3 p k1 k2
    ·exact hK.negtr _ _ _ (h3 p k1 (by omega)) (h4 q (by omega) k3)
structure TwoS {α:Type} [Inhabited α] (K:α→α→Int) (a1 e1 m:Nat) (N:List α):Prop where
 mid:a1 ≤ m∧m < e1
 lt:∀ p,a1 ≤ p→p < m→¬ K (N.getD m default) (N.getD p default) < 0
 ge:∀ q,m < q→q < e1→¬ K (N.getD q default) (N.getD m default) < 0
theorem TwoS.left {m:Nat} {N':List α} (h:TwoS K a1 e1 m N) (hp:PermR a1 m N N') (hl:e1 ≤ N.length):TwoS K a1 e1 m N' :=
 have hm:=h.mid
 ⟨hm,by
  rw [hp.out m (.inr (Nat.le_refl _))]
  exact hp.all (p:=fun x=>¬ K (N.getD m default) x < 0) hm.1 (by omega) h.lt,fun q k1 k2=>by rw [hp.out m (.inr (Nat.le_refl _)),hp.out q (.inr (by omega))]; exact h.ge q k1 k2⟩
theorem TwoS.right {m:Nat} {N':List α} (h:TwoS K a1 e1 m N) (hp:PermR (m + 1) e1 N N') (hl:e1 ≤ N.length):TwoS K a1 e1 m N' :=
 have hm:=h.mid
 ⟨hm,fun p k1 k2=>by rw [hp.out m (.inl (by omega)),hp.out p (.inl (by omega))]; exact h.lt p k1 k2,by
  rw [hp.out m (.inl (by omega))]
  exact fun q k1 k2=>hp.all (p:=fun x=>¬ K x (N.getD m default) < 0) (by omega) hl (fun i c1 c2=>h.ge i (by omega) c2) q (by omega) k2⟩
theorem PI.left {m:Nat} (hK:Ord K) (h:PI K a e L a1 e1 M) (ht:TwoS K a1 e1 m M) (hp:PermR a1 m M N) (hs:aZ K a1 m N):PI K a e L (m + 1) e1 N:=by
 have hm:=ht.mid
 have hN:=h.swap (hp.mono (Nat.le_refl _) (by omega))
 have htN:=ht.left hp h.mlen
 refine ⟨by have:=h.lo; omega,by omega,h.hi,h.len,hN.perm,fun q k0 k1 k2=>by rw [Nat.add_sub_cancel]; exact htN.ge q k1 k2,fun N' k1 k2=>hN.close N' (k1.mono (by omega) (Nat.le_refl _)) ?_⟩
 have ht':=htN.right k1 hN.mlen
 exact aZ.glue hK (fun p q c1 c2 c3=>by rw [k1.out p (.inl (by omega)),k1.out q (.inl (by omega))]; exact hs p q c1 c2 c3) k2 ht'.lt ht'.ge
theorem PI.right {m:Nat} (hK:Ord K) (h:PI K a e L a1 e1 M) (ht:TwoS K a1 e1 m M) (hp:PermR (m + 1) e1 M N) (hs:aZ K (m + 1) e1 N):PI K a e L a1 m N:=by
 have hm:=ht.mid
 have hN:=h.swap (hp.mono (by omega) (Nat.le_refl _))
 have htN:=ht.right hp h.mlen
 refine ⟨h.lo,hm.1,by have:=h.hi; omega,h.len,hN.perm,fun q k0 k1 k2=>hN.low q k0 k1 (by omega),fun N' k1 k2=>hN.close N' (k1.mono (Nat.le_refl _) (by omega)) ?_⟩
 have ht':=htN.left k1 hN.mlen
 exact aZ.glue hK k2 (fun p q c1 c2 c3=>by rw [k1.out p (.inr (by omega)),k1.out q (.inr (by omega))]; exact hs p q c1 c2 c3) ht'.lt ht'.ge
theorem nw.sub {a e a' e':Nat} {M:List α} (h:nw K a e M) (ha:a'=a) (he:e' ≤ e):nw K a' e' M:=fun q k0 k1 k2=>by subst ha; exact h q k0 k1 (by omega)
end
end Go.Proofs.Ytfcenbapjhecfaa
namespace Go.Proofs.Ytfcenbapjhecfaa
open Go Go.Abs
section
variable {α:Type} [Inhabited α] {f:α→AV} {K:α→α→Int} {G:α→Prop} {g:Nat} {caps:List AV}
attribute [local irreducible] aD aj aX aP aG aL az aM aR bd Go.Abs.Fn aO Go.Abs.Pure aw aF Yl
theorem zT (hc:Cmp Try.prog f K G g caps) {b n:Nat} (hn2:n ≤ 1000000000):∀ (sz a e lim:Nat) (L:List α) (H:Hp) (nx:Nat),e - a < sz→H b=some (L.map f)→b < nx→L.length=n→(∀ x ∈ L,G x)→a ≤ e→e ≤ n→lim ≤ 64→nw K a e L →
    Abs.Fn Try.prog 89 [.msl b n 1 0 n,.int .i64 a,.int .i64 e,.int .i64 lim,.func g caps] H nx fun r H' nx'=>∃ L',PS H H' nx nx' b (L'.map f)∧PermR a e L L'∧aZ K a e L':=by
 intro sz
 induction sz with
 | zero=>intro a e lim L H nx h; omega
 | succ sz ih =>
 intro a e lim L H nx hsz hH hbx hn hG hae hen hlim hlow
 have dcap:=hc.dcaps
 refine Abs.Fn.of_c2 follows zt (Nat.le_of_ble_eq_true rfl) ?_
 simp only [b89,cO,cG,cN,cM,cD,cF,cB,aB,aQ]
 (have zz:=and_self; repeat' (first|refine zW ?_|apply a_n|refine zO ?_|refine vZ ?_|fail)) <;> (try clear zz)
 refine bb (X:=Nat × Nat × Nat × Bool × Bool × List α) (fun x=>[(0,.msl b n 1 0 n),(1,.int .i64 (x.1:Nat)),(2,.int .i64 (x.2.1:Nat)),(3,.int .i64 (x.2.2.1:Nat)),(4,.func g caps),(10,.bool x.2.2.2.1),(11,.bool x.2.2.2.2.1)]) (fun x H' nxx=>PI K a e L x.1 x.2.1 x.2.2.2.2.2∧PS H H' nx nxx b (x.2.2.2.2.2.map f)∧x.2.2.1 ≤ 64) (fun x=>x.2.1 - x.1) (a,e,lim,true,true,L) ⟨.start hae (by rw [hn]; exact hen) hlow,⟨hH,fun _ _ _=>rfl,Nat.le_refl _⟩,hlim⟩ ag0 ?_
 clear hlim hlow lim
 rintro ⟨a1,e1,lim,wb,wp,M⟩ H1 n1 ⟨hpi,hps,hlim⟩
 dsimp only at *
 have hlo:=hpi.lo; have hmid:=hpi.mid; have hhi:=hpi.hi
 obtain ⟨l,hl0⟩:∃ l,e1 - a1=l:=⟨_,rfl⟩
 rw [hl0]
 have te:(e1:Int) - (a1:Int)=(l:Int):=by omega
 have hlen:∀ M:List α,PI K a e L a1 e1 M→M.length=n:=fun M h=>by rw [h.perm.len,hn]
 have hGA:∀ M:List α,PI K a e L a1 e1 M→∀ x ∈ M,G x:=fun M h=>h.perm.mem hG
 have hbn:∀ (M:List α) (H1:Hp) (n1:Nat),PS H H1 nx n1 b (M.map f)→b < n1:=fun M H1 n1 h=>by have:=h.le; omega
 obtain ⟨T,hT,t0,t1,t2,t3,t4,t10,t11⟩:∃ T,tl [(0,.msl b n 1 0 n),(1,.int .i64 (a1:Nat)),(2,.int .i64 (e1:Nat)),(3,.int .i64 (lim:Nat)),(4,.func g caps),(10,.bool wb),(11,.bool wp)]=T∧T 0=.msl b n 1 0 n∧T 1=.int .i64 (a1:Nat)∧T 2=.int .i64 (e1:Nat)∧T 3=.int .i64 (lim:Nat)∧T 4=.func g caps∧T 10=.bool wb∧T 11=.bool wp:=⟨_,rfl,rfl,rfl,rfl,rfl,rfl,rfl,rfl⟩
 rw [hT]
 clear hT
 refine fQ ?_
 refine br (fun T H'' nx''=>T 0=.msl b n 1 0 n∧T 1=.int .i64 (a1:Nat)∧T 2=.int .i64 (e1:Nat)∧T 3=.int .i64 (lim:Nat)∧T 4=.func g caps∧T 10=.bool wb∧T 11=.bool wp∧T 12=.int .i64 (l:Nat)∧H1=H''∧n1=nx'') ?_ ?_
 ·(have zz:=aI @t0 (aI @t1 (aI @t2 (aI @t3 (aI @t4 (aI @t10 (aI @t11 @te)))))); repeat' (first|apply a_n|refine zO ?_|refine vZ ?_|fail)) <;> (try clear zz)
  exact ⟨(have zz:=@t0; evZ),(have zz:=@t1; evZ),(have zz:=@t2; evZ),(have zz:=@t3; evZ),(have zz:=@t4; evZ),(have zz:=@t10; evZ),(have zz:=@t11; evZ),ev0,rfl,rfl⟩
 clear t0 t1 t2 t3 t4 t10 t11
 rintro T _ _ ⟨t0,t1,t2,t3,t4,t10,t11,t12,rfl,rfl⟩
 refine br (fun T H'' nx''=>T 0=.msl b n 1 0 n∧T 1=.int .i64 (a1:Nat)∧T 2=.int .i64 (e1:Nat)∧T 3=.int .i64 (lim:Nat)∧T 4=.func g caps∧T 10=.bool wb∧T 11=.bool wp∧T 12=.int .i64 (l:Nat)∧13 ≤ l∧H1=H''∧n1=nx'') ?_ ?_
 ·by_cases h12:l ≤ 12
  ·(have zz:=aI @t0 (aI @t1 (aI @t2 (aI @t3 (aI @t4 (aI @t10 (aI @t11 @t12)))))); repeat' (first|refine zW ?_|apply a_n|refine zO ?_|refine vZ ?_|(refine zGZ ?_ ?_ <;> (intro _hg; try (exfalso; omega)))|fail)) <;> (try clear zz)
   refine aU ev0 (have zz:=aI @t0 (aI @t1 (aI @t2 (aI @t3 (aI @t4 (aI @t10 (aI @t11 @t12)))))); evZ) (zr hc (b:=b) hps.at_ (hlen _ hpi) (hGA _ hpi) (a:=a1) (e:=e1) hmid (by omega) hn2) ?_
   rintro _ _ _ ⟨rfl,N,rfl,hpN,hsN⟩
   (have zz:=and_self; repeat' (first|apply a_n|apply a_r|refine zO ?_|refine ak rfl ?_|fail)) <;> (try clear zz)
   exact ⟨N,hps.upd,hpi.done hpN hsN⟩
  ·(have zz:=aI @t0 (aI @t1 (aI @t2 (aI @t3 (aI @t4 (aI @t10 (aI @t11 @t12)))))); repeat' (first|refine zW ?_|apply a_n|refine zO ?_|refine vZ ?_|(refine zGZ ?_ ?_ <;> (intro _hg; try (exfalso; omega)))|fail)) <;> (try clear zz)
   exact ⟨(have zz:=@t0; evZ),(have zz:=@t1; evZ),(have zz:=@t2; evZ),(have zz:=@t3; evZ),(have zz:=@t4; evZ),(have zz:=@t10; evZ),(have zz:=@t11; evZ),(have zz:=@t12; evZ),by omega,rfl,rfl⟩
 clear t0 t1 t2 t3 t4 t10 t11 t12
 rintro T _ _ ⟨t0,t1,t2,t3,t4,t10,t11,t12,h13,rfl,rfl⟩
 refine br (fun T H'' nx''=>T 0=.msl b n 1 0 n∧T 1=.int .i64 (a1:Nat)∧T 2=.int .i64 (e1:Nat)∧T 3=.int .i64 (lim:Nat)∧T 4=.func g caps∧T 10=.bool wb∧T 11=.bool wp∧T 12=.int .i64 (l:Nat)∧0 < lim∧H1=H''∧n1=nx'') ?_ ?_
 ·by_cases h12:lim=0
  ·subst h12
   have tz:decide (((0:Nat):Int)=0)=true:=rfl
   (have zz:=aI @t0 (aI @t1 (aI @t2 (aI @t3 (aI @t4 (aI @t10 (aI @t11 (aI @t12 @tz))))))); repeat' (first|refine zW ?_|apply a_n|refine zO ?_|refine vZ ?_|refine cTZ ?_|fail)) <;> (try clear zz)
   refine aU ev0 (have zz:=aI @t0 (aI @t1 (aI @t2 (aI @t3 (aI @t4 (aI @t10 (aI @t11 @t12)))))); evZ) (x7 hc (b:=b) hps.at_ (hlen _ hpi) (hGA _ hpi) (a:=a1) (e:=e1) hmid (by omega) hn2) ?_
   rintro _ _ _ ⟨rfl,N,rfl,hpN,hsN⟩
   (have zz:=and_self; repeat' (first|apply a_n|apply a_r|refine zO ?_|refine ak rfl ?_|fail)) <;> (try clear zz)
   exact ⟨N,hps.upd,hpi.done hpN hsN⟩
  ·have tz:decide ((lim:Int)=0)=false:=decide_eq_false (by omega)
   (have zz:=aI @t0 (aI @t1 (aI @t2 (aI @t3 (aI @t4 (aI @t10 (aI @t11 (aI @t12 @tz))))))); repeat' (first|refine zW ?_|apply a_n|refine zO ?_|refine vZ ?_|refine cFZ ?_|fail)) <;> (try clear zz)
   exact ⟨(have zz:=@t0; evZ),(have zz:=@t1; evZ),(have zz:=@t2; evZ),(have zz:=@t3; evZ),(have zz:=@t4; evZ),(have zz:=@t10; evZ),(have zz:=@t11; evZ),(have zz:=@t12; evZ),by omega,rfl,rfl⟩
 clear t0 t1 t2 t3 t4 t10 t11 t12
 rintro T _ _ ⟨t0,t1,t2,t3,t4,t10,t11,t12,hlim1,rfl,rfl⟩
 refine br (fun T H'' nx''=>∃ (lim:Nat) (M:List α),lim ≤ 64∧PI K a e L a1 e1 M∧PS H H'' nx nx'' b (M.map f)∧T 0=.msl b n 1 0 n∧T 1=.int .i64 (a1:Nat)∧T 2=.int .i64 (e1:Nat)∧T 3=.int .i64 (lim:Nat)∧T 4=.func g caps∧T 10=.bool wb∧T 11=.bool wp∧T 12=.int .i64 (l:Nat)) ?_ ?_
 ·cases wb
  ·obtain ⟨k,rfl⟩:∃ k,lim=k + 1:=⟨lim - 1,by omega⟩
   have tk:((k + 1:Nat):Int) - 1=(k:Int):=by omega
   (have zz:=aI @t0 (aI @t1 (aI @t2 (aI @t3 (aI @t4 (aI @t10 (aI @t11 @t12)))))); repeat' (first|refine zW ?_|apply a_n|refine zO ?_|refine vZ ?_|refine cTZ ?_|fail)) <;> (try clear zz)
   refine aU ev0 (have zz:=aI @t0 (aI @t1 (aI @t2 (aI @t3 (aI @t4 (aI @t10 (aI @t11 @t12)))))); evZ) (wS hc (b:=b) hps.at_ (hbn _ _ _ hps) (hlen _ hpi) (a:=a1) (e:=e1) (by omega) (by omega) hn2) ?_
   rintro _ _ _ ⟨rfl,N,hN1,hN2,hpN⟩
   (have zz:=aI @t0 (aI @t1 (aI @t2 (aI @t3 (aI @t4 (aI @t10 (aI @t11 (aI @t12 @tk))))))); repeat' (first|apply a_n|refine zO ?_|refine vZ ?_|fail)) <;> (try clear zz)
   exact ⟨k,N,by omega,hpi.swap hpN,hps.rec_ hN1 hN2 (Nat.le_succ _),(have zz:=@t0; evZ),(have zz:=@t1; evZ),(have zz:=@t2; evZ),(have zz:=@t3; evZ),(have zz:=@t4; evZ),(have zz:=@t10; evZ),(have zz:=@t11; evZ),(have zz:=@t12; evZ)⟩
  ·(have zz:=aI @t0 (aI @t1 (aI @t2 (aI @t3 (aI @t4 (aI @t10 (aI @t11 @t12)))))); repeat' (first|refine zW ?_|apply a_n|refine zO ?_|refine vZ ?_|refine cFZ ?_|fail)) <;> (try clear zz)
   exact ⟨lim,M,hlim,hpi,hps,(have zz:=@t0; evZ),(have zz:=@t1; evZ),(have zz:=@t2; evZ),(have zz:=@t3; evZ),(have zz:=@t4; evZ),(have zz:=@t10; evZ),(have zz:=@t11; evZ),(have zz:=@t12; evZ)⟩
 clear t0 t1 t2 t3 t4 t10 t11 t12 hpi hps hlim hlim1
 rintro T H1 n1 ⟨lim,M,hlim,hpi,hps,t0,t1,t2,t3,t4,t10,t11,t12⟩
 refine br (fun T H'' nx''=>∃ (p:Nat) (hint:Int),a1 ≤ p∧p < e1∧PS H H'' nx nx'' b (M.map f)∧T 0=.msl b n 1 0 n∧T 1=.int .i64 (a1:Nat)∧T 2=.int .i64 (e1:Nat)∧T 3=.int .i64 (lim:Nat)∧T 4=.func g caps∧T 10=.bool wb∧T 11=.bool wp∧T 12=.int .i64 (l:Nat)∧T 13=.int .i64 (p:Nat)∧T 14=.int .i64 hint) ?_ ?_
 ·(have zz:=aI @t0 (aI @t1 (aI @t2 (aI @t3 (aI @t4 (aI @t10 (aI @t11 @t12)))))); repeat' (first|apply a_n|refine zO ?_|refine vZ ?_|fail)) <;> (try clear zz)
  refine aU ev0 (have zz:=aI @t0 (aI @t1 (aI @t2 (aI @t3 (aI @t4 (aI @t10 (aI @t11 @t12)))))); evZ) (u9 hc (b:=b) hps.at_ (hbn _ _ _ hps) (hlen _ hpi) (hGA _ hpi) (a:=a1) (e:=e1) (by omega) (by omega) hn2) ?_
  rintro _ _ _ ⟨rfl,p,hint,v,rfl,hp1,hp2,rfl⟩
  (have zz:=aI @t0 (aI @t1 (aI @t2 (aI @t3 (aI @t4 (aI @t10 (aI @t11 @t12)))))); repeat' (first|apply a_n|refine zO ?_|refine vZ ?_|fail)) <;> (try clear zz)
  exact ⟨p,hint,hp1,hp2,hps.new hbx,(have zz:=@t0; evZ),(have zz:=@t1; evZ),(have zz:=@t2; evZ),(have zz:=@t3; evZ),(have zz:=@t4; evZ),(have zz:=@t10; evZ),(have zz:=@t11; evZ),(have zz:=@t12; evZ),ev0,ev0⟩
 clear t0 t1 t2 t3 t4 t10 t11 t12 hps
 rintro T H1 n1 ⟨p,hint,hp1,hp2,hps,t0,t1,t2,t3,t4,t10,t11,t12,t13,t14⟩
 refine br (fun T H'' nx''=>∃ (p:Nat) (hint:Int) (M:List α),a1 ≤ p∧p < e1∧PI K a e L a1 e1 M∧PS H H'' nx nx'' b (M.map f)∧T 0=.msl b n 1 0 n∧T 1=.int .i64 (a1:Nat)∧T 2=.int .i64 (e1:Nat)∧T 3=.int .i64 (lim:Nat)∧T 4=.func g caps∧T 10=.bool wb∧T 11=.bool wp∧T 12=.int .i64 (l:Nat)∧T 13=.int .i64 (p:Nat)∧T 14=.int .i64 hint) ?_ ?_
 ·by_cases h2:hint=2
  ·subst h2
   obtain ⟨p2,hp3⟩:∃ p2,e1 - 1 - (p - a1)=p2:=⟨_,rfl⟩
   have tp:(e1:Int) - 1 - ((p:Int) - (a1:Int))=(p2:Int):=by omega
   have tz:decide ((2:Int)=2)=true:=rfl
   (have zz:=aI @t0 (aI @t1 (aI @t2 (aI @t3 (aI @t4 (aI @t10 (aI @t11 (aI @t12 (aI @t13 (aI @t14 @tz))))))))); repeat' (first|refine zW ?_|apply a_n|refine zO ?_|refine vZ ?_|(refine zGZ ?_ ?_ <;> (intro _hg; try (exfalso; omega)))|fail)) <;> (try clear zz)
   refine aU ev0 (have zz:=aI @t0 (aI @t1 (aI @t2 (aI @t3 (aI @t4 (aI @t10 (aI @t11 @t12)))))); evZ) (zb hc (b:=b) hps.at_ (hlen _ hpi) (a:=a1) (e:=e1) (by omega) (by omega) hn2) ?_
   rintro _ _ _ ⟨rfl,N,rfl,hpN⟩
   (have zz:=aI @t0 (aI @t1 (aI @t2 (aI @t3 (aI @t4 (aI @t10 (aI @t11 (aI @t12 (aI @t13 (aI @t14 @tp))))))))); repeat' (first|refine zW ?_|apply a_n|refine zO ?_|refine vZ ?_|fail)) <;> (try clear zz)
   exact ⟨p2,1,N,by omega,by omega,hpi.swap hpN,hps.upd,(have zz:=@t0; evZ),(have zz:=@t1; evZ),(have zz:=@t2; evZ),(have zz:=@t3; evZ),(have zz:=@t4; evZ),(have zz:=@t10; evZ),(have zz:=@t11; evZ),(have zz:=@t12; evZ),ev0,ev0⟩
  ·have tz:decide (hint=2)=false:=decide_eq_false h2
   (have zz:=aI @t0 (aI @t1 (aI @t2 (aI @t3 (aI @t4 (aI @t10 (aI @t11 (aI @t12 (aI @t13 (aI @t14 @tz))))))))); repeat' (first|refine zW ?_|apply a_n|refine zO ?_|refine vZ ?_|refine cFZ ?_|fail)) <;> (try clear zz)
   exact ⟨p,hint,M,hp1,hp2,hpi,hps,(have zz:=@t0; evZ),(have zz:=@t1; evZ),(have zz:=@t2; evZ),(have zz:=@t3; evZ),(have zz:=@t4; evZ),(have zz:=@t10; evZ),(have zz:=@t11; evZ),(have zz:=@t12; evZ),(have zz:=@t13; evZ),(have zz:=@t14; evZ)⟩
 clear t0 t1 t2 t3 t4 t10 t11 t12 t13 t14 hps hpi hp1 hp2
 rintro T H1 n1 ⟨p,hint,M,hp1,hp2,hpi,hps,t0,t1,t2,t3,t4,t10,t11,t12,t13,t14⟩
 refine br (fun T H'' nx''=>∃ (M:List α),PI K a e L a1 e1 M∧PS H H'' nx nx'' b (M.map f)∧T 0=.msl b n 1 0 n∧T 1=.int .i64 (a1:Nat)∧T 2=.int .i64 (e1:Nat)∧T 3=.int .i64 (lim:Nat)∧T 4=.func g caps∧T 10=.bool wb∧T 11=.bool wp∧T 12=.int .i64 (l:Nat)∧T 13=.int .i64 (p:Nat)) ?_ ?_
 ·cases wb
  ·cases wp
   ·(have zz:=aI @t0 (aI @t1 (aI @t2 (aI @t3 (aI @t4 (aI @t10 (aI @t11 (aI @t12 (aI @t13 @t14)))))))); repeat' (first|refine zW ?_|apply a_n|refine zO ?_|refine vZ ?_|refine gFZ ?_|refine cFZ ?_|fail)) <;> (try clear zz)
    exact ⟨M,hpi,hps,(have zz:=@t0; evZ),(have zz:=@t1; evZ),(have zz:=@t2; evZ),(have zz:=@t3; evZ),(have zz:=@t4; evZ),(have zz:=@t10; evZ),(have zz:=@t11; evZ),(have zz:=@t12; evZ),(have zz:=@t13; evZ)⟩
   ·(have zz:=aI @t0 (aI @t1 (aI @t2 (aI @t3 (aI @t4 (aI @t10 (aI @t11 (aI @t12 (aI @t13 @t14)))))))); repeat' (first|refine zW ?_|apply a_n|refine zO ?_|refine vZ ?_|refine gFZ ?_|refine cFZ ?_|fail)) <;> (try clear zz)
    exact ⟨M,hpi,hps,(have zz:=@t0; evZ),(have zz:=@t1; evZ),(have zz:=@t2; evZ),(have zz:=@t3; evZ),(have zz:=@t4; evZ),(have zz:=@t10; evZ),(have zz:=@t11; evZ),(have zz:=@t12; evZ),(have zz:=@t13; evZ)⟩
  ·cases wp
   ·(have zz:=aI @t0 (aI @t1 (aI @t2 (aI @t3 (aI @t4 (aI @t10 (aI @t11 (aI @t12 (aI @t13 @t14)))))))); repeat' (first|refine zW ?_|apply a_n|refine zO ?_|refine vZ ?_|refine gTZ ?_|refine gFZ ?_|refine cFZ ?_|fail)) <;> (try clear zz)
    exact ⟨M,hpi,hps,(have zz:=@t0; evZ),(have zz:=@t1; evZ),(have zz:=@t2; evZ),(have zz:=@t3; evZ),(have zz:=@t4; evZ),(have zz:=@t10; evZ),(have zz:=@t11; evZ),(have zz:=@t12; evZ),(have zz:=@t13; evZ)⟩
   ·by_cases h1:hint=1
    ·subst h1
     have tz:decide ((1:Int)=1)=true:=rfl
     (have zz:=aI @t0 (aI @t1 (aI @t2 (aI @t3 (aI @t4 (aI @t10 (aI @t11 (aI @t12 (aI @t13 (aI @t14 @tz))))))))); repeat' (first|refine zW ?_|apply a_n|refine zO ?_|refine vZ ?_|refine gTZ ?_|(refine zGZ ?_ ?_ <;> (intro _hg; try (exfalso; omega)))|fail)) <;> (try clear zz)
     refine aU ev0 (have zz:=aI @t0 (aI @t1 (aI @t2 (aI @t3 (aI @t4 (aI @t10 (aI @t11 @t12)))))); evZ) (uq hc (b:=b) hps.at_ (hlen _ hpi) (hGA _ hpi) (a:=a1) (e:=e1) (by omega) (by omega) hn2 hpi.low) ?_
     rintro _ _ _ ⟨rfl,N,t,rfl,rfl,hpN,hsN⟩
     cases t
     ·(have zz:=aI @t0 (aI @t1 (aI @t2 (aI @t3 (aI @t4 (aI @t10 (aI @t11 (aI @t12 (aI @t13 @t14)))))))); repeat' (first|apply a_n|refine zO ?_|refine cFZ ?_|fail)) <;> (try clear zz)
      exact ⟨N,hpi.swap hpN,hps.upd,(have zz:=@t0; evZ),(have zz:=@t1; evZ),(have zz:=@t2; evZ),(have zz:=@t3; evZ),(have zz:=@t4; evZ),(have zz:=@t10; evZ),(have zz:=@t11; evZ),(have zz:=@t12; evZ),(have zz:=@t13; evZ)⟩
     ·(have zz:=aI @t0 (aI @t1 (aI @t2 (aI @t3 (aI @t4 (aI @t10 (aI @t11 (aI @t12 (aI @t13 @t14)))))))); repeat' (first|apply a_n|apply a_r|refine zO ?_|refine cTZ ?_|refine ak rfl ?_|fail)) <;> (try clear zz)
      exact ⟨N,hps.upd,hpi.done hpN (hsN rfl)⟩
    ·have tz:decide (hint=1)=false:=decide_eq_false h1
     (have zz:=aI @t0 (aI @t1 (aI @t2 (aI @t3 (aI @t4 (aI @t10 (aI @t11 (aI @t12 (aI @t13 (aI @t14 @tz))))))))); repeat' (first|refine zW ?_|apply a_n|refine zO ?_|refine vZ ?_|refine gTZ ?_|refine cFZ ?_|fail)) <;> (try clear zz)
     exact ⟨M,hpi,hps,(have zz:=@t0; evZ),(have zz:=@t1; evZ),(have zz:=@t2; evZ),(have zz:=@t3; evZ),(have zz:=@t4; evZ),(have zz:=@t10; evZ),(have zz:=@t11; evZ),(have zz:=@t12; evZ),(have zz:=@t13; evZ)⟩
 clear t0 t1 t2 t3 t4 t10 t11 t12 t13 t14 hps hpi hint
 rintro T H1 n1 ⟨M,hpi,hps,t0,t1,t2,t3,t4,t10,t11,t12,t13⟩
 have hbb:=hps.at_
 have hl:=hlen _ hpi
 have hGM:=hGA _ hpi
 refine br (fun T H'' nx''=>T 0=.msl b n 1 0 n∧T 1=.int .i64 (a1:Nat)∧T 2=.int .i64 (e1:Nat)∧T 3=.int .i64 (lim:Nat)∧T 4=.func g caps∧T 10=.bool wb∧T 11=.bool wp∧T 12=.int .i64 (l:Nat)∧T 13=.int .i64 (p:Nat)∧H1=H''∧n1=nx'') ?_ ?_
 ·by_cases ha0:a1=0
  ·have tz:decide ((0:Int) < (a1:Int))=false:=decide_eq_false (by omega)
   (have zz:=aI @t0 (aI @t1 (aI @t2 (aI @t3 (aI @t4 (aI @t10 (aI @t11 (aI @t12 (aI @t13 @tz)))))))); repeat' (first|refine zW ?_|refine zM ?_|apply a_n|refine zO ?_|refine vZ ?_|refine gFZ ?_|refine cFZ ?_|fail)) <;> (try clear zz)
   exact ⟨(have zz:=@t0; evZ),(have zz:=@t1; evZ),(have zz:=@t2; evZ),(have zz:=@t3; evZ),(have zz:=@t4; evZ),(have zz:=@t10; evZ),(have zz:=@t11; evZ),(have zz:=@t12; evZ),(have zz:=@t13; evZ),rfl,rfl⟩
  have tz:decide ((0:Int) < (a1:Int))=true:=decide_eq_true (by omega)
  obtain ⟨k,hk⟩:∃ k,a1 - 1=k:=⟨_,rfl⟩
  have tk:(a1:Int) - 1=(k:Int):=by omega
  have lc:=hc.run (M.getD k default) (M.getD p default) (hGM _ (aV (by omega))) (hGM _ (aV (by omega)))
  have d1:=hc.dat (M.getD k default)
  have d2:=hc.dat (M.getD p default)
  generalize hKK:K (M.getD k default) (M.getD p default)=kk at lc
  by_cases hlt:kk < 0
  ·(have zz:=aI @t0 (aI @t1 (aI @t2 (aI @t3 (aI @t4 (aI @t10 (aI @t11 (aI @t12 (aI @t13 (aI @tz (aI @tk (aI @hbb (aI @Int.toNat_natCast (aI hc.cells hc.one))))))))))))); repeat' (first|refine zW ?_|refine zM ?_|apply a_n|refine zO ?_|refine vZ ?_|refine cZ ?_ (hp:=lc) (hs:=by (first | refine ab ?_ rfl | apply ae); (repeat' (first | exact aa | apply am | apply af | exact d1 | exact d2 | exact aN dcap)); first | done | fail)|refine gTZ ?_|(refine zGZ ?_ ?_ <;> (intro _hg; try (exfalso; omega)))|fail)) <;> (try clear zz)
   exact ⟨(have zz:=@t0; evZ),(have zz:=@t1; evZ),(have zz:=@t2; evZ),(have zz:=@t3; evZ),(have zz:=@t4; evZ),(have zz:=@t10; evZ),(have zz:=@t11; evZ),(have zz:=@t12; evZ),(have zz:=@t13; evZ),rfl,rfl⟩
  ·(have zz:=aI @t0 (aI @t1 (aI @t2 (aI @t3 (aI @t4 (aI @t10 (aI @t11 (aI @t12 (aI @t13 (aI @tz (aI @tk (aI @hbb (aI @Int.toNat_natCast (aI hc.cells hc.one))))))))))))); repeat' (first|refine zW ?_|refine zM ?_|apply a_n|refine zO ?_|refine vZ ?_|refine cZ ?_ (hp:=lc) (hs:=by (first | refine ab ?_ rfl | apply ae); (repeat' (first | exact aa | apply am | apply af | exact d1 | exact d2 | exact aN dcap)); first | done | fail)|refine gTZ ?_|(refine zGZ ?_ ?_ <;> (intro _hg; try (exfalso; omega)))|fail)) <;> (try clear zz)
   refine aU ev0 (have zz:=aI @t0 (aI @t1 (aI @t2 (aI @t3 (aI @t4 (aI @t10 (aI @t11 (aI @t12 @t13))))))); evZ) (wc hc (b:=b) hps.at_ (hlen _ hpi) (hGA _ hpi) (a:=a1) (e:=e1) (pv:=p) (by omega) (by omega) hn2 ⟨hp1,hp2⟩) ?_
   rintro _ _ _ ⟨rfl,N,m,rfl,hm1,hm2,rfl,hpN,q1,q2⟩
   (have zz:=aI @t0 (aI @t1 (aI @t2 (aI @t3 (aI @t4 (aI @t10 (aI @t11 (aI @t12 @t13))))))); repeat' (first|refine zW ?_|apply a_n|apply a_x|refine zO ?_|refine vZ ?_|fail)) <;> (try clear zz)
   exact ⟨(m,e1,lim,wb,wp,N),by dsimp only; omega,⟨hpi.equal hc.ord hpN (by rw [hk,hKK]; exact hlt) (by omega) ⟨hm1,hm2⟩ q1 q2,hps.upd,hlim⟩,(have zz:=aI @t0 (aI @t1 (aI @t2 (aI @t3 (aI @t4 (aI @t10 (aI @t11 @t12)))))); agZ)⟩
 clear t0 t1 t2 t3 t4 t10 t11 t12 t13
 rintro T _ _ ⟨t0,t1,t2,t3,t4,t10,t11,t12,t13,rfl,rfl⟩
 refine br (fun T H'' nx''=>∃ (M:List α) (m:Nat) (t:Bool),PI K a e L a1 e1 M∧TwoS K a1 e1 m M∧PS H H'' nx nx'' b (M.map f)∧T 0=.msl b n 1 0 n∧T 1=.int .i64 (a1:Nat)∧T 2=.int .i64 (e1:Nat)∧T 3=.int .i64 (lim:Nat)∧T 4=.func g caps∧T 10=.bool wb∧T 11=.bool wp∧T 12=.int .i64 (l:Nat)∧T 16=.int .i64 (m:Nat)∧T 17=.bool t) ?_ ?_
 ·(have zz:=aI @t0 (aI @t1 (aI @t2 (aI @t3 (aI @t4 (aI @t10 (aI @t11 (aI @t12 @t13))))))); repeat' (first|apply a_n|refine zO ?_|refine vZ ?_|fail)) <;> (try clear zz)
  refine aU ev0 (have zz:=aI @t0 (aI @t1 (aI @t2 (aI @t3 (aI @t4 (aI @t10 (aI @t11 (aI @t12 @t13))))))); evZ) (yz hc (b:=b) hps.at_ (hlen _ hpi) (hGA _ hpi) (a:=a1) (e:=e1) (pv:=p) (by omega) (by omega) hn2 ⟨hp1,hp2⟩) ?_
  rintro _ _ _ ⟨rfl,N,m,t,rfl,hm1,hm2,rfl,hpN,q1,q2⟩
  (have zz:=aI @t0 (aI @t1 (aI @t2 (aI @t3 (aI @t4 (aI @t10 (aI @t11 (aI @t12 @t13))))))); repeat' (first|apply a_n|refine zO ?_|refine vZ ?_|fail)) <;> (try clear zz)
  exact ⟨N,m,t,hpi.swap hpN,⟨⟨hm1,hm2⟩,fun p k1 k2=>hc.ord.asym _ _ (q1 p k1 k2),q2⟩,hps.upd,(have zz:=@t0; evZ),(have zz:=@t1; evZ),(have zz:=@t2; evZ),(have zz:=@t3; evZ),(have zz:=@t4; evZ),(have zz:=@t10; evZ),(have zz:=@t11; evZ),(have zz:=@t12; evZ),ev0,ev0⟩
 clear t0 t1 t2 t3 t4 t10 t11 t12 t13 hbb hl hGM hpi hps hp1 hp2 p
 rintro T H1 n1 ⟨M,m,t,hpi,hts,hps,t0,t1,t2,t3,t4,t10,t11,t12,t16,t17⟩
 have hm:=hts.mid
 have hl:=hlen _ hpi
 have tq:aW .quo false false (.int .i64 (l:Int)) (.int .i64 8)=some (.int .i64 ((l / 8:Nat):Int)):=by
  rw [lj (by omega) (by omega) (by omega)]
  congr 2
 have tm:(m:Int) + 1=((m + 1:Nat):Int):=by omega
 by_cases hlr:(m:Int) - (a1:Int) < (e1:Int) - (m:Int)
 ·have tz:decide ((m:Int) - (a1:Int) < (e1:Int) - (m:Int))=true:=decide_eq_true hlr
  (have zz:=aI @t0 (aI @t1 (aI @t2 (aI @t3 (aI @t4 (aI @t10 (aI @t11 (aI @t12 (aI @t16 (aI @t17 (aI @tq @tz)))))))))); repeat' (first|refine zW ?_|apply a_n|refine zO ?_|refine vZ ?_|refine cTZ ?_|fail)) <;> (try clear zz)
  refine aU ev0 (have zz:=aI @t0 (aI @t1 (aI @t2 (aI @t3 (aI @t4 (aI @t10 (aI @t11 (aI @t12 (aI @t16 @t17)))))))); evZ) (ih a1 m lim M H1 n1 (by omega) hps.at_ (hbn _ _ _ hps) hl (hGA _ hpi) (by omega) (by omega) hlim (hpi.low.sub rfl (by omega))) ?_
  rintro _ H2 n2 ⟨N,hps2,hpN,hsN⟩
  (have zz:=aI @t0 (aI @t1 (aI @t2 (aI @t3 (aI @t4 (aI @t10 (aI @t11 (aI @t12 (aI @t16 (aI @t17 @tm))))))))); repeat' (first|apply a_n|refine zO ?_|refine vZ ?_|fail)) <;> (try clear zz)
  exact ⟨(m + 1,e1,lim,decide (((l / 8:Nat):Int) ≤ (m:Int) - (a1:Int)),t,N),by dsimp only; omega,⟨hpi.left hc.ord hts hpN hsN,hps.rec_ hps2.at_ hps2.fr hps2.le,hlim⟩,(have zz:=aI @t0 (aI @t1 (aI @t2 (aI @t3 (aI @t4 (aI @t10 (aI @t11 (aI @t12 (aI @t16 @t17)))))))); agZ)⟩
 ·have tz:decide ((m:Int) - (a1:Int) < (e1:Int) - (m:Int))=false:=decide_eq_false hlr
  (have zz:=aI @t0 (aI @t1 (aI @t2 (aI @t3 (aI @t4 (aI @t10 (aI @t11 (aI @t12 (aI @t16 (aI @t17 (aI @tq (aI @tz @tm))))))))))); repeat' (first|refine zW ?_|apply a_n|refine zO ?_|refine vZ ?_|refine cFZ ?_|fail)) <;> (try clear zz)
  refine aU ev0 (have zz:=aI @t0 (aI @t1 (aI @t2 (aI @t3 (aI @t4 (aI @t10 (aI @t11 (aI @t12 (aI @t16 @t17)))))))); evZ) (ih (m + 1) e1 lim M H1 n1 (by omega) hps.at_ (hbn _ _ _ hps) hl (hGA _ hpi) (by omega) (by omega) hlim (fun q k0 k1 k2=>by rw [Nat.add_sub_cancel]; exact hts.ge q k1 k2)) ?_
  rintro _ H2 n2 ⟨N,hps2,hpN,hsN⟩
  (have zz:=aI @t0 (aI @t1 (aI @t2 (aI @t3 (aI @t4 (aI @t10 (aI @t11 (aI @t12 (aI @t16 @t17)))))))); repeat' (first|apply a_n|refine zO ?_|refine vZ ?_|fail)) <;> (try clear zz)
  exact ⟨(a1,m,lim,decide (((l / 8:Nat):Int) ≤ (e1:Int) - (m:Int)),t,N),by dsimp only; omega,⟨hpi.right hc.ord hts hpN hsN,hps.rec_ hps2.at_ hps2.fr hps2.le,hlim⟩,(have zz:=aI @t0 (aI @t1 (aI @t2 (aI @t3 (aI @t4 (aI @t10 (aI @t11 (aI @t12 (aI @t16 @t17)))))))); agZ)⟩
end
end Go.Proofs.Ytfcenbapjhecfaa
namespace Go.Proofs.Ytfcenbapjhecfaa
open Go Go.Abs
open Nat (reduceEqDiff reduceAdd reduceLeDiff)
section
variable {α:Type} [Inhabited α] {f:α→AV} {K:α→α→Int} {G:α→Prop} {g:Nat} {caps:List AV}
attribute [local irreducible] aD aj aX aP aG aL az aM aR bd Go.Abs.Fn aO Go.Abs.Pure aw aF Yl
set_option maxRecDepth 100000 in
theorem wD {H:Hp} {nx:Nat}:Abs.Fn Try.prog 107 [.int .u64 0] H nx fun r H' nx'=>nx'=nx∧H'=H∧r=.int .i64 0:=by
 refine Abs.Fn.of_c2 follows xE (Nat.le_of_ble_eq_true rfl) ?_
 delta yq cO cG cN cM cD cF cB aB aQ
 generalize hT:AV.str (ByteArray.mk (Array.mk [0,1,2,2,3,3,3,3,4,4,4,4,4,4,4,4,5,5,5,5,5,5,5,5,5,5,5,5,5,5,5,5,6,6,6,6,6,6,6,6,6,6,6,6,6,6,6,6,6,6,6,6,6,6,6,6,6,6,6,6,6,6,6,6,7,7,7,7,7,7,7,7,7,7,7,7,7,7,7,7,7,7,7,7,7,7,7,7,7,7,7,7,7,7,7,7,7,7,7,7,7,7,7,7,7,7,7,7,7,7,7,7,7,7,7,7,7,7,7,7,7,7,7,7,7,7,7,7,8,8,8,8,8,8,8,8,8,8,8,8,8,8,8,8,8,8,8,8,8,8,8,8,8,8,8,8,8,8,8,8,8,8,8,8,8,8,8,8,8,8,8,8,8,8,8,8,8,8,8,8,8,8,8,8,8,8,8,8,8,8,8,8,8,8,8,8,8,8,8,8,8,8,8,8,8,8,8,8,8,8,8,8,8,8,8,8,8,8,8,8,8,8,8,8,8,8,8,8,8,8,8,8,8,8,8,8,8,8,8,8,8,8,8,8,8,8,8,8,8,8,8,8,8,8,8,8]))=tb
 have ht:iv tb (.int .u8 0)=some (.int .u8 0):=by rw [← hT]; exact qG (x:=0) (by decide)
 clear hT
 have w8:IntKind.wrap .u8 0=0:=by decide
 (have zz:=aI @w8 @ht; repeat' (first|refine zW ?_|apply a_n|refine zO ?_|refine vZ ?_|(refine zGZ ?_ ?_ <;> (intro _hg; try (exfalso; omega)))|refine ak rfl ?_|refine r1Z ?_|fail)) <;> (try clear zz)
 exact ⟨rfl,rfl,by congr 1⟩
theorem yQ {H:Hp} {nx:Nat}:Abs.Fn Try.prog 90 [.int .u64 0] H nx fun r H' nx'=>nx'=nx∧H'=H∧r=.int .i64 0:=by
 refine Abs.Fn.of_c2 follows zJ (Nat.le_of_ble_eq_true rfl) ?_
 simp only [b90,cO,cG,cN,cM,cD,cF,cB,aB,aQ]
 (have zz:=and_self; repeat' (first|refine zW ?_|apply a_n|refine zO ?_|refine vZ ?_|refine cFZ ?_|fail)) <;> (try clear zz)
 refine aU ev0 ev0 wD ?_
 rintro _ _ _ ⟨rfl,rfl,rfl⟩
 (have zz:=and_self; repeat' (first|apply a_n|refine zO ?_|refine vZ ?_|refine ak rfl ?_|refine r1Z ?_|fail)) <;> (try clear zz)
 exact ⟨rfl,rfl,rfl⟩
theorem ss (hc:Cmp Try.prog f K G g caps) {L:List α} {H:Hp} {b nx n:Nat} (hH:H b=some (L.map f)) (hbx:b < nx) (hn:L.length=n) (hn0:0 < n) (hG:∀ x ∈ L,G x) (hn2:n ≤ 1000000000) :
    Abs.Fn Try.prog 73 [.msl b n 1 0 n,.func g caps] H nx fun r H' nx'=>∃ L',PS H H' nx nx' b (L'.map f)∧L'.Perm L∧aZ K 0 n L':=by
 refine Abs.Fn.of_c2 follows zh (Nat.le_of_ble_eq_true rfl) ?_
 simp only [b73,cO,cG,cN,cM,cD,cF,cB,aB,aQ]
 have w:IntKind.wrap .u64 (n:Int)=n:=eZ (by omega) (by omega)
 (have zz:=@w; repeat' (first|refine zW ?_|apply a_n|refine zO ?_|refine vZ ?_|fail)) <;> (try clear zz)
 refine aU ev0 (have zz:=@w; evZ) (xK hn0 (by omega)) ?_
 rintro _ _ _ ⟨rfl,rfl,k,rfl,h3,h4⟩
 have hk:k ≤ 62:=by
  rcases Nat.lt_or_ge 62 k with h | h
  ·have:=Nat.pow_le_pow_right (n:=2) (by omega) h
   omega
  ·exact h
 (have zz:=and_self; repeat' (first|apply a_n|refine zO ?_|refine vZ ?_|fail)) <;> (try clear zz)
 refine aU ev0 (have zz:=@Int.natCast_zero; evZ) (zT hc hn2 (n + 1) 0 n k L _ _ (by omega) hH hbx hn hG (by omega) (Nat.le_refl _) (by omega) (fun q h=>by omega)) ?_
 rintro _ _ _ ⟨N,hps,hp,hs⟩
 (have zz:=and_self; repeat' (first|apply a_n|refine zO ?_|refine ak rfl ?_|fail)) <;> (try clear zz)
 exact ⟨N,hps,hp.perm,hs⟩
end
end Go.Proofs.Ytfcenbapjhecfaa
namespace Go.Proofs.Ytfcenbapjhecfaa
open Go Go.Abs
def _root_.List.c2 {α:Type} (l:List α) (f:α→AV):List AV:=l.flatMap fun x=>(f x).cells
structure Cmp2 {α:Type} (P:Program) (f:α→AV) (K:α→α→Int) (G:α→Prop) (g:Nat) (caps:List AV):Prop where
 len:∀ x,(f x).cells.length=2
 agg:∀ x,AV.agg (f x).cells=f x
 ones:∀ x,AV.ones (f x).cells=true
 dat:∀ x,Dat (f x)
 dcaps:∀ x ∈ caps,Dat x
 run:∀ x y,G x→G y→Go.Abs.Pure P g (f x :: f y :: caps) (.int .i64 (K x y))
 ord:Ord K
section
variable {α:Type} {f:α→AV} (h:∀ x,(f x).cells.length=2)
include h
end
section
variable {α:Type} [Inhabited α] {f:α→AV} {K:α→α→Int} {G:α→Prop} {g:Nat} {caps:List AV}
attribute [local irreducible] aD aj aX aP aG aL az aM aR bd Go.Abs.Fn aO Go.Abs.Pure aw aF Yl
end
end Go.Proofs.Ytfcenbapjhecfaa
namespace Go.Proofs.Ytfcenbapjhecfaa
open Go Go.Abs
section
variable {α:Type} [Inhabited α] {f:α→AV} {K:α→α→Int} {G:α→Prop} {g:Nat} {caps:List AV}
attribute [local irreducible] aD aj aX aP aG aL az aM aR bd Go.Abs.Fn aO Go.Abs.Pure aw aF Yl
end
end Go.Proofs.Ytfcenbapjhecfaa
namespace Go.Proofs.Ytfcenbapjhecfaa
open Go Go.Abs
section
variable {α:Type} [Inhabited α] {f:α→AV} {K:α→α→Int} {G:α→Prop} {g:Nat} {caps:List AV}
attribute [local irreducible] aD aj aX aP aG aL az aM aR bd Go.Abs.Fn aO Go.Abs.Pure aw aF Yl
end
end Go.Proofs.Ytfcenbapjhecfaa
namespace Go.Proofs.Ytfcenbapjhecfaa
open Go Go.Abs
section
variable {α:Type} [Inhabited α] {f:α→AV} {K:α→α→Int} {G:α→Prop} {g:Nat} {caps:List AV}
attribute [local irreducible] aD aj aX aP aG aL az aM aR bd Go.Abs.Fn aO Go.Abs.Pure aw aF Yl
end
end Go.Proofs.Ytfcenbapjhecfaa
namespace Go.Proofs.Ytfcenbapjhecfaa
open Go Go.Abs
section
variable {α:Type} [Inhabited α] {f:α→AV} {K:α→α→Int} {G:α→Prop} {g:Nat} {caps:List AV}
attribute [local irreducible] aD aj aX aP aG aL az aM aR bd Go.Abs.Fn aO Go.Abs.Pure aw aF Yl
end
end Go.Proofs.Ytfcenbapjhecfaa
namespace Go.Proofs.Ytfcenbapjhecfaa
open Go Go.Abs
section
variable {α:Type} [Inhabited α] {f:α→AV} {K:α→α→Int} {G:α→Prop} {g:Nat} {caps:List AV}
attribute [local irreducible] aD aj aX aP aG aL az aM aR bd Go.Abs.Fn aO Go.Abs.Pure aw aF Yl
end
end Go.Proofs.Ytfcenbapjhecfaa
namespace Go.Proofs.Ytfcenbapjhecfaa
open Go Go.Abs
section
variable {α:Type} [Inhabited α] {f:α→AV} {K:α→α→Int} {G:α→Prop} {g:Nat} {caps:List AV}
attribute [local irreducible] aD aj aX aP aG aL az aM aR bd Go.Abs.Fn aO Go.Abs.Pure aw aF Yl
end
end Go.Proofs.Ytfcenbapjhecfaa
namespace Go.Proofs.Ytfcenbapjhecfaa
open Go Go.Abs
section
variable {α:Type} [Inhabited α] {f:α→AV} {K:α→α→Int} {G:α→Prop} {g:Nat} {caps:List AV}
attribute [local irreducible] aD aj aX aP aG aL az aM aR bd Go.Abs.Fn aO Go.Abs.Pure aw aF Yl
end
end Go.Proofs.Ytfcenbapjhecfaa
namespace Go.Proofs.Ytfcenbapjhecfaa
open Go Go.Abs
section
variable {α:Type} [Inhabited α] {f:α→AV} {K:α→α→Int} {G:α→Prop} {g:Nat} {caps:List AV}
attribute [local irreducible] aD aj aX aP aG aL az aM aR bd Go.Abs.Fn aO Go.Abs.Pure aw aF Yl
end
end Go.Proofs.Ytfcenbapjhecfaa
namespace Go.Proofs.Ytfcenbapjhecfaa
open Go Go.Abs
section
variable {α:Type} [Inhabited α] {f:α→AV} {K:α→α→Int} {G:α→Prop} {g:Nat} {caps:List AV}
attribute [local irreducible] aD aj aX aP aG aL az aM aR bd Go.Abs.Fn aO Go.Abs.Pure aw aF Yl
end
end Go.Proofs.Ytfcenbapjhecfaa
namespace Go.Proofs.Ytfcenbapjhecfaa
open Go Go.Abs
theorem rp {B n len k:Nat} (h:k ≤ len) (hn:n ≠ 0):ir 2 (.msl B n 2 0 len) none (some (.int .i64 k)) none=some (.msl B n 2 0 k):=by
 simp only [ir,a9,Int.natCast_nonneg,if_true,Int.toNat_natCast]
 rw [if_pos ⟨trivial,by omega,h,hn⟩,if_pos (.inl trivial),Nat.zero_mul,Nat.sub_zero]
theorem s9 {H:Hp} {B:Nat} {cs:List AV} (hH:H B=some cs):H=ar H B cs:=by
 funext b
 by_cases e:b=B
 ·subst e; rw [ah]; exact hH
 ·rw [ag e]
attribute [local irreducible] aD aj aX aP aG aL az aM aR bd Go.Abs.Fn aO Go.Abs.Pure aw aF Yl
end Go.Proofs.Ytfcenbapjhecfaa
namespace Go.Proofs.Ytfcenbapjhecfaa
open Go Go.Abs
theorem xU (a b:Vtx):jm (.st [.int,.int]) (bM a) (bM b)=some (decide (a=b)):=by
 show bJ [.int,.int] [.int .i64 a.color,.int .i64 a.label] [.int .i64 b.color,.int .i64 b.label]=_
 rw [rY,pz]
theorem uG (v:Vtx) (ks:List Vtx):bA (.st [.int,.int]) (bM v) (ks.map bM)=some (if v ∈ ks then some (ks.idxOf v) else none):=jQ _ bM xU v ks
theorem u6 (v:Vtx):eC (.st [.int,.int]) (bM v)=true:=rfl
def g9 (l:List Spx) (i:Nat) (v:Vtx):List Nat:=(List.range i).filter fun k=>decide (v ∈ l.getD k default)
def jc (l:List Spx) (i j:Nat) (v:Vtx):List Nat:=g9 l i v ++ if v ∈ (l.getD i default).take j then [i] else []
theorem s6 {l:List Spx} {i:Nat} {v:Vtx}:g9 l (i + 1) v=jc l i (l.getD i default).length v:=by
 unfold g9 jc
 rw [List.range_succ,List.filter_append,List.take_length]
 congr 1
 by_cases h:v ∈ l.getD i default
 ·rw [if_pos h]; simp only [List.filter,h,decide_true]
 ·rw [if_neg h]; simp only [List.filter,h,decide_false]
theorem tK {l:List Spx} {i:Nat} {v:Vtx}:jc l i 0 v=g9 l i v:=by unfold jc; simp
theorem ur {l:List Spx} {i j:Nat} {v:Vtx} (hj:j < (l.getD i default).length) (ha:bk bt (l.getD i default)):jc l i (j + 1) v=if v=(l.getD i default).getD j default then jc l i j v ++ [i] else jc l i j v:=by
 unfold jc
 generalize l.getD i default=s at *
 rw [b6 hj]
 by_cases h:v=s.getD j default
 ·have hn:v ∉ s.take j:=fun hm=>by
    obtain ⟨k,hk,e⟩:=List.getElem_of_mem hm
    rw [List.length_take] at hk
    rw [List.getElem_take] at e
    have:=cA ha (i:=k) (j:=j) (by omega) hj
    rw [← h,← e] at this
    have e2:s.getD k default=s[k]:=by simp [List.getD,show k < s.length by omega]
    rw [e2] at this
    exact qW.ord.irr _ this
  rw [if_pos h,if_neg hn,if_pos (by rw [List.mem_append,h]; simp)]
  simp
 ·rw [if_neg h]
  congr 1
  have e:v ∈ s.take j ++ [s.getD j default] ↔ v ∈ s.take j:=by rw [List.mem_append,List.mem_singleton]; exact ⟨fun h'=>h'.resolve_right h,.inl⟩
  by_cases h2:v ∈ s.take j
  ·rw [if_pos (e.2 h2),if_pos h2]
  ·rw [if_neg (fun h=>h2 (e.1 h)),if_neg h2]
def l5 (i:Nat):AV:=.int .i64 (i:Int)
structure IncOk (H:Hp) (b lo hi:Nat) (F:Vtx→List Nat) (ks:List Vtx) (vs:List AV):Prop where
 box:H b=some [.omap (ks.map bM) vs]
 len:vs.length=ks.length
 nodup:ks.Nodup
 dom:∀ v,v ∈ ks ↔ F v ≠ []
 row:∀ j,j < ks.length→Row H 1 (vs.getD j .undef) ((F (ks.getD j default)).map l5)
 bnd:∀ j B,j < ks.length→bH (vs.getD j .undef)=some B→lo ≤ B∧B < hi∧B ≠ b
 apart:∀ i j B,i < ks.length→j < ks.length→i ≠ j→bH (vs.getD i .undef)=some B→bH (vs.getD j .undef) ≠ some B
 lt:b < hi
theorem kg {l:List AV} {i j:Nat} {x:AV} (h:i < l.length):(l.set i x).getD j .undef=if i=j then x else l.getD j .undef:=by
 simp only [List.getD,List.getElem?_set]
 split
 ·rename_i e; subst e; simp [h]
 ·rfl
theorem pR {α:Type} {l m:List α} {j:Nat} {d:α} (h:j < l.length):(l ++ m).getD j d=l.getD j d:=by
 simp [List.getD,List.getElem?_append_left h]
theorem nY {α:Type} {l:List α} {x d:α}:(l ++ [x]).getD l.length d=x:=by simp [List.getD]
theorem pj {l:List Vtx} {v:Vtx} (h:v ∈ l):l.idxOf v < l.length∧l.getD (l.idxOf v) default=v:=by
 have h1:=List.idxOf_lt_length_iff.2 h
 exact ⟨h1,by simp [List.getD,h1]⟩
theorem tU {l:List Vtx} (h:l.Nodup) {i j:Nat} (hi:i < l.length) (hj:j < l.length) (e:l.getD i default=l.getD j default):i=j:=by
 have hp:=List.pairwise_iff_getElem.1 (List.nodup_iff_pairwise_ne.1 h)
 rw [show l.getD i default=l[i] by simp [List.getD,hi],show l.getD j default=l[j] by simp [List.getD,hj]] at e
 rcases Nat.lt_trichotomy i j with c | c | c
 ·exact absurd e (hp i j hi hj c)
 ·exact c
 ·exact absurd e.symm (hp j i hj hi c)
theorem IncOk.same {H H':Hp} {b lo hi hi':Nat} {F:Vtx→List Nat} {ks:List Vtx} {vs:List AV} (h:IncOk H b lo hi F ks vs) (hb:H' b=H b) (hs:∀ x,lo ≤ x→x < hi→x ≠ b→H' x=H x) (hh:hi ≤ hi'):IncOk H' b lo hi' F ks vs :=
 ⟨hb.trans h.box,h.len,h.nodup,h.dom,fun j hj=>(h.row j hj).same fun B hB=>by have:=h.bnd j B hj hB; exact hs B this.1 this.2.1 this.2.2,fun j B hj hB=>by have:=h.bnd j B hj hB; exact ⟨this.1,by omega,this.2.2⟩,h.apart,by have:=h.lt; omega⟩
theorem IncOk.put {H H':Hp} {b lo hi hi' i:Nat} {F G:Vtx→List Nat} {ks:List Vtx} {vs:List AV} {w:Vtx} {sv:AV} (h:IncOk H b lo hi F ks vs) (hw:w ∈ ks) (hG:∀ v,G v=if v=w then F v ++ [i] else F v) (hrow:Row H' 1 sv ((F w ++ [i]).map l5)) (hB:∀ B,bH sv=some B→bH (vs.getD (ks.idxOf w) .undef)=some B ∨ hi ≤ B∧B < hi'∧B ≠ b) (hb:H' b=some [.omap (ks.map bM) (vs.set (ks.idxOf w) sv)])
    (hs:∀ x,lo ≤ x→x < hi→x ≠ b→bH (vs.getD (ks.idxOf w) .undef) ≠ some x→H' x=H x) (hh:hi ≤ hi') (hlo:lo ≤ hi):IncOk H' b lo hi' G ks (vs.set (ks.idxOf w) sv):=by
 obtain ⟨k1,k2⟩:=pj hw
 have hl:=h.len
 have hg:∀ j,(vs.set (ks.idxOf w) sv).getD j .undef=if ks.idxOf w=j then sv else vs.getD j .undef:=fun j=>kg (by omega)
 have hne:∀ j,j < ks.length→ks.idxOf w ≠ j→ks.getD j default ≠ w:=fun j hj hn e=>hn (tU h.nodup k1 hj (by rw [k2,e]))
 refine ⟨hb,by simp [hl],h.nodup,fun v=>?_,fun j hj=>?_,fun j B hj=>?_,fun p q B hp hq hpq=>?_,by have:=h.lt; omega⟩
 ·rw [hG,h.dom]
  by_cases e:v=w
  ·subst e
   rw [if_pos rfl]
   exact ⟨fun _=>by simp,fun _=>(h.dom v).1 hw⟩
  ·rw [if_neg e]
 ·rw [hg,hG]
  by_cases e:ks.idxOf w=j
  ·rw [if_pos e,if_pos (by rw [← e]; exact k2),← e,k2]; exact hrow
  ·rw [if_neg e,if_neg (hne j hj e)]
   exact (h.row j hj).same fun B hB'=>by
    have:=h.bnd j B hj hB'
    exact hs B this.1 this.2.1 this.2.2 fun h'=>h.apart (ks.idxOf w) j B k1 hj e h' hB'
 ·rw [hg]
  by_cases e:ks.idxOf w=j
  ·rw [if_pos e]
   intro hB'
   rcases hB B hB' with h' | h'
   ·have:=h.bnd _ B k1 h'; exact ⟨this.1,by omega,this.2.2⟩
   ·exact ⟨by omega,h'.2⟩
  ·rw [if_neg e]
   intro hB'
   have:=h.bnd j B hj hB'
   exact ⟨this.1,by omega,this.2.2⟩
 ·rw [hg,hg]
  by_cases e1:ks.idxOf w=p
  ·rw [if_pos e1,if_neg (by omega)]
   intro h1 h2
   rcases hB B h1 with h' | h'
   ·exact h.apart (ks.idxOf w) q B k1 hq (by omega) h' h2
   ·have:=h.bnd q B hq h2; omega
  ·rw [if_neg e1]
   by_cases e2:ks.idxOf w=q
   ·rw [if_pos e2]
    intro h1 h2
    rcases hB B h2 with h' | h'
    ·exact h.apart p (ks.idxOf w) B hp k1 (by omega) h1 h'
    ·have:=h.bnd p B hp h1; omega
   ·rw [if_neg e2]; exact h.apart p q B hp hq hpq
theorem IncOk.new {H H':Hp} {b lo hi hi' i:Nat} {F G:Vtx→List Nat} {ks:List Vtx} {vs:List AV} {w:Vtx} {sv:AV} (h:IncOk H b lo hi F ks vs) (hw:w ∉ ks) (hG:∀ v,G v=if v=w then F v ++ [i] else F v) (hrow:Row H' 1 sv ([i].map l5)) (hB:∀ B,bH sv=some B→hi ≤ B∧B < hi'∧B ≠ b) (hb:H' b=some [.omap ((ks ++ [w]).map bM) (vs ++ [sv])])
    (hs:∀ x,lo ≤ x→x < hi→x ≠ b→H' x=H x) (hh:hi ≤ hi') (hlo:lo ≤ hi):IncOk H' b lo hi' G (ks ++ [w]) (vs ++ [sv]):=by
 have hl:=h.len
 have hF:F w=[]:=by
  cases hf:F w with
  | nil=>rfl
  | cons a r=>exact absurd ((h.dom w).2 (by rw [hf]; simp)) hw
 have g1:∀ j,j < ks.length→(ks ++ [w]).getD j default=ks.getD j default∧(vs ++ [sv]).getD j .undef=vs.getD j .undef:=fun j hj=>⟨pR hj,pR (by omega)⟩
 have g2:(ks ++ [w]).getD ks.length default=w∧(vs ++ [sv]).getD ks.length .undef=sv:=⟨nY,by rw [← hl]; exact nY⟩
 refine ⟨hb,by simp [hl],?_,fun v=>?_,fun j hj=>?_,fun j B hj=>?_,fun p q B hp hq hpq=>?_,by have:=h.lt; omega⟩
 ·rw [List.nodup_append]
  exact ⟨h.nodup,by simp,fun a ha c hc e=>by rw [List.mem_singleton] at hc; exact hw (by rw [← hc,← e]; exact ha)⟩
 ·rw [hG,List.mem_append,List.mem_singleton]
  by_cases e:v=w
  ·subst e; rw [if_pos rfl]; simp
  ·rw [if_neg e,← h.dom]; simp [e]
 ·rw [List.length_append,List.length_singleton] at hj
  by_cases e:j=ks.length
  ·subst e
   rw [g2.1,g2.2,hG,if_pos rfl,hF]; exact hrow
  ·obtain ⟨e1,e2⟩:=g1 j (by omega)
   have hne:ks.getD j default ≠ w:=fun e'=>hw (e' ▸ aH (by omega))
   rw [e1,e2,hG,if_neg hne]
   exact (h.row j (by omega)).same fun B hB'=>by have:=h.bnd j B (by omega) hB'; exact hs B this.1 this.2.1 this.2.2
 ·rw [List.length_append,List.length_singleton] at hj
  by_cases e:j=ks.length
  ·subst e
   rw [g2.2]; intro hB'
   have:=hB B hB'; exact ⟨by omega,this.2⟩
  ·rw [(g1 j (by omega)).2]; intro hB'
   have:=h.bnd j B (by omega) hB'; exact ⟨this.1,by omega,this.2.2⟩
 ·rw [List.length_append,List.length_singleton] at hp hq
  by_cases e1:p=ks.length
  ·subst e1
   rw [g2.2,(g1 q (by omega)).2]
   intro h1 h2
   have:=hB B h1
   have:=h.bnd q B (by omega) h2
   omega
  ·rw [(g1 p (by omega)).2]
   by_cases e2:q=ks.length
   ·subst e2
    rw [g2.2]
    intro h1 h2
    have:=hB B h2
    have:=h.bnd p B (by omega) h1
    omega
   ·rw [(g1 q (by omega)).2]; exact h.apart p q B (by omega) (by omega) hpq
end Go.Proofs.Ytfcenbapjhecfaa
namespace Go.Proofs.Ytfcenbapjhecfaa
open Go Go.Abs
theorem bF {H:Hp} {d:Nat} {x:AV}:dr 1 (ar H d [x]) (.msl d 1 1 0 1)=some (1,[x]):=gG (n:=1) (len:=1) (off:=0) (cs:=[x]) ah rfl (by simp)
theorem pA {l:List Spx} {i:Nat} {v:Vtx}:(g9 l i v).length ≤ i:=by
 unfold g9
 have:=List.length_filter_le (fun k=>decide (v ∈ l.getD k default)) (List.range i)
 rwa [List.length_range] at this
theorem v4 {l:List Spx} {i j:Nat} {v:Vtx}:(jc l i j v).length ≤ i + 1:=by
 unfold jc
 have:=pA (l:=l) (i:=i) (v:=v)
 rw [List.length_append]
 split <;> simp <;> omega
attribute [local irreducible] aD aj aX aP aG aL az aM aR bd Go.Abs.Fn aO Go.Abs.Pure aw aF Yl
set_option maxHeartbeats 2000000 in
theorem qO (l:List Spx) (hl:l.length ≤ 100000) (hs:∀ s ∈ l,bk bt s∧s.length ≤ 1000000) (H:Hp) (nx:Nat):Abs.Fn Try.prog 76 [aq l] H nx fun r H' nx'=>∃ ks vs,r=.mp nx∧IncOk H' nx nx nx' (g9 l l.length) ks vs∧(∀ x,x < nx→H' x=H x)∧nx < nx':=by
 refine Abs.Fn.of_c2 follows AM (Nat.le_of_ble_eq_true rfl) ?_
 simp only [b76,cO,cG,cN,cM,cD,cF,cB,aB,aQ]
 refine ed ?_
 (have zz:=and_self; repeat' (first|apply a_n|refine zO ?_|refine vZ ?_|fail)) <;> (try clear zz)
 refine ed ?_
 (have zz:=and_self; repeat' (first|apply a_n|refine zO ?_|fail)) <;> (try clear zz)
 refine xA ?_
 (have zz:=@ac; repeat' (first|refine zW ?_|apply a_n|refine zO ?_|refine vY ?_|fail)) <;> (try clear zz)
 refine bb (X:=Nat × List Vtx × List AV) (fun x=>[(3,.mp nx),(9,aq l),(10,.int .i64 l.length),(11,.int .i64 x.1)]) (fun x H' nx'=>x.1 ≤ l.length∧IncOk H' nx nx nx' (g9 l x.1) x.2.1 x.2.2∧(∀ y,y < nx→H' y=H y)∧nx < nx') (fun x=>l.length - x.1) (0,[],[]) ⟨Nat.zero_le _,⟨ah,rfl,List.nodup_nil,fun v=>by simp [g9],fun j h=>absurd h (by simp),fun j B h=>absurd h (by simp),fun i j B h=>absurd h (by simp),by omega⟩,fun y hy=>ag (by omega),by omega⟩ ag0 ?_
 rintro ⟨i,ks,vs⟩ H1 nx1 ⟨h1,h2,h3,h4⟩
 dsimp only at h1 h2 ⊢
 by_cases hi:i < l.length
 rotate_left
 ·obtain rfl:i=l.length:=by omega
  (have zz:=and_self; repeat' (first|refine zW ?_|apply a_n|apply a_x|refine zO ?_|refine vY ?_|(refine zGY ?_ ?_ <;> (intro _hg; try (exfalso; omega)))|refine ak rfl ?_|refine r1Y ?_|fail)) <;> (try clear zz)
  exact ⟨ks,vs,rfl,h2,h3,h4⟩
 have ix:=cT hi
 obtain ⟨hsa,hsl⟩:=hs _ (aH hi)
 have hstep:=fun j v hj=>ur (l:=l) (i:=i) (j:=j) (v:=v) hj hsa
 have hend:=fun v=>s6 (l:=l) (i:=i) (v:=v)
 have hlen:=fun j v=>v4 (l:=l) (i:=i) (j:=j) (v:=v)
 have h20:IncOk H1 nx nx nx1 (jc l i 0) ks vs:=by rw [show jc l i 0=g9 l i from funext fun v=>tK]; exact h2
 have hend':g9 l (i + 1)=jc l i (l.getD i default).length:=funext hend
 clear h2
 generalize l.getD i default=s at *
 (have zz:=aI @ix @ap; repeat' (first|refine zW ?_|apply a_n|refine zO ?_|refine vY ?_|(refine zGY ?_ ?_ <;> (intro _hg; try (exfalso; omega)))|fail)) <;> (try clear zz)
 refine bb (X:=Nat × List Vtx × List AV) (fun x=>[(3,.mp nx),(9,aq l),(10,.int .i64 l.length),(11,.int .i64 i),(4,.int .i64 i),(5,au s),(16,au s),(17,.int .i64 s.length),(18,.int .i64 x.1)]) (fun x H' nx'=>x.1 ≤ s.length∧IncOk H' nx nx nx' (jc l i x.1) x.2.1 x.2.2∧(∀ y,y < nx→H' y=H y)∧nx < nx') (fun x=>s.length - x.1) (0,ks,vs) ⟨Nat.zero_le _,h20,h3,h4⟩ ag0 ?_
 clear h20 h3 h4
 rintro ⟨j,ks,vs⟩ H2 nx2 ⟨k1,k2,k3,k4⟩
 dsimp only at k1 k2 ⊢
 by_cases hj:j < s.length
 rotate_left
 ·obtain rfl:j=s.length:=by omega
  (have zz:=and_self; repeat' (first|refine zW ?_|apply a_n|apply a_x|refine zO ?_|refine vY ?_|(refine zGY ?_ ?_ <;> (intro _hg; try (exfalso; omega)))|fail)) <;> (try clear zz)
  exact ⟨(i + 1,ks,vs),by dsimp only; omega,⟨by dsimp only; omega,by dsimp only; rw [hend']; exact k2,k3,k4⟩,ag0⟩
 have iy:=ix2 hj
 have hG:=fun v=>hstep j v hj
 have hcl:=hlen j (s.getD j default)
 generalize s.getD j default=w at *
 (have zz:=@iy; repeat' (first|refine zW ?_|apply a_n|refine zO ?_|refine vY ?_|refine alY ?_|refine stY ?_|refine blY ?_|(refine zGY ?_ ?_ <;> (intro _hg; try (exfalso; omega)))|fail)) <;> (try clear zz)
 have g3:∀ x,x < nx2→ar (ar (ar H2 nx2 [.int .i64 0,.int .i64 0]) nx2 (bl [.int .i64 0,.int .i64 0] 0 [.int .i64 w.color,.int .i64 w.label])) (nx2 + 1) [.int .i64 i] x=H2 x:=fun x hx=>by rw [ag (by omega),ag (by omega),ag (by omega)]
 have g4:ar (ar (ar H2 nx2 [.int .i64 0,.int .i64 0]) nx2 (bl [.int .i64 0,.int .i64 0] 0 [.int .i64 w.color,.int .i64 w.label])) (nx2 + 1) [.int .i64 i] (nx2 + 1)=some [.int .i64 i]:=ah
 generalize ar (ar (ar H2 nx2 [.int .i64 0,.int .i64 0]) nx2 (bl [.int .i64 0,.int .i64 0] 0 [.int .i64 w.color,.int .i64 w.label])) (nx2 + 1) [.int .i64 i]=H3 at *
 have hmf:=uG w ks
 have hkl:(ks.map bM).length=ks.length:=List.length_map ..
 by_cases hw:w ∈ ks
 ·rw [if_pos hw] at hmf
  obtain ⟨m1,m2⟩:=pj hw
  have hr:=k2.row (ks.idxOf w) m1
  rw [m2] at hr
  refine vS ev0 ((g3 nx (by omega)).trans k2.box) ev0 (u6 w) hmf ?_
  have g5:∀ x,x < nx2→x ≠ nx→ar H3 nx [.omap (bu (bM w) (some (ks.idxOf w)) (ks.map bM)) (gi .esl (some (ks.idxOf w)) vs)] x=H2 x:=fun x hx hn=>by rw [ag hn,g3 x hx]
  have g6:ar H3 nx [.omap (bu (bM w) (some (ks.idxOf w)) (ks.map bM)) (gi .esl (some (ks.idxOf w)) vs)] nx=some [.omap (ks.map bM) vs]:=ah
  have g7:ar H3 nx [.omap (bu (bM w) (some (ks.idxOf w)) (ks.map bM)) (gi .esl (some (ks.idxOf w)) vs)] (nx2 + 1)=some [.int .i64 i]:=by rw [ag (by omega)]; exact g4
  generalize ar H3 nx [.omap (bu (bM w) (some (ks.idxOf w)) (ks.map bM)) (gi .esl (some (ks.idxOf w)) vs)]=H4 at *
  rw [show re .esl (some (ks.idxOf w)) vs=vs.getD (ks.idxOf w) .undef from rfl,show pY (some (ks.idxOf w)) (ks.map bM)=ks.idxOf w from rfl]
  (have zz:=and_self; repeat' (first|apply a_n|refine zO ?_|refine vY ?_|fail)) <;> (try clear zz)
  refine dC (k:=1) (new:=[.int .i64 i]) rfl ev0 (hr.same fun B hB=>?_) ev0 (gG (n:=1) (len:=1) (off:=0) g7 rfl (by omega)) rfl rfl Nat.one_pos (by rw [List.length_map]; omega) (by rw [List.length_map]; omega) ?_
  ·have:=k2.bnd _ B m1 hB
   exact g5 B this.2.1 this.2.2
  rintro s2 H5 nx5 hr5 i1 i2 i3 i4
  (have zz:=and_self; repeat' (first|apply a_n|refine zO ?_|refine vY ?_|fail)) <;> (try clear zz)
  refine uU ev0 ((i3 nx (by omega) (fun h=>(k2.bnd _ nx m1 h).2.2 rfl)).trans g6) ev0 (by rw [hkl]; exact m1) ev0 ?_
  (have zz:=and_self; repeat' (first|apply a_n|refine zO ?_|refine vY ?_|fail)) <;> (try clear zz)
  refine ⟨(j + 1,ks,vs.set (ks.idxOf w) s2),by dsimp only; omega,⟨by dsimp only; omega,IncOk.put k2 hw hG ?_ (fun B hB=>?_) ah (fun x hx hx2 hxn hxr=>?_) (by omega) (by omega),fun y hy=>?_,by omega⟩,ag0⟩
  ·rw [List.map_append]
   exact hr5.same fun B hB=>ag fun e=>by
    rcases i4 B hB with h | h
    ·exact (k2.bnd _ B m1 h).2.2 e
    ·omega
  ·rcases i4 B hB with h | h
   ·exact .inl h
   ·exact .inr (by omega)
  ·rw [ag hxn,i3 x (by omega) hxr,g5 x hx2 hxn]
  ·rw [ag (by omega),i3 y (by omega) (fun h=>by have:=k2.bnd _ y m1 h; omega),g5 y (by omega) (by omega)]; exact k3 y hy
 ·rw [if_neg hw] at hmf
  refine vS ev0 ((g3 nx (by omega)).trans k2.box) ev0 (u6 w) hmf ?_
  have g5:∀ x,x < nx2→x ≠ nx→ar H3 nx [.omap (bu (bM w) none (ks.map bM)) (gi .esl none vs)] x=H2 x:=fun x hx hn=>by rw [ag hn,g3 x hx]
  have g6:ar H3 nx [.omap (bu (bM w) none (ks.map bM)) (gi .esl none vs)] nx=some [.omap (ks.map bM ++ [bM w]) (vs ++ [.esl])]:=ah
  have g7:ar H3 nx [.omap (bu (bM w) none (ks.map bM)) (gi .esl none vs)] (nx2 + 1)=some [.int .i64 i]:=by rw [ag (by omega)]; exact g4
  generalize ar H3 nx [.omap (bu (bM w) none (ks.map bM)) (gi .esl none vs)]=H4 at *
  rw [show re .esl none vs=.esl from rfl,show pY none (ks.map bM)=ks.length from hkl]
  (have zz:=and_self; repeat' (first|apply a_n|refine zO ?_|refine vY ?_|fail)) <;> (try clear zz)
  refine dC (k:=1) (new:=[.int .i64 i]) (cs:=[]) rfl ev0 Row.nil ev0 (gG (n:=1) (len:=1) (off:=0) g7 rfl (by omega)) rfl rfl Nat.one_pos (by simp) (by simp) ?_
  rintro s2 H5 nx5 hr5 i1 i2 i3 i4
  have i4':∀ B,bH s2=some B→B=nx2 + 1 + 1∧nx5=nx2 + 1 + 1 + 1:=fun B hB=>(i4 B hB).elim (fun h=>by cases h) id
  (have zz:=and_self; repeat' (first|apply a_n|refine zO ?_|refine vY ?_|fail)) <;> (try clear zz)
  refine uU (i:=ks.length) ev0 ((i3 nx (by omega) (fun h=>by cases h)).trans g6) ev0 (by rw [List.length_append,hkl]; simp) ev0 ?_
  have hset:(vs ++ [AV.esl]).set ks.length s2=vs ++ [s2]:=by rw [← k2.len]; simp
  rw [hset]
  (have zz:=and_self; repeat' (first|apply a_n|refine zO ?_|refine vY ?_|fail)) <;> (try clear zz)
  refine ⟨(j + 1,ks ++ [w],vs ++ [s2]),by dsimp only; omega,⟨by dsimp only; omega,IncOk.new k2 hw hG ?_ (fun B hB=>?_) (by rw [List.map_append]; exact ah) (fun x hx hx2 hxn=>?_) (by omega) (by omega),fun y hy=>?_,by omega⟩,ag0⟩
  ·exact hr5.same fun B hB=>ag (by have:=i4' B hB; omega)
  ·have:=i4' B hB; omega
  ·rw [ag hxn,i3 x (by omega) (fun h=>by cases h),g5 x hx2 hxn]
  ·rw [ag (by omega),i3 y (by omega) (fun h=>by cases h),g5 y (by omega) (by omega)]; exact k3 y hy
end Go.Proofs.Ytfcenbapjhecfaa
namespace Go.Proofs.Ytfcenbapjhecfaa
open Go Go.Abs
def bI (l:List Spx) (s:Spx):Bool:=l.any fun t=>decide (s.length < t.length) && cf s t
def jL (c:List Spx) (k:Nat):Int:=if bg (c.getD k default) ≠ 0 then bg (c.getD k default) else if 0 < k∧0 ≤ aK (c.getD (k - 1) default) (c.getD k default) then 14 else 0
def a8 (c:List Spx):Int:=if 4096 < c.length then 5 else if bZ (jL c) c.length ≠ 0 then bZ (jL c) c.length else if c.any (bI c)=true then 7 else 0
theorem cQ {a b:Spx}:cf a b=true ↔ ∀ v ∈ a,v ∈ b:=by
 unfold cf; rw [List.all_eq_true]
 exact ⟨fun h v hv=>of_decide_eq_true (h v hv),fun h v hv=>decide_eq_true (h v hv)⟩
theorem i9 {l:List Spx} {s:Spx}:bI l s=true ↔ ∃ t ∈ l,s.length < t.length∧∀ v ∈ s,v ∈ t:=by
 unfold bI; rw [List.any_eq_true]
 constructor
 ·rintro ⟨t,ht,h⟩
  rw [Bool.and_eq_true,decide_eq_true_iff,cQ] at h
  exact ⟨t,ht,h⟩
 ·rintro ⟨t,ht,h⟩
  exact ⟨t,ht,by rw [Bool.and_eq_true,decide_eq_true_iff,cQ]; exact h⟩
theorem xS {a b:Spx} (ha:bk bt a) (hb:bk bt b) (h:∀ v ∈ a,v ∈ b) (hne:a ≠ b):a.length < b.length:=by
 have h1:a.length ≤ b.length:=List.Nodup.length_le_of_subset (ha.nodup qW) h
 rcases Nat.lt_or_ge a.length b.length with h2 | h2
 ·exact h2
 ·exfalso
  refine hne (gY qW ha hb fun x=>⟨h x,fun hx=>Decidable.byContradiction fun hn=>?_⟩)
  have h3:(x :: a).length ≤ b.length:=List.Nodup.length_le_of_subset (List.nodup_cons.2 ⟨hn,ha.nodup qW⟩) fun y hy=>by
   rcases List.mem_cons.1 hy with rfl | hy
   ·exact hx
   ·exact h y hy
  rw [List.length_cons] at h3
  omega
theorem rW {c:List Spx} (h:bZ (jL c) c.length=0):(∀ s ∈ c,bg s=0)∧bk aK c:=by
 have hz:=eH h
 have h3:∀ k,k < c.length→bg (c.getD k default)=0∧(0 < k→aK (c.getD (k - 1) default) (c.getD k default) < 0):=fun k hk=>by
  have:=hz k hk
  unfold jL at this
  split at this
  ·exact absurd this ‹_›
  rename_i g1
  split at this
  ·exact absurd this (by decide)
  rename_i g2
  exact ⟨Decidable.of_not_not g1,fun h0=>by omega⟩
 constructor
 ·intro s hs
  obtain ⟨i,hi,rfl⟩:=List.getElem_of_mem hs
  have:=(h3 i hi).1
  rwa [show c.getD i default=c[i] by simp [List.getD,hi]] at this
 ·have step:∀ j i,i < j→j < c.length→aK (c.getD i default) (c.getD j default) < 0:=by
    intro j
    induction j with
    | zero=>intro i h; omega
    | succ j ih =>
     intro i hi hj
     have hs:=(h3 (j + 1) hj).2 (by omega)
     rw [Nat.add_sub_cancel] at hs
     by_cases e:i=j
     ·subst e; exact hs
     ·exact gH.trans (ih i (by omega) (by omega)) hs
  unfold bk
  rw [List.pairwise_iff_getElem]
  intro i j hi hj hij
  have:=step j i hij hj
  simpa [List.getD,hi,hj] using this
theorem fG {c:List Spx} (h:a8 c=0):c.length ≤ 4096∧(∀ s ∈ c,bg s=0)∧bk aK c∧∀ s ∈ c,bI c s=false:=by
 unfold a8 at h
 split at h
 ·exact absurd h (by decide)
 split at h
 ·exact absurd h ‹_›
 split at h
 ·exact absurd h (by decide)
 rename_i h1 h2 h3
 have:=rW (Decidable.of_not_not h2)
 refine ⟨by omega,this.1,this.2,fun s hs=>?_⟩
 cases hc:bI c s
 ·rfl
 ·exact absurd (List.any_eq_true.2 ⟨s,hs,hc⟩) h3
theorem wV {l:List Spx} {s:Spx} {p:Spx→Bool} (h0:0 < s.length) (hp:∀ t,p t=true→s.getD 0 default ∈ t):((g9 l l.length (s.getD 0 default)).map fun (n:Nat)=>(n:Int)).any (fun i=>p (l.getD i.toNat default))=l.any p:=by
 rw [Bool.eq_iff_iff,List.any_eq_true,List.any_eq_true]
 constructor
 ·rintro ⟨x,hx,h⟩
  obtain ⟨n,hn,rfl⟩:=List.mem_map.1 hx
  unfold g9 at hn
  obtain ⟨h1,_⟩:=List.mem_filter.1 hn
  rw [Int.toNat_natCast] at h
  exact ⟨_,aH (List.mem_range.1 h1),h⟩
 ·rintro ⟨t,ht,h⟩
  obtain ⟨i,hi,rfl⟩:=List.getElem_of_mem ht
  have e:l.getD i default=l[i]:=by simp [List.getD,hi]
  refine ⟨(i:Int),List.mem_map.2 ⟨i,List.mem_filter.2 ⟨List.mem_range.2 hi,decide_eq_true ?_⟩,rfl⟩,?_⟩
  ·rw [e]; exact hp _ h
  ·rw [Int.toNat_natCast,e]; exact h
attribute [local irreducible] aD aj aX aP aG aL az aM aR bd Go.Abs.Fn aO Go.Abs.Pure aw aF Yl
theorem tT (l:List Int) (p:Int→Bool) (g:Nat) (caps:List AV) (hd:∀ x ∈ caps,Dat x) (hg:∀ x ∈ l,Pure Try.prog g (.int .i64 x :: caps) (.bool (p x))) (hl:Shn l):Pure Try.prog 108 [bq l,.func g caps] (.int .i64 (if l.any p then (l.findIdx p:Nat) else -1)):=by
 refine Pure.of_c2 follows Ac (Nat.le_of_ble_eq_true rfl) ?_
 simp only [yX,cO,cG,cN,cM,cD,cF,cB,aB,aQ]
 have hl':l.length ≤ 17592186044416:=hl
 (have zz:=and_self; repeat' (first|refine zW ?_|apply a_n|refine zO ?_|refine vZ ?_|fail)) <;> (try clear zz)
 refine bb (X:=Nat) (fun k=>[(0,bq l),(1,.func g caps),(6,bq l),(7,.int .i64 l.length),(8,.int .i64 k)]) (fun k H nx=>k ≤ l.length∧∀ i,i < k→p (l.getD i default)=false) (fun k=>l.length - k) 0 ⟨Nat.zero_le _,fun i h=>absurd h (by omega)⟩ ag0 ?_
 rintro k H nx ⟨hk,hz⟩
 by_cases hk2:k < l.length
 rotate_left
 ·rw [ki fun i hi=>hz i (by omega),if_neg (by decide)]
  (have zz:=and_self; repeat' (first|refine zW ?_|apply a_n|apply a_x|refine zO ?_|refine vY ?_|(refine zGY ?_ ?_ <;> (intro _hg; try (exfalso; omega)))|refine ak rfl ?_|refine r1Y ?_|fail)) <;> (try clear zz)
  exact ci rfl
 have hc:=hg _ (aV hk2)
 cases hp:p (l.getD k default)
 ·rw [hp] at hc
  (have zz:=and_self; repeat' (first|refine zW ?_|apply a_n|refine zO ?_|refine vY ?_|(refine zGY ?_ ?_ <;> (intro _hg; try (exfalso; omega)))|fail)) <;> (try clear zz)
  refine bL ev0 ev0 hc (ae (an (.int _ _) (aN hd))) ?_
  (have zz:=and_self; repeat' (first|apply a_n|refine zO ?_|refine vY ?_|refine cFY ?_|fail)) <;> (try clear zz)
  exact ⟨k + 1,by omega,⟨by omega,fun i hi=>by
   rcases Nat.lt_succ_iff_lt_or_eq.1 hi with h | rfl
   ·exact hz i h
   ·exact hp⟩,ag0⟩
 ·rw [hp] at hc
  obtain ⟨e1,e2⟩:=pL hk2 hz hp
  rw [e1,e2,if_pos rfl]
  (have zz:=and_self; repeat' (first|refine zW ?_|apply a_n|refine zO ?_|refine vY ?_|(refine zGY ?_ ?_ <;> (intro _hg; try (exfalso; omega)))|fail)) <;> (try clear zz)
  refine bL ev0 ev0 hc (ae (an (.int _ _) (aN hd))) ?_
  (have zz:=and_self; repeat' (first|refine zW ?_|apply a_n|apply a_r|refine zO ?_|refine vY ?_|refine cTY ?_|refine ak rfl ?_|refine r1Y ?_|fail)) <;> (try clear zz)
  exact .int _ _
theorem pq (l:List Int) (p:Int→Bool) (g:Nat) (caps:List AV) (hd:∀ x ∈ caps,Dat x) (hg:∀ x ∈ l,Pure Try.prog g (.int .i64 x :: caps) (.bool (p x))) (hl:Shn l):Pure Try.prog 91 [bq l,.func g caps] (.bool (l.any p)):=by
 refine Pure.of_c2 follows A1 (Nat.le_of_ble_eq_true rfl) ?_
 simp only [b91,cO,cG,cN,cM,cD,cF,cB,aB,aQ]
 have h:=tT l p g caps hd hg hl
 (have zz:=and_self; repeat' (first|refine zW ?_|apply a_n|refine zO ?_|refine vZ ?_|refine cZ ?_ (hp:=h) (hs:=by (first | refine ab ?_ rfl | apply ae); (repeat' (first | exact aa | apply am | apply af | exact eP _ | exact Dat.func hd)); first | done | fail)|refine ak rfl ?_|refine r1Z ?_|fail)) <;> (try clear zz)
 cases hA:l.any p
 ·exact bm (by simp)
 ·exact bm (by simp)
def OkS (l:List Spx):Prop:=l.length ≤ 100000∧∀ s ∈ l,bk bt s∧s.length ≤ 1000
theorem rI (l:List Spx) (s:Spx) (i:Nat) (hl:OkS l) (hs:bk bt s∧s.length ≤ 1000) (hi:i < l.length):Pure Try.prog 92 [.int .i64 i,.iptr [aq l] 0,.iptr [au s] 0] (.bool (decide (s.length < (l.getD i default).length) && cf s (l.getD i default))):=by
 refine Pure.of_c2 follows A4 (Nat.le_of_ble_eq_true rfl) ?_
 simp only [b92,cO,cG,cN,cM,cD,cF,cB,aB,aQ]
 have ix:=cT hi
 obtain ⟨t1,t2⟩:=hl.2 _ (aH hi)
 have hf:=yC s (l.getD i default) hs.1 t1 (by omega) (by omega)
 generalize l.getD i default=t at *
 by_cases h:s.length < t.length
 ·have z:decide ((s.length:Int) < t.length)=true:=decide_eq_true (by omega)
  rw [decide_eq_true h,Bool.true_and]
  (have zz:=aI @ap (aI @ix @z); repeat' (first|refine zW ?_|refine zM ?_|apply a_n|refine zO ?_|refine vZ ?_|refine cZ ?_ (hp:=hf) (hs:=by (first | refine ab ?_ rfl | apply ae); (repeat' (first | exact aa | apply am | apply af | exact ax _)); first | done | fail)|refine gTZ ?_|refine ak rfl ?_|refine r1Z ?_|fail)) <;> (try clear zz)
  exact .bool _
 ·have z:decide ((s.length:Int) < t.length)=false:=decide_eq_false (by omega)
  rw [decide_eq_false h,Bool.false_and]
  (have zz:=aI @ap (aI @ix @z); repeat' (first|refine zW ?_|refine zM ?_|apply a_n|refine zO ?_|refine vZ ?_|refine gFZ ?_|refine ak rfl ?_|refine r1Z ?_|fail)) <;> (try clear zz)
  exact .bool _
theorem tP (l:List Spx) (s:Spx) (hl:OkS l) (hs:bk bt s∧s.length ≤ 1000) (h0:0 < s.length):Pure Try.prog 77 [aq l,bq ((g9 l l.length (s.getD 0 default)).map fun (n:Nat)=>(n:Int)),au s] (.bool (bI l s)):=by
 refine Pure.of_c2 follows AS (Nat.le_of_ble_eq_true rfl) ?_
 simp only [b77,cO,cG,cN,cM,cD,cF,cB,aB,aQ]
 have hll:=hl.1
 have h:=pq ((g9 l l.length (s.getD 0 default)).map fun (n:Nat)=>(n:Int)) (fun i=>decide (s.length < (l.getD i.toNat default).length) && cf s (l.getD i.toNat default)) 92 [.iptr [aq l] 0,.iptr [au s] 0] (DatL.cons (Dat.iptr (DatL.cons (aA _) DatL.nil)) (DatL.cons (Dat.iptr (DatL.cons (ax _) DatL.nil)) DatL.nil)) (fun x hx=>by
  obtain ⟨n,hn,rfl⟩:=List.mem_map.1 hx
  have hn2:n < l.length:=List.mem_range.1 (List.mem_filter.1 hn).1
  rw [Int.toNat_natCast]
  exact rI l s n hl hs hn2) (by rw [Shn,List.length_map]; have:=pA (l:=l) (i:=l.length) (v:=s.getD 0 default); omega)
 rw [wV (p:=fun t=>decide (s.length < t.length) && cf s t) h0 (fun t ht=>by
  rw [Bool.and_eq_true,cQ] at ht
  exact ht.2 _ (aH h0))] at h
 (have zz:=aI @ao (aI @ai (aI @ay @av)); repeat' (first|refine zW ?_|apply a_n|refine zO ?_|refine vZ ?_|refine bxZ ?_|fail)) <;> (try clear zz)
 refine bL (have zz:=aI @ao (aI @ai (aI @ay @av)); evZ) (have zz:=aI @ao (aI @ai (aI @ay @av)); evZ) h (ab (an (eP _ _) (an (tR (an (p8 rfl rfl (an (aA _ _) aa)) (an (p8 rfl rfl (an (ax _ _) aa)) aa))) aa)) rfl) ?_
 (have zz:=and_self; repeat' (first|apply a_n|refine zO ?_|refine vZ ?_|refine ak rfl ?_|refine r1Z ?_|fail)) <;> (try clear zz)
 exact .bool _
end Go.Proofs.Ytfcenbapjhecfaa
namespace Go.Proofs.Ytfcenbapjhecfaa
open Go Go.Abs
theorem sB {H:Hp} {sv:AV} {F:List Nat} (h:Row H 1 sv (F.map l5)):Snap H sv (bq (F.map fun (n:Nat)=>(n:Int))):=by
 refine Row.snapI ?_
 rw [List.map_map]; exact h
theorem mV {c:List Spx} {k:Nat}:jL c k=if bg (c.getD k default) ≠ 0 then bg (c.getD k default) else if 0 < k∧0 ≤ aK (c.getD (k - 1) default) (c.getD k default) then 14 else 0:=rfl
theorem vI {c:List Spx} (h1:c.length ≤ 4096) (h:∀ s ∈ c,bg s=0):OkS c:=⟨by omega,fun s hs=>by
 obtain ⟨a1,a2,a3,a4⟩:=cr (h s hs)
 exact ⟨a3,by omega⟩⟩
theorem iQ {H:Hp} {b:Nat} {cs:List AV} (h:H b=some cs):Sub (only b cs) H:=fun x c hx=>by
 unfold only at hx
 split at hx
 ·rename_i e; rw [e,h]; exact hx
 ·cases hx
def on2 (b1:Nat) (c1:List AV) (b2:Nat) (c2:List AV):Hp:=fun x=>if x=b1 then some c1 else if x=b2 then some c2 else none
theorem xB {b1 b2:Nat} {c1 c2:List AV}:on2 b1 c1 b2 c2 b1=some c1:=if_pos rfl
theorem xC {b1 b2:Nat} {c1 c2:List AV} (h:b2 ≠ b1):on2 b1 c1 b2 c2 b2=some c2:=by unfold on2; rw [if_neg h,if_pos rfl]
theorem oH {b1 b2:Nat} {c1 c2:List AV} {H:Hp} (h1:H b1=some c1) (h2:H b2=some c2):Sub (on2 b1 c1 b2 c2) H:=fun x cs h=>by
 unfold on2 at h
 split at h
 ·rename_i e; rw [e,h1]; exact h
 ·split at h
  ·rename_i e; rw [e,h2]; exact h
  ·cases h
theorem oE {P:Program} {T:Tm} {H:Hp} {nx:Nat} (b1 b2:Nat) {c1 c2:List AV} {K:CP} {m:Nat} {l:List Op2} {C:List (Nat × Nat)} (h1:H b1=some c1) (h2:H b2=some c2) (hne:b2 ≠ b1) (k:∀ S:Hp,S b1=some c1→S b2=some c2→(∀ H':Hp,H' b1=some c1→H' b2=some c2→Sub S H')→a5 P S (C.map fun k=>(l.getD k.1 ⟨none,none,.dead⟩,k.2)) T H nx fun T H nx=>K .normal T H nx):aD P (.mixS m l C) T H nx K :=
 oZ (on2 b1 c1 b2 c2) rfl (oH h1 h2) (k _ xB (xC hne) fun _ a b=>oH a b)
theorem me {P:Program} {T:Tm} {H:Hp} {nx:Nat} (b:Nat) {c:List AV} {K:CP} {m:Nat} {l:List Op2} {C:List (Nat × Nat)} (h:H b=some c) (k:∀ S:Hp,S b=some c→(∀ H':Hp,H' b=some c→Sub S H')→a5 P S (C.map fun k=>(l.getD k.1 ⟨none,none,.dead⟩,k.2)) T H nx fun T H nx=>K .normal T H nx):aD P (.mixS m l C) T H nx K :=
 oZ (only b c) rfl (iQ h) (k _ gX fun _ h=>iQ h)
attribute [local irreducible] aD aj aX aP aG aL az aM aR bd Go.Abs.Fn aO Go.Abs.Pure aw aF Yl
set_option maxHeartbeats 2000000 in
theorem mU (c:List Spx) (hc:Shn c) (hs:∀ s ∈ c,Shn s):Pure Try.prog 49 [d9 c] (.int .i64 (a8 c)):=by
 refine Pure.of_c2 follows A3 (Nat.le_of_ble_eq_true rfl) ?_
 simp only [b49,cO,cG,cN,cM,cD,cF,cB,aB,aQ]
 have hc':c.length ≤ 17592186044416:=hc
 by_cases h0:4096 < c.length
 ·rw [show a8 c=5 by unfold a8; rw [if_pos h0]]
  (have zz:=aI @ac (aI @ao @ai); repeat' (first|refine zW ?_|apply a_n|apply a_r|refine zO ?_|refine vZ ?_|refine bxZ ?_|(refine zGZ ?_ ?_ <;> (intro _hg; try (exfalso; omega)))|refine ak rfl ?_|refine r1Z ?_|fail)) <;> (try clear zz)
  all_goals exact ci rfl
 rw [show a8 c=if bZ (jL c) c.length ≠ 0 then bZ (jL c) c.length else if c.any (bI c)=true then 7 else 0 by unfold a8; rw [if_neg h0]]
 refine ed ?_
 (have zz:=aI @ac (aI @ao @ai); repeat' (first|apply a_n|refine zO ?_|refine vZ ?_|refine bxZ ?_|fail)) <;> (try clear zz)
 refine ed (ed ?_)
 (have zz:=aI @ac (aI @ao @ai); repeat' (first|apply a_n|refine zO ?_|refine vZ ?_|(refine zGZ ?_ ?_ <;> (intro _hg; try (exfalso; omega)))|fail)) <;> (try clear zz)
 by_cases hz:bZ (jL c) c.length ≠ 0
 ·rw [if_pos hz]
  (have zz:=aI @ac (aI @ao @ai); repeat' (first|refine zW ?_|apply a_n|refine zO ?_|refine vZ ?_|fail)) <;> (try clear zz)
  refine bb (X:=Nat) (fun k=>[(1,.ptr 0 1 0),(14,aq c),(15,.int .i64 c.length),(16,.int .i64 k)]) (fun k H nx=>k ≤ c.length∧H 0=some [aq c]∧∀ i,i < k→jL c i=0) (fun k=>c.length - k) 0 ⟨Nat.zero_le _,rfl,fun i h=>absurd h (by omega)⟩ (by (iterate 4 refine And.intro rfl ?_); trivial) ?_
  rintro k H nx ⟨h1,g0,h2⟩
  by_cases hk:k < c.length
  rotate_left
  ·exact absurd (cp fun i hi=>h2 i (by omega)) hz
  have ix:=cT hk
  have hs1:=hs _ (aH hk)
  have hp:=jt (c.getD k default) hs1
  have hsp:=mV (c:=c) (k:=k)
  by_cases he:bg (c.getD k default) ≠ 0
  ·rw [if_pos he] at hsp
   rw [bG hk h2 (by rw [hsp]; exact he),hsp]
   have z:decide (bg (c.getD k default) ≠ 0)=true:=decide_eq_true he
   (have zz:=aI @ac (aI @ix @z); repeat' (first|refine zW ?_|apply a_n|apply a_r|refine zO ?_|refine vY ?_|refine cY ?_ (hp:=hp) (hs:=by (first | refine ab ?_ rfl | apply ae); (repeat' (first | exact aa | apply am | apply af | exact ax _)); first | done | fail)|refine cTY ?_|(refine zGY ?_ ?_ <;> (intro _hg; try (exfalso; omega)))|refine ak rfl ?_|refine r1Y ?_|fail)) <;> (try clear zz)
   exact .int _ _
  rw [if_neg he] at hsp
  have he:=Decidable.of_not_not he
  rw [he] at hp
  have z:decide ((0:Int) ≠ 0)=false:=rfl
  by_cases hk0:0 < k
  rotate_left
  ·rw [if_neg (fun h=>hk0 h.1)] at hsp
   have zk:decide (0 < (k:Int))=false:=decide_eq_false (by omega)
   (have zz:=aI @ac (aI @ix (aI @z @zk)); repeat' (first|refine zW ?_|apply a_n|refine zO ?_|refine vY ?_|refine cY ?_ (hp:=hp) (hs:=by (first | refine ab ?_ rfl | apply ae); (repeat' (first | exact aa | apply am | apply af | exact ax _)); first | done | fail)|refine gFY ?_|refine cFY ?_|(refine zGY ?_ ?_ <;> (intro _hg; try (exfalso; omega)))|fail)) <;> (try clear zz)
   exact ⟨k + 1,by omega,⟨by omega,g0,fun i hi=>by
    rcases Nat.lt_succ_iff_lt_or_eq.1 hi with h' | rfl
    ·exact h2 i h'
    ·exact hsp⟩,ag0⟩
  have zk:decide (0 < (k:Int))=true:=decide_eq_true (by omega)
  have iy:dt 1 (aq c) (.int .i64 ((k:Int) - 1))=some (.iptr [au (c.getD (k - 1) default)] 0):=by
   have:=cT (l:=c) (k:=k - 1) (by omega)
   rwa [show ((k - 1:Nat):Int)=(k:Int) - 1 by omega] at this
  have hcm:=dL (c.getD (k - 1) default) (c.getD k default) (hs _ (aH (by omega))) hs1
  by_cases hv:0 ≤ aK (c.getD (k - 1) default) (c.getD k default)
  ·have z2:decide (0 ≤ aK (c.getD (k - 1) default) (c.getD k default))=true:=decide_eq_true hv
   rw [if_pos ⟨hk0,hv⟩] at hsp
   rw [bG hk h2 (by rw [hsp]; decide),hsp]
   (have zz:=aI @ac (aI @ix (aI @iy (aI @z (aI @zk (aI @z2 @g0))))); repeat' (first|refine zW ?_|apply a_n|apply a_r|refine zO ?_|refine vY ?_|refine cY ?_ (hp:=by first | exact hp | exact hcm) (hs:=by (first | refine ab ?_ rfl | apply ae); (repeat' (first | exact aa | apply am | apply af | exact ax _)); first | done | fail)|refine gTY ?_|refine cTY ?_|refine cFY ?_|(refine zGY ?_ ?_ <;> (intro _hg; try (exfalso; omega)))|refine ak rfl ?_|refine r1Y ?_|fail)) <;> (try clear zz)
   exact .int _ _
  ·have z2:decide (0 ≤ aK (c.getD (k - 1) default) (c.getD k default))=false:=decide_eq_false hv
   rw [if_neg (fun h=>hv h.2)] at hsp
   (have zz:=aI @ac (aI @ix (aI @iy (aI @z (aI @zk (aI @z2 @g0))))); repeat' (first|refine zW ?_|apply a_n|refine zO ?_|refine vY ?_|refine cY ?_ (hp:=by first | exact hp | exact hcm) (hs:=by (first | refine ab ?_ rfl | apply ae); (repeat' (first | exact aa | apply am | apply af | exact ax _)); first | done | fail)|refine gTY ?_|refine cFY ?_|(refine zGY ?_ ?_ <;> (intro _hg; try (exfalso; omega)))|fail)) <;> (try clear zz)
   exact ⟨k + 1,by omega,⟨by omega,g0,fun i hi=>by
    rcases Nat.lt_succ_iff_lt_or_eq.1 hi with h' | rfl
    ·exact h2 i h'
    ·exact hsp⟩,ag0⟩
 have hz:=Decidable.of_not_not hz
 rw [if_neg (fun h=>h hz)]
 obtain ⟨a1,a2⟩:=rW hz
 have hall:=eH hz
 have hok:=vI (by omega) a1
 refine br (fun T H nx=>T 1=.ptr 0 1 0∧H 0=some [aq c]∧1 ≤ nx) ?_ ?_
 ·(have zz:=aI @ac (aI @ao @ai); repeat' (first|refine zW ?_|apply a_n|refine zO ?_|refine vZ ?_|fail)) <;> (try clear zz)
  refine bb (X:=Nat) (fun k=>[(1,.ptr 0 1 0),(14,aq c),(15,.int .i64 c.length),(16,.int .i64 k)]) (fun k H nx=>k ≤ c.length∧H 0=some [aq c]∧1 ≤ nx) (fun k=>c.length - k) 0 ⟨Nat.zero_le _,rfl,by omega⟩ (by (iterate 4 refine And.intro rfl ?_); trivial) ?_
  rintro k H nx ⟨h1,g0,hnx⟩
  by_cases hk:k < c.length
  rotate_left
  ·(have zz:=and_self; repeat' (first|refine zW ?_|apply a_n|apply a_x|refine zO ?_|refine vY ?_|(refine zGY ?_ ?_ <;> (intro _hg; try (exfalso; omega)))|fail)) <;> (try clear zz)
   exact ⟨rfl,g0,hnx⟩
  have ix:=cT hk
  have hs1:=hs _ (aH hk)
  have hp:=jt (c.getD k default) hs1
  rw [a1 _ (aH hk)] at hp
  have z:decide ((0:Int) ≠ 0)=false:=rfl
  by_cases hk0:0 < k
  rotate_left
  ·have zk:decide (0 < (k:Int))=false:=decide_eq_false (by omega)
   (have zz:=aI @ac (aI @ix (aI @z @zk)); repeat' (first|refine zW ?_|apply a_n|refine zO ?_|refine vY ?_|refine cY ?_ (hp:=hp) (hs:=by (first | refine ab ?_ rfl | apply ae); (repeat' (first | exact aa | apply am | apply af | exact ax _)); first | done | fail)|refine gFY ?_|refine cFY ?_|(refine zGY ?_ ?_ <;> (intro _hg; try (exfalso; omega)))|fail)) <;> (try clear zz)
   exact ⟨k + 1,by omega,⟨by omega,g0,hnx⟩,ag0⟩
  have zk:decide (0 < (k:Int))=true:=decide_eq_true (by omega)
  have iy:dt 1 (aq c) (.int .i64 ((k:Int) - 1))=some (.iptr [au (c.getD (k - 1) default)] 0):=by
   have:=cT (l:=c) (k:=k - 1) (by omega)
   rwa [show ((k - 1:Nat):Int)=(k:Int) - 1 by omega] at this
  have hcm:=dL (c.getD (k - 1) default) (c.getD k default) (hs _ (aH (by omega))) hs1
  have z2:decide (0 ≤ aK (c.getD (k - 1) default) (c.getD k default))=false:=decide_eq_false (by have:=cA a2 (i:=k - 1) (j:=k) (by omega) hk; omega)
  (have zz:=aI @ac (aI @ix (aI @iy (aI @z (aI @zk (aI @z2 @g0))))); repeat' (first|refine zW ?_|apply a_n|refine zO ?_|refine vY ?_|refine cY ?_ (hp:=by first | exact hp | exact hcm) (hs:=by (first | refine ab ?_ rfl | apply ae); (repeat' (first | exact aa | apply am | apply af | exact ax _)); first | done | fail)|refine gTY ?_|refine cFY ?_|(refine zGY ?_ ?_ <;> (intro _hg; try (exfalso; omega)))|fail)) <;> (try clear zz)
  exact ⟨k + 1,by omega,⟨by omega,g0,hnx⟩,ag0⟩
 rintro T H nx ⟨t1,g0,hnx⟩
 (have zz:=aI @t1 @g0; repeat' (first|refine zW ?_|apply a_n|refine zO ?_|refine vY ?_|fail)) <;> (try clear zz)
 refine aU ev0 (have zz:=@t1; evZ) (qO c hok.1 (fun s hs=>⟨(hok.2 s hs).1,by have:=(hok.2 s hs).2; omega⟩) _ _) ?_
 rintro _ H1 nx1 ⟨ks,vs,rfl,hinc,hsame,hlt⟩
 have g0':H1 0=some [aq c]:=(hsame 0 (by omega)).trans g0
 (have zz:=aI @t1 (aI @g0' @ac); repeat' (first|refine zW ?_|apply a_n|refine zO ?_|refine vY ?_|fail)) <;> (try clear zz)
 refine bb (X:=Nat) (fun k=>[(1,.ptr 0 1 0),(6,.mp nx),(44,aq c),(45,.int .i64 c.length),(46,.int .i64 k)]) (fun k H' nx'=>k ≤ c.length∧H'=H1∧nx'=nx1∧∀ i,i < k→bI c (c.getD i default)=false) (fun k=>c.length - k) 0 ⟨Nat.zero_le _,rfl,rfl,fun i h=>absurd h (by omega)⟩ (have zz:=@t1; agZ) ?_
 rintro k H' nx' ⟨h1,rfl,rfl,h2⟩
 by_cases hk:k < c.length
 rotate_left
 ·rw [ki fun i hi=>h2 i (by omega),if_neg (by decide)]
  (have zz:=and_self; repeat' (first|refine zW ?_|apply a_n|apply a_x|refine zO ?_|refine vY ?_|(refine zGY ?_ ?_ <;> (intro _hg; try (exfalso; omega)))|refine ak rfl ?_|refine r1Y ?_|fail)) <;> (try clear zz)
  exact .int _ _
 have ix:=cT hk
 obtain ⟨p1,p2,p3,p4⟩:=cr (a1 _ (aH hk))
 have hcv:=tP c (c.getD k default) hok (hok.2 _ (aH hk)) (by omega)
 have iy:=ix2 (l:=c.getD k default) (k:=0) (by omega)
 rw [show ((0:Nat):Int)=0 from rfl] at iy
 have hks:(c.getD k default).getD 0 default ∈ ks:=(hinc.dom _).2 fun e=>by
  have:k ∈ g9 c c.length ((c.getD k default).getD 0 default):=List.mem_filter.2 ⟨List.mem_range.2 hk,decide_eq_true (aH (by omega))⟩
  rw [e] at this; cases this
 have hmf:=uG ((c.getD k default).getD 0 default) ks
 rw [if_pos hks] at hmf
 obtain ⟨m1,m2⟩:=pj hks
 have hr:=hinc.row _ m1
 rw [m2] at hr
 have hcb:bI c (c.getD k default)=true→c.any (bI c)=true:=fun h=>List.any_eq_true.2 ⟨_,aH hk,h⟩
 generalize hsk:c.getD k default=s at *
 (have zz:=@ix; repeat' (first|refine zW ?_|apply a_n|refine zO ?_|refine vY ?_|(refine zGY ?_ ?_ <;> (intro _hg; try (exfalso; omega)))|fail)) <;> (try clear zz)
 refine me 0 g0' fun S hS0 hsub'=>?_
 have hsub:=hsub' H' g0'
 (have zz:=aI @hS0 @iy; repeat' (first|apply a_n|refine zO ?_|refine nvY ?_|fail)) <;> (try clear zz)
 refine gn ?_
 refine ru ev0 hinc.box ev0 (u6 _) hmf ?_
 refine my ⟨hsub,?_⟩
 rw [show mget .esl false (some (ks.idxOf (s.getD 0 default))) vs=vs.getD (ks.idxOf (s.getD 0 default)) .undef from rfl]
 refine ia ?_
 cases hb:bI c s
 ·rw [hb] at hcv
  refine bL ev0 ev0 hcv (ab (an (aA _ _) (an (sB hr) (an (ax _ _) aa))) rfl) ?_
  (have zz:=and_self; repeat' (first|apply a_n|refine zO ?_|refine vY ?_|refine cFY ?_|fail)) <;> (try clear zz)
  exact ⟨k + 1,by omega,⟨by omega,rfl,rfl,fun i hi=>by
   rcases Nat.lt_succ_iff_lt_or_eq.1 hi with h' | rfl
   ·exact h2 i h'
   ·rw [hsk]; exact hb⟩,ag0⟩
 ·rw [hb] at hcv
  rw [hcb hb,if_pos rfl]
  refine bL ev0 ev0 hcv (ab (an (aA _ _) (an (sB hr) (an (ax _ _) aa))) rfl) ?_
  (have zz:=and_self; repeat' (first|refine zW ?_|apply a_n|apply a_r|refine zO ?_|refine vY ?_|refine cTY ?_|refine ak rfl ?_|refine r1Y ?_|fail)) <;> (try clear zz)
  exact .int _ _
end Go.Proofs.Ytfcenbapjhecfaa
namespace Go.Proofs.Ytfcenbapjhecfaa
open Go Go.Abs
theorem uo {c:List Spx} (h1:∀ s ∈ c,bk bt s) (h2:bk aK c) {i k:Nat} (hi:i < c.length) (hk:k < c.length) (hik:i ≠ k) (h:cf (c.getD i default) (c.getD k default)=true):bI c (c.getD i default)=true:=by
 refine i9.2 ⟨_,aH hk,xS (h1 _ (aH hi)) (h1 _ (aH hk)) (cQ.1 h) fun e=>?_,cQ.1 h⟩
 rcases Nat.lt_trichotomy i k with q | q | q
 ·have:=cA h2 q hk; rw [e] at this; exact gH.ord.irr _ this
 ·exact hik q
 ·have:=cA h2 q hi; rw [e] at this; exact gH.ord.irr _ this
theorem vN {c:List Spx} {i:Nat} (h:bI c (c.getD i default)=true):∃ k,k < c.length∧i ≠ k∧cf (c.getD i default) (c.getD k default)=true:=by
 obtain ⟨t,ht,h1,h2⟩:=i9.1 h
 obtain ⟨k,hk,rfl⟩:=List.getElem_of_mem ht
 have e:c.getD k default=c[k]:=by simp [List.getD,hk]
 refine ⟨k,hk,fun hik=>?_,by rw [e]; exact cQ.2 h2⟩
 subst hik
 rw [e] at h1; omega
attribute [local irreducible] aD aj aX aP aG aL az aM aR bd Go.Abs.Fn aO Go.Abs.Pure aw aF Yl
set_option maxHeartbeats 2000000 in
theorem sr (c:List Spx) (hc:Shn c) (hs:∀ s ∈ c,Shn s):Pure Try.prog 30 [d9 c] (.int .i64 (a8 c)):=by
 refine Pure.of_c2 follows AW (Nat.le_of_ble_eq_true rfl) ?_
 simp only [b30,cO,cG,cN,cM,cD,cF,cB,aB,aQ]
 have hc':c.length ≤ 17592186044416:=hc
 by_cases h0:4096 < c.length
 ·rw [show a8 c=5 by unfold a8; rw [if_pos h0]]
  (have zz:=aI @ac (aI @ao @ai); repeat' (first|refine zW ?_|apply a_n|apply a_r|refine zO ?_|refine vZ ?_|refine bxZ ?_|(refine zGZ ?_ ?_ <;> (intro _hg; try (exfalso; omega)))|refine ak rfl ?_|refine r1Z ?_|fail)) <;> (try clear zz)
  all_goals exact ci rfl
 rw [show a8 c=if bZ (jL c) c.length ≠ 0 then bZ (jL c) c.length else if c.any (bI c)=true then 7 else 0 by unfold a8; rw [if_neg h0]]
 refine ed ?_
 (have zz:=aI @ac (aI @ao @ai); repeat' (first|apply a_n|refine zO ?_|refine vZ ?_|refine bxZ ?_|fail)) <;> (try clear zz)
 refine ed ?_
 (have zz:=aI @ac (aI @ao @ai); repeat' (first|apply a_n|refine zO ?_|refine vZ ?_|fail)) <;> (try clear zz)
 refine ed (ed ?_)
 (have zz:=aI @ac (aI @ao @ai); repeat' (first|apply a_n|refine zO ?_|refine vZ ?_|(refine zGZ ?_ ?_ <;> (intro _hg; try (exfalso; omega)))|fail)) <;> (try clear zz)
 by_cases hz:bZ (jL c) c.length ≠ 0
 ·rw [if_pos hz]
  (have zz:=aI @ac (aI @ao @ai); repeat' (first|refine zW ?_|apply a_n|refine zO ?_|refine vZ ?_|fail)) <;> (try clear zz)
  refine bb (X:=Nat) (fun k=>[(3,aq c),(4,.int .i64 k)]) (fun k H nx=>k ≤ c.length∧∀ i,i < k→jL c i=0) (fun k=>c.length - k) 0 ⟨Nat.zero_le _,fun i h=>absurd h (by omega)⟩ ag0 ?_
  rintro k H nx ⟨h1,h2⟩
  by_cases hk:k < c.length
  rotate_left
  ·exact absurd (cp fun i hi=>h2 i (by omega)) hz
  have ix:=cT hk
  have hs1:=hs _ (aH hk)
  have hp:=sd (c.getD k default) hs1
  have hsp:=mV (c:=c) (k:=k)
  by_cases he:bg (c.getD k default) ≠ 0
  ·rw [if_pos he] at hsp
   rw [bG hk h2 (by rw [hsp]; exact he),hsp]
   have z:decide (bg (c.getD k default) ≠ 0)=true:=decide_eq_true he
   (have zz:=aI @ac (aI @ix @z); repeat' (first|refine zW ?_|apply a_n|apply a_r|refine zO ?_|refine vY ?_|refine cY ?_ (hp:=hp) (hs:=by (first | refine ab ?_ rfl | apply ae); (repeat' (first | exact aa | apply am | apply af | exact ax _)); first | done | fail)|refine cTY ?_|(refine zGY ?_ ?_ <;> (intro _hg; try (exfalso; omega)))|refine ak rfl ?_|refine r1Y ?_|fail)) <;> (try clear zz)
   exact .int _ _
  rw [if_neg he] at hsp
  have he:=Decidable.of_not_not he
  rw [he] at hp
  have z:decide ((0:Int) ≠ 0)=false:=rfl
  by_cases hk0:0 < k
  rotate_left
  ·rw [if_neg (fun h=>hk0 h.1)] at hsp
   have zk:decide (0 < (k:Int))=false:=decide_eq_false (by omega)
   (have zz:=aI @ac (aI @ix (aI @z @zk)); repeat' (first|refine zW ?_|refine zM ?_|apply a_n|refine zO ?_|refine vY ?_|refine cY ?_ (hp:=hp) (hs:=by (first | refine ab ?_ rfl | apply ae); (repeat' (first | exact aa | apply am | apply af | exact ax _)); first | done | fail)|refine gFY ?_|refine cFY ?_|(refine zGY ?_ ?_ <;> (intro _hg; try (exfalso; omega)))|fail)) <;> (try clear zz)
   exact ⟨k + 1,by omega,⟨by omega,fun i hi=>by
    rcases Nat.lt_succ_iff_lt_or_eq.1 hi with h' | rfl
    ·exact h2 i h'
    ·exact hsp⟩,ag0⟩
  have zk:decide (0 < (k:Int))=true:=decide_eq_true (by omega)
  have iy:dt 1 (aq c) (.int .i64 ((k:Int) - 1))=some (.iptr [au (c.getD (k - 1) default)] 0):=by
   have:=cT (l:=c) (k:=k - 1) (by omega)
   rwa [show ((k - 1:Nat):Int)=(k:Int) - 1 by omega] at this
  have hcm:=fV (c.getD (k - 1) default) (c.getD k default) (hs _ (aH (by omega))) hs1
  by_cases hv:0 ≤ aK (c.getD (k - 1) default) (c.getD k default)
  ·have z2:decide (0 ≤ aK (c.getD (k - 1) default) (c.getD k default))=true:=decide_eq_true hv
   rw [if_pos ⟨hk0,hv⟩] at hsp
   rw [bG hk h2 (by rw [hsp]; decide),hsp]
   (have zz:=aI @ac (aI @ix (aI @iy (aI @z (aI @zk @z2)))); repeat' (first|refine zW ?_|refine zM ?_|apply a_n|apply a_r|refine zO ?_|refine vY ?_|refine cY ?_ (hp:=by first | exact hp | exact hcm) (hs:=by (first | refine ab ?_ rfl | apply ae); (repeat' (first | exact aa | apply am | apply af | exact ax _)); first | done | fail)|refine gTY ?_|refine cTY ?_|refine cFY ?_|(refine zGY ?_ ?_ <;> (intro _hg; try (exfalso; omega)))|refine ak rfl ?_|refine r1Y ?_|fail)) <;> (try clear zz)
   exact .int _ _
  ·have z2:decide (0 ≤ aK (c.getD (k - 1) default) (c.getD k default))=false:=decide_eq_false hv
   rw [if_neg (fun h=>hv h.2)] at hsp
   (have zz:=aI @ac (aI @ix (aI @iy (aI @z (aI @zk @z2)))); repeat' (first|refine zW ?_|refine zM ?_|apply a_n|refine zO ?_|refine vY ?_|refine cY ?_ (hp:=by first | exact hp | exact hcm) (hs:=by (first | refine ab ?_ rfl | apply ae); (repeat' (first | exact aa | apply am | apply af | exact ax _)); first | done | fail)|refine gTY ?_|refine cFY ?_|(refine zGY ?_ ?_ <;> (intro _hg; try (exfalso; omega)))|fail)) <;> (try clear zz)
   exact ⟨k + 1,by omega,⟨by omega,fun i hi=>by
    rcases Nat.lt_succ_iff_lt_or_eq.1 hi with h' | rfl
    ·exact h2 i h'
    ·exact hsp⟩,ag0⟩
 have hz:=Decidable.of_not_not hz
 rw [if_neg (fun h=>h hz)]
 obtain ⟨a1,a2⟩:=rW hz
 have hok:=vI (by omega) a1
 refine br (fun T H nx=>T 3=aq c) ?_ ?_
 ·(have zz:=aI @ac (aI @ao @ai); repeat' (first|refine zW ?_|apply a_n|refine zO ?_|refine vZ ?_|fail)) <;> (try clear zz)
  refine bb (X:=Nat) (fun k=>[(3,aq c),(4,.int .i64 k)]) (fun k H nx=>k ≤ c.length) (fun k=>c.length - k) 0 (Nat.zero_le _) ag0 ?_
  rintro k H nx h1
  by_cases hk:k < c.length
  rotate_left
  ·(have zz:=@ac; repeat' (first|refine zW ?_|apply a_n|apply a_x|refine zO ?_|refine vY ?_|(refine zGY ?_ ?_ <;> (intro _hg; try (exfalso; omega)))|fail)) <;> (try clear zz)
   exact rfl
  have ix:=cT hk
  have hs1:=hs _ (aH hk)
  have hp:=sd (c.getD k default) hs1
  rw [a1 _ (aH hk)] at hp
  have z:decide ((0:Int) ≠ 0)=false:=rfl
  by_cases hk0:0 < k
  rotate_left
  ·have zk:decide (0 < (k:Int))=false:=decide_eq_false (by omega)
   (have zz:=aI @ac (aI @ix (aI @z @zk)); repeat' (first|refine zW ?_|refine zM ?_|apply a_n|refine zO ?_|refine vY ?_|refine cY ?_ (hp:=hp) (hs:=by (first | refine ab ?_ rfl | apply ae); (repeat' (first | exact aa | apply am | apply af | exact ax _)); first | done | fail)|refine gFY ?_|refine cFY ?_|(refine zGY ?_ ?_ <;> (intro _hg; try (exfalso; omega)))|fail)) <;> (try clear zz)
   exact ⟨k + 1,by omega,by omega,ag0⟩
  have zk:decide (0 < (k:Int))=true:=decide_eq_true (by omega)
  have iy:dt 1 (aq c) (.int .i64 ((k:Int) - 1))=some (.iptr [au (c.getD (k - 1) default)] 0):=by
   have:=cT (l:=c) (k:=k - 1) (by omega)
   rwa [show ((k - 1:Nat):Int)=(k:Int) - 1 by omega] at this
  have hcm:=fV (c.getD (k - 1) default) (c.getD k default) (hs _ (aH (by omega))) hs1
  have z2:decide (0 ≤ aK (c.getD (k - 1) default) (c.getD k default))=false:=decide_eq_false (by have:=cA a2 (i:=k - 1) (j:=k) (by omega) hk; omega)
  (have zz:=aI @ac (aI @ix (aI @iy (aI @z (aI @zk @z2)))); repeat' (first|refine zW ?_|refine zM ?_|apply a_n|refine zO ?_|refine vY ?_|refine cY ?_ (hp:=by first | exact hp | exact hcm) (hs:=by (first | refine ab ?_ rfl | apply ae); (repeat' (first | exact aa | apply am | apply af | exact ax _)); first | done | fail)|refine gTY ?_|refine cFY ?_|(refine zGY ?_ ?_ <;> (intro _hg; try (exfalso; omega)))|fail)) <;> (try clear zz)
  exact ⟨k + 1,by omega,by omega,ag0⟩
 rintro T H nx t3
 (have zz:=@t3; repeat' (first|refine zW ?_|apply a_n|refine zO ?_|refine vY ?_|fail)) <;> (try clear zz)
 refine bb (X:=Nat) (fun k=>[(3,aq c),(6,.int .i64 k)]) (fun k H' nx'=>k ≤ c.length∧∀ i,i < k→bI c (c.getD i default)=false) (fun k=>c.length - k) 0 ⟨Nat.zero_le _,fun i h=>absurd h (by omega)⟩ (have zz:=@t3; agZ) ?_
 clear t3
 rintro i H1 nx1 ⟨h1,h2⟩
 by_cases hi:i < c.length
 rotate_left
 ·rw [ki fun i hi=>h2 i (by omega),if_neg (by decide)]
  (have zz:=@ac; repeat' (first|refine zW ?_|apply a_n|apply a_x|refine zO ?_|refine vY ?_|(refine zGY ?_ ?_ <;> (intro _hg; try (exfalso; omega)))|refine ak rfl ?_|refine r1Y ?_|fail)) <;> (try clear zz)
  exact .int _ _
 (have zz:=@ac; repeat' (first|refine zW ?_|apply a_n|refine zO ?_|refine vY ?_|(refine zGY ?_ ?_ <;> (intro _hg; try (exfalso; omega)))|fail)) <;> (try clear zz)
 refine bb (X:=Nat) (fun k=>[(3,aq c),(6,.int .i64 i),(7,.int .i64 k)]) (fun k H' nx'=>k ≤ c.length∧∀ j,j < k→i ≠ j→cf (c.getD i default) (c.getD j default)=false) (fun k=>c.length - k) 0 ⟨Nat.zero_le _,fun i h=>absurd h (by omega)⟩ ag0 ?_
 rintro k H2 nx2 ⟨k1,k2⟩
 by_cases hk:k < c.length
 rotate_left
 ·(have zz:=@ac; repeat' (first|refine zW ?_|apply a_n|apply a_x|refine zO ?_|refine vY ?_|(refine zGY ?_ ?_ <;> (intro _hg; try (exfalso; omega)))|fail)) <;> (try clear zz)
  refine ⟨i + 1,by omega,⟨by omega,fun j hj=>?_⟩,ag0⟩
  rcases Nat.lt_succ_iff_lt_or_eq.1 hj with h' | rfl
  ·exact h2 j h'
  ·cases hb:bI c (c.getD j default)
   ·rfl
   ·obtain ⟨q,q1,q2,q3⟩:=vN hb
    rw [k2 q (by omega) q2] at q3; cases q3
 have ix:=cT hi
 have iy:=cT hk
 by_cases hik:i=k
 ·have z:decide ((i:Int) ≠ (k:Int))=false:=decide_eq_false (by omega)
  (have zz:=aI @ac @z; repeat' (first|refine zW ?_|refine zM ?_|apply a_n|refine zO ?_|refine vY ?_|refine gFY ?_|refine cFY ?_|(refine zGY ?_ ?_ <;> (intro _hg; try (exfalso; omega)))|fail)) <;> (try clear zz)
  exact ⟨k + 1,by omega,⟨by omega,fun j hj hij=>k2 j (by omega) hij⟩,ag0⟩
 have z:decide ((i:Int) ≠ (k:Int))=true:=decide_eq_true (by omega)
 have hin:=pB (c.getD i default) (c.getD k default) (hs _ (aH hi)) (hs _ (aH hk))
 have ht:=uo (fun s hs=>(hok.2 s hs).1) a2 hi hk hik
 cases hb:cf (c.getD i default) (c.getD k default)
 ·rw [hb] at hin
  (have zz:=aI @ac (aI @ix (aI @iy @z)); repeat' (first|refine zW ?_|refine zM ?_|apply a_n|refine zO ?_|refine vY ?_|refine cY ?_ (hp:=hin) (hs:=by (first | refine ab ?_ rfl | apply ae); (repeat' (first | exact aa | apply am | apply af | exact ax _)); first | done | fail)|refine gTY ?_|refine cFY ?_|(refine zGY ?_ ?_ <;> (intro _hg; try (exfalso; omega)))|fail)) <;> (try clear zz)
  exact ⟨k + 1,by omega,⟨by omega,fun j hj hij=>by
   rcases Nat.lt_succ_iff_lt_or_eq.1 hj with h' | rfl
   ·exact k2 j h' hij
   ·exact hb⟩,ag0⟩
 ·rw [hb] at hin
  rw [if_pos (List.any_eq_true.2 ⟨_,aH hi,ht hb⟩)]
  (have zz:=aI @ac (aI @ix (aI @iy @z)); repeat' (first|refine zW ?_|refine zM ?_|apply a_n|apply a_r|refine zO ?_|refine vY ?_|refine cY ?_ (hp:=hin) (hs:=by (first | refine ab ?_ rfl | apply ae); (repeat' (first | exact aa | apply am | apply af | exact ax _)); first | done | fail)|refine gTY ?_|refine cTY ?_|(refine zGY ?_ ?_ <;> (intro _hg; try (exfalso; omega)))|refine ak rfl ?_|refine r1Y ?_|fail)) <;> (try clear zz)
  exact .int _ _
end Go.Proofs.Ytfcenbapjhecfaa
namespace Go.Proofs.Ytfcenbapjhecfaa
open Go Go.Abs
structure MapV where
 fr:Spx
 to:Spx
 deriving Inhabited,DecidableEq
abbrev zQ (m:MapV):AV:=.agg [au m.fr,au m.to]
theorem vu (m:MapV):Dat (zQ m):=Dat.agg (DatL.cons (ax _) (DatL.cons (ax _) DatL.nil))
instance datI_encM {m:MapV}:DatI (zQ m):=⟨vu m⟩
attribute [local irreducible] aD aj aX aP aG aL az aM aR bd Go.Abs.Fn aO Go.Abs.Pure aw aF Yl
theorem vw {H:Hp} {a b:Bool} {e f:Int} (h1:a=b) (h2:e=f):Snap H (.tup [.bool a,.int .i64 e]) (.tup [.bool b,.int .i64 f]):=by
 subst h1 h2; exact d7 (an (.bool _) (an (.int _ _) aa))
end Go.Proofs.Ytfcenbapjhecfaa
namespace Go.Proofs.Ytfcenbapjhecfaa
open Go Go.Abs
attribute [local irreducible] aD aj aX aP aG aL az aM aR bd Go.Abs.Fn aO Go.Abs.Pure aw aF Yl
end Go.Proofs.Ytfcenbapjhecfaa
namespace Go.Proofs.Ytfcenbapjhecfaa
open Go Go.Abs
attribute [local irreducible] aD aj aX aP aG aL az aM aR bd Go.Abs.Fn aO Go.Abs.Pure aw aF Yl
end Go.Proofs.Ytfcenbapjhecfaa
namespace Go.Proofs.Ytfcenbapjhecfaa
open Go Go.Abs
attribute [local irreducible] aD aj aX aP aG aL az aM aR bd Go.Abs.Fn aO Go.Abs.Pure aw aF Yl
end Go.Proofs.Ytfcenbapjhecfaa
namespace Go.Proofs.Ytfcenbapjhecfaa
open Go Go.Abs
theorem rx {c:List Spx}:gR c=true ↔ c.length ≤ 30∧∀ s ∈ c,s.length ≤ 10:=by
 unfold gR
 rw [Bool.and_eq_true,decide_eq_true_iff,List.all_eq_true]
 simp only [decide_eq_true_iff]
attribute [local irreducible] aD aj aX aP aG aL az aM aR bd Go.Abs.Fn aO Go.Abs.Pure aw aF Yl
end Go.Proofs.Ytfcenbapjhecfaa
namespace Go.Proofs.Ytfcenbapjhecfaa
open Go Go.Abs
def bn:Spx→Nat→List Spx
 | _,0=>[[]]
 | [],_ + 1=>[]
 | x :: l,k + 1=>(bn l k).map (x :: ·) ++ bn l (k + 1)
theorem iB {l:Spx}:bn l 0=[[]]:=by cases l <;> rfl
theorem qA {k:Nat}:bn [] (k + 1)=[]:=rfl
theorem eG {x:Vtx} {l:Spx} {k:Nat}:bn (x :: l) (k + 1)=(bn l k).map (x :: ·) ++ bn l (k + 1):=rfl
theorem cE:∀ {l:Spx} {k:Nat} {s:Spx},s ∈ bn l k ↔ s.Sublist l∧s.length=k
 | l,0,s=>by
  rw [iB,List.mem_singleton]
  exact ⟨fun h=>by subst h; exact ⟨List.nil_sublist _,rfl⟩,fun h=>List.length_eq_zero_iff.1 h.2⟩
 | [],k + 1,s=>by
  rw [qA]
  refine ⟨fun h=>(by cases h),fun ⟨h1,h2⟩=>?_⟩
  rw [List.sublist_nil] at h1
  subst h1; simp at h2
 | x :: l,k + 1,s=>by
  rw [eG,List.mem_append,List.mem_map,cE]
  constructor
  ·rintro (⟨t,ht,rfl⟩ | ⟨h1,h2⟩)
   ·have:=cE.1 ht
    exact ⟨this.1.cons_cons x,by simp [this.2]⟩
   ·exact ⟨h1.cons x,h2⟩
  ·rintro ⟨h1,h2⟩
   cases h1 with
   | cons _ h=>exact .inr ⟨h,h2⟩
   | cons_cons _ h=>exact .inl ⟨_,cE.2 ⟨h,by simpa using h2⟩,rfl⟩
theorem fR {l:Spx} {k:Nat} (h:l.length < k):bn l k=[]:=by
 cases e:bn l k with
 | nil=>rfl
 | cons a r =>
  have:=cE.1 (show a ∈ bn l k by rw [e]; exact List.mem_cons_self)
  have:=this.1.length_le
  omega
def chK:Nat→Nat→Nat
 | _,0=>1
 | 0,_ + 1=>0
 | n + 1,k + 1=>chK n k + chK n (k + 1)
theorem y8 {n:Nat}:chK n 0=1:=by cases n <;> rfl
theorem m9:∀ {l:Spx} {k:Nat},(bn l k).length=chK l.length k
 | l,0=>by rw [iB,y8]; rfl
 | [],k + 1=>rfl
 | x :: l,k + 1=>by
  rw [eG,List.length_append,List.length_map,m9,m9]; rfl
theorem x8 {n k:Nat} (hn:n ≤ 8):chK n k ≤ 70:=by
 by_cases hk:k ≤ 8
 ·have:∀ n,n < 9→∀ k,k < 9→chK n k ≤ 70:=by decide
  exact this n (by omega) k (by omega)
 ·have:∀ n k,n < k→chK n k=0:=by
    intro n
    induction n with
    | zero=>intro k h; match k,h with | k + 1,_=>rfl
    | succ n ih=>intro k h; match k,h with | k + 1,h=>show chK n k + chK n (k + 1)=0; rw [ih k (by omega),ih (k + 1) (by omega)]
  rw [this n k (by omega)]; omega
theorem iZ {l:Spx} {k:Nat} (h:l.length ≤ 8):(bn l k).length ≤ 70:=by rw [m9]; exact x8 h
theorem nA {l:Spx} {i k:Nat} (hi:i < l.length):bn (l.drop i) (k + 1)=(bn (l.drop (i + 1)) k).map (l.getD i default :: ·) ++ bn (l.drop (i + 1)) (k + 1):=by
 rw [List.drop_eq_getElem_cons hi,eG]
 simp [List.getD,hi]
theorem nF {v w:Vtx} {l m:Spx}:aK (v :: l) (w :: m)=if bt v w ≠ 0 then bt v w else aK l m:=rfl
theorem tg {v:Vtx} {l m:Spx}:aK (v :: l) (v :: m)=aK l m:=by
 rw [nF,if_neg (fun h=>h (eF.2 rfl))]
theorem gz:∀ {l:Spx} {k:Nat},bk bt l→bk aK (bn l k)
 | l,0,_=>by rw [iB]; exact List.pairwise_singleton _ _
 | [],k + 1,_=>List.Pairwise.nil
 | x :: l,k + 1,h=>by
  have h':=List.pairwise_cons.1 h
  rw [eG]
  unfold bk
  rw [List.pairwise_append]
  refine ⟨?_,gz h'.2,?_⟩
  ·rw [List.pairwise_map]
   exact List.Pairwise.imp (fun {a b} hab=>by rw [tg]; exact hab) (gz (k:=k) h'.2)
  ·intro a ha b hb
   obtain ⟨t,_,rfl⟩:=List.mem_map.1 ha
   have hb':=cE.1 hb
   cases b with
   | nil=>simp at hb'
   | cons y r =>
    have hy:y ∈ l:=hb'.1.subset List.mem_cons_self
    have:=h'.1 y hy
    rw [nF,if_pos (by omega)]
    exact this
end Go.Proofs.Ytfcenbapjhecfaa
namespace Go.Proofs.Ytfcenbapjhecfaa
open Go Go.Abs
open Nat (reduceEqDiff reduceAdd reduceLeDiff)
attribute [local irreducible] aD aj aX aP aG aL az aM aR bd Go.Abs.Fn aO Go.Abs.Pure aw aF Yl
theorem uT (s:AV) (l:Spx) (hl:l.length ≤ 1000000) (h0:l ≠ []) (H:Hp) (nx:Nat) (hn:dH s=some l.length) (hs:∀ H',(∀ x,x < nx→H' x=H x)→dr 2 H' s=some (l.length,cX l)):Abs.Fn Try.prog 83 [s] H nx fun r H' nx'=>r=.msl nx (l.length * 2) 2 0 l.length∧H'=ar H nx (cX l)∧nx'=nx + 1:=by
 have hpos:=List.length_pos_iff.2 h0
 refine Abs.Fn.of_c2 follows zD (Nat.le_of_ble_eq_true rfl) ?_
 simp only [b83,cO,cG,cN,cM,cD,cF,cB,aB,aQ]
 (have zz:=and_self; repeat' (first|refine zW ?_|apply a_n|refine zO ?_|refine vY ?_|fail)) <;> (try clear zz)
 refine uQ (k:=l.length) (by ((try simp only [bQ,ZA,reduceEqDiff,↓reduceIte,reduceAdd,reduceLeDiff]); (try with_reducible rfl)); exact hn) (fun h=>?_) (fun h=>by omega) (fun h=>by omega)
 (have zz:=and_self; repeat' (first|refine zW ?_|apply a_n|refine zO ?_|refine vY ?_|refine b0Y ?_|refine cFY ?_|fail)) <;> (try clear zz)
 refine oY rfl ev0 ev0 (hs _ fun x _=>rfl) (fH _) (by omega) (by omega) ?_
 (have zz:=and_self; repeat' (first|apply a_n|refine zO ?_|refine vY ?_|refine ak rfl ?_|refine r1Y ?_|fail)) <;> (try clear zz)
 exact ⟨rfl,rfl,rfl⟩
theorem yL {y lo kb sb k N:Nat} {s:Spx} (hs:s.length ≤ 1000) (hk:k ≤ 1000) (I:List Spx→Hp→Nat→Prop)
    (hp:∀ S H nx,I S H nx→H kb=some [.int .i64 k]∧H sb=some [au s]∧lo + 3 ≤ nx∧kb < lo∧sb < lo)
    (stab:∀ S H H' nx nx',I S H nx→nx ≤ nx'→(∀ i,i < nx→¬ (lo ≤ i∧i < lo + 3)→H' i=H i)→I S H' nx')
    (rnd:∀ S f H nx,I S H nx→f.length=k→f ≠ []→S.length < N→Yl Try.prog y [.msl nx (k * 2) 2 0 k] (ar H nx (cX f)) (nx + 1) fun r H' nx'=>r=.bool true∧I (S ++ [f]) H' nx'∧nx ≤ nx'∧∀ i,lo ≤ i→i < lo + 3→H' i=H i) :
    ∀ (j:Nat) (ch:Spx) (at_:Nat) (S:List Spx) (H:Hp) (nx:Nat),0 < k→ch.length + j=k→S.length + (bn (s.drop at_) j).length ≤ N→at_ ≤ s.length→I S H nx→H lo=some [.yld y]→H (lo + 1)=some [.func 118 [.ptr kb 1 0,.ptr lo 1 0,.ptr sb 1 0,.ptr (lo + 1) 1 0]]→(∃ C,H (lo + 2)=some C∧C.length=k * 2∧C.take (ch.length * 2)=cX ch) →
     Abs.Fn Try.prog 118 [.int .i64 at_,.msl (lo + 2) (k * 2) 2 0 ch.length,.ptr kb 1 0,.ptr lo 1 0,.ptr sb 1 0,.ptr (lo + 1) 1 0] H nx fun r H' nx'=>r=.bool true∧I (S ++ (bn (s.drop at_) j).map (ch ++ ·)) H' nx'∧nx ≤ nx'∧H' lo=H lo∧H' (lo + 1)=H (lo + 1)∧∃ C,H' (lo + 2)=some C∧C.length=k * 2∧C.take (ch.length * 2)=cX ch:=by
 intro j
 induction j with
 | zero =>
  intro ch at_ S H nx hk0 hj hN hat hI h1 h2 ⟨C,h3,hc1,hc2⟩
  obtain ⟨g1,g2,g3,g4,g5⟩:=hp _ _ _ hI
  have hlen:ch.length=k:=by omega
  have hne:ch ≠ []:=fun e=>by rw [e] at hlen; simp at hlen; omega
  obtain rfl:C=cX ch:=by rw [← hc2,List.take_of_length_le (by omega)]
  refine Abs.Fn.of_c2 follows xL (Nat.le_of_ble_eq_true rfl) ?_
  simp only [xX,cO,cG,cN,cM,cD,cF,cB,aB,aQ]
  have hcl:=uT (.msl (lo + 2) (k * 2) 2 0 k) ch (by omega) hne H nx (by rw [hlen]; rfl) (fun H' hH'=>by rw [hlen]; exact (gG (n:=k * 2) (off:=0) (len:=k) ((hH' (lo + 2) (by omega)).trans h3) hc1 (by omega)).trans (by rw [List.drop_zero,List.take_of_length_le (by omega)]))
  rw [hlen] at hcl
  rw [hlen]
  have z:decide ((k:Int)=k)=true:=decide_eq_true rfl
  (have zz:=aI @g1 (aI @g2 (aI @h1 (aI @h2 @z))); repeat' (first|refine zW ?_|apply a_n|refine zO ?_|refine vY ?_|(refine zGY ?_ ?_ <;> (intro _hg; try (exfalso; omega)))|fail)) <;> (try clear zz)
  refine me lo h1 fun S0 hS hsub=>?_
  (have zz:=@hS; repeat' (first|apply a_n|refine zO ?_|refine nvY ?_|fail)) <;> (try clear zz)
  refine gn ?_
  refine aU ev0 ev0 hcl ?_
  rintro _ H2 nx2 ⟨rfl,rfl,rfl⟩
  refine my ⟨hsub _ (by rw [ag (by omega)]; exact h1),?_⟩
  refine ia ?_
  refine sO ev0 ev0 (Yl.mono (rnd S ch H nx hI hlen hne (by rw [iB] at hN; exact hN)) ?_)
  rintro r H3 nx3 ⟨rfl,e1,e2,e3⟩
  (have zz:=and_self; repeat' (first|apply a_n|apply a_r|refine zO ?_|refine nvY ?_|refine ak rfl ?_|refine r1Y ?_|fail)) <;> (try clear zz)
  refine ⟨rfl,?_,e2,e3 _ (by omega) (by omega),e3 _ (by omega) (by omega),cX ch,(e3 _ (by omega) (by omega)).trans h3,hc1,by rw [← hlen]; exact hc2⟩
  rw [iB,List.map_cons,List.map_nil,List.append_nil]
  exact e1
 | succ j ih =>
  intro ch at_ S H nx hk0 hj hN hat hI h1 h2 ⟨C,h3,hc1,hc2⟩
  obtain ⟨g1,g2,g3,g4,g5⟩:=hp _ _ _ hI
  refine Abs.Fn.of_c2 follows xL (Nat.le_of_ble_eq_true rfl) ?_
  simp only [xX,cO,cG,cN,cM,cD,cF,cB,aB,aQ]
  have z:decide ((ch.length:Int)=k)=false:=decide_eq_false (by omega)
  (have zz:=aI @g1 (aI @g2 (aI @h1 (aI @h2 @z))); repeat' (first|refine zW ?_|apply a_n|refine zO ?_|refine vY ?_|refine cFY ?_|fail)) <;> (try clear zz)
  refine bb (X:=Nat × List Spx) (fun x=>[(1,.msl (lo + 2) (k * 2) 2 0 ch.length),(4,.ptr sb 1 0),(5,.ptr (lo + 1) 1 0),(9,.int .i64 x.1)]) (fun x H' nx'=>x.1 ≤ s.length∧I x.2 H' nx'∧nx ≤ nx'∧H' lo=H lo∧H' (lo + 1)=H (lo + 1)∧(∃ C,H' (lo + 2)=some C∧C.length=k * 2∧C.take (ch.length * 2)=cX ch)∧x.2 ++ (bn (s.drop x.1) (j + 1)).map (ch ++ ·)=S ++ (bn (s.drop at_) (j + 1)).map (ch ++ ·)) (fun x=>s.length - x.1) (at_,S) ⟨hat,hI,Nat.le_refl _,rfl,rfl,⟨C,h3,hc1,hc2⟩,rfl⟩ ag0 ?_
  rintro ⟨i,S1⟩ H1 nx1 ⟨i1,hI1,i2,i3,i4,⟨C1,k3,d1,d2⟩,htot⟩
  dsimp only at i1 hI1 htot ⊢
  obtain ⟨q1,q2,q3,q4,q5⟩:=hp _ _ _ hI1
  have w1:=i3.trans h1
  have w2:=i4.trans h2
  by_cases hi:i < s.length
  rotate_left
  ·(have zz:=aI @q1 (aI @q2 @ap); repeat' (first|refine zW ?_|apply a_n|apply a_x|refine zO ?_|refine vY ?_|(refine zGY ?_ ?_ <;> (intro _hg; try (exfalso; omega)))|refine ak rfl ?_|refine r1Y ?_|fail)) <;> (try clear zz)
   rw [show s.drop i=[] from List.drop_eq_nil_of_le (by omega),qA,List.map_nil,List.append_nil] at htot
   exact ⟨rfl,by rw [← htot]; exact hI1,i2,i3,i4,C1,k3,d1,d2⟩
  have ix:=ix2 hi
  rw [nA hi,List.map_append,List.map_map,← List.append_assoc] at htot
  have hmm:(bn (s.drop (i + 1)) j).map ((fun x=>ch ++ x) ∘ fun x=>s.getD i default :: x)=(bn (s.drop (i + 1)) j).map ((ch ++ [s.getD i default]) ++ ·):=List.map_congr_left fun x _=>by simp
  rw [hmm] at htot
  generalize s.getD i default=v at *
  (have zz:=aI @q1 (aI @q2 @ap); repeat' (first|refine zW ?_|apply a_n|refine zO ?_|refine vY ?_|(refine zGY ?_ ?_ <;> (intro _hg; try (exfalso; omega)))|fail)) <;> (try clear zz)
  refine oE sb (lo + 1) q2 w2 (by omega) fun S0 hS1 hS2 hsub=>?_
  (have zz:=aI @hS1 (aI @hS2 @ix); repeat' (first|apply a_n|refine zO ?_|refine nvY ?_|fail)) <;> (try clear zz)
  refine gn ?_
  (have zz:=and_self; repeat' (first|apply a_n|refine zO ?_|refine blY ?_|fail)) <;> (try clear zz)
  refine ⟨hsub _ (by rw [ag (by omega)]; exact q2) (by rw [ag (by omega)]; exact w2),?_⟩
  refine gn ?_
  refine vG (b:=lo + 2) (m:=k * 2) (off:=0) (len:=ch.length) (n:=1) rfl ev0 (by rw [ag (by omega)]; exact k3) ev0 n5 rfl d1 (fun _=>by omega) (by omega) (by omega) ?_
  refine my ⟨hsub _ (by rw [ag (by omega),ag (by omega)]; exact q2) (by rw [ag (by omega),ag (by omega)]; exact w2),?_⟩
  refine ia ?_
  have hl1:(ch ++ [v]).length=ch.length + 1:=by simp
  have hcc:=dP ch
  have hput:(bl C1 (0 + ch.length * 2) [.int .i64 v.color,.int .i64 v.label]).length=k * 2∧(bl C1 (0 + ch.length * 2) [.int .i64 v.color,.int .i64 v.label]).take ((ch.length + 1) * 2)=cX (ch ++ [v]):=by
   rw [Nat.zero_add]
   simp only [bl]
   refine ⟨by simp [d1]; omega,?_⟩
   rw [d2,gO,xZ,List.take_append_of_le_length (by simp [hcc]; omega),List.take_of_length_le (by simp [hcc]; omega)]
  have hN1:S1.length + (bn (s.drop (i + 1)) j).length ≤ N:=by
   have:=congrArg List.length htot
   simp only [List.length_append,List.length_map] at this
   omega
  have hih:=ih (ch ++ [v]) (i + 1) S1 (ar (ar H1 nx1 [.int .i64 v.color,.int .i64 v.label]) (lo + 2) (bl C1 (0 + ch.length * 2) [.int .i64 v.color,.int .i64 v.label])) (nx1 + 1) hk0 (by omega) hN1 (by omega) (stab _ _ _ _ _ hI1 (by omega) (fun x hx hn=>by rw [ag (by omega),ag (by omega)])) (by rw [ag (by omega),ag (by omega)]; exact w1) (by rw [ag (by omega),ag (by omega)]; exact w2) ⟨_,ah,hput.1,by rw [hl1]; exact hput.2⟩
  rw [hl1,show ((i + 1:Nat):Int)=(i:Int) + 1 by omega] at hih
  refine aU ev0 ev0 hih ?_
  rintro r H4 nx4 ⟨rfl,f1,f2,f3,f4,C4,f5,f6,f7⟩
  (have zz:=and_self; repeat' (first|apply a_n|refine zO ?_|refine vY ?_|refine nvY ?_|refine cFY ?_|fail)) <;> (try clear zz)
  refine ⟨(i + 1,S1 ++ (bn (s.drop (i + 1)) j).map ((ch ++ [v]) ++ ·)),by dsimp only; omega,⟨by dsimp only; omega,f1,by omega,f3.trans ?_,f4.trans ?_,⟨C4,f5,f6,?_⟩,htot⟩,ag0⟩
  ·rw [ag (by omega),ag (by omega)]; exact i3
  ·rw [ag (by omega),ag (by omega)]; exact i4
  ·have:=congrArg (List.take (ch.length * 2)) f7
   rw [List.take_take,Nat.min_eq_left (by omega),gO,List.take_append_of_le_length (by omega)] at this
   rw [this]
   exact List.take_of_length_le (by omega)
end Go.Proofs.Ytfcenbapjhecfaa
namespace Go.Proofs.Ytfcenbapjhecfaa
open Go Go.Abs
open Nat (reduceEqDiff reduceAdd reduceLeDiff)
attribute [local irreducible] aD aj aX aP aG aL az aM aR bd Go.Abs.Fn aO Go.Abs.Pure aw aF Yl
theorem va {y kb sb k:Nat} {s:Spx} {H:Hp} {nx:Nat} (hs:s.length ≤ 1000) (hk0:0 < k) (hk:k ≤ 1000) (I:List Spx→Hp→Nat→Prop)
    (hp:∀ S H nx',I S H nx'→H kb=some [.int .i64 k]∧H sb=some [au s]∧nx + 3 ≤ nx'∧kb < nx∧sb < nx)
    (stab:∀ S H H' nx1 nx',I S H nx1→nx1 ≤ nx'→(∀ i,i < nx1→¬ (nx ≤ i∧i < nx + 3)→H' i=H i)→I S H' nx')
    (rnd:∀ S f H nx1,I S H nx1→f.length=k→f ≠ []→S.length < (bn s k).length→Yl Try.prog y [.msl nx1 (k * 2) 2 0 k] (ar H nx1 (cX f)) (nx1 + 1) fun r H' nx'=>r=.bool true∧I (S ++ [f]) H' nx'∧nx1 ≤ nx'∧∀ i,nx ≤ i→i < nx + 3→H' i=H i)
    (gk:H kb=some [.int .i64 k]) (lk:kb < nx) (h0:∀ H',(∀ i,i < nx→H' i=H i)→I [] H' (nx + 3)) :
    Abs.Fn Try.prog 117 [.yld y,.ptr kb 1 0,.ptr sb 1 0] H nx fun _ H' nx'=>I (bn s k) H' nx':=by
 refine Abs.Fn.of_c2 follows zA (Nat.le_of_ble_eq_true rfl) ?_
 simp only [z9,cO,cG,cN,cM,cD,cF,cB,aB,aQ]
 (have zz:=@gk; repeat' (first|refine zW ?_|apply a_n|refine zO ?_|refine vY ?_|refine alY ?_|refine bxY ?_|refine stY ?_|fail)) <;> (try clear zz)
 generalize hH:ar (ar (ar H nx [.yld y]) (nx + 1) [.nilf]) (nx + 1) (bl [.nilf] 0 [.func 118 [.ptr kb 1 0,.ptr nx 1 0,.ptr sb 1 0,.ptr (nx + 1) 1 0]])=H1
 have hfn:H1 (nx + 1)=some [.func 118 [.ptr kb 1 0,.ptr nx 1 0,.ptr sb 1 0,.ptr (nx + 1) 1 0]]:=by rw [← hH,ah]; rfl
 have hfk:H1 kb=some [.int .i64 k]:=by rw [← hH,ag (by omega),ag (by omega),ag (by omega)]; exact gk
 have hfy:H1 nx=some [.yld y]:=by rw [← hH,ag (by omega),ag (by omega),ah]
 have hfo:∀ i,i < nx→H1 i=H i:=fun i hi=>by rw [← hH,ag (by omega),ag (by omega),ag (by omega)]
 clear hH
 refine oE kb (nx + 1) hfk hfn (by omega) fun S0 hS1 hS2 hsub=>?_
 (have zz:=aI @hS1 @hS2; repeat' (first|apply a_n|refine zO ?_|refine nvY ?_|fail)) <;> (try clear zz)
 refine gn ?_
 refine xq (k1:=.i64) (k2:=.i64) (n:=0) (m:=k) rfl ev0 ev0 (Int.le_refl _) (by omega) (by omega) (by omega) ?_
 refine my ⟨hsub _ (by rw [ag (by omega)]; exact hfk) (by rw [ag (by omega)]; exact hfn),?_⟩
 refine ia ?_
 have hz:(aY (AV.agg [AV.int .i64 0,AV.int .i64 0]) k).length=k * 2:=by simp [aY,AV.cells]
 have hih:=yL (y:=y) (N:=(bn s k).length) (lo:=nx) (kb:=kb) (sb:=sb) (k:=k) (s:=s) hs hk I hp stab rnd k [] 0 [] (ar H1 (nx + 2) (aY (AV.agg [AV.int .i64 0,AV.int .i64 0]) k)) (nx + 3) hk0 (by simp) (by simp) (Nat.zero_le _) (h0 _ (fun i hi=>by rw [ag (by omega)]; exact hfo i hi)) (by rw [ag (by omega)]; exact hfy) (by rw [ag (by omega)]; exact hfn) ⟨_,ah,hz,rfl⟩
 refine aU ev0 (by ((try simp only [bQ,ZA,reduceEqDiff,↓reduceIte,reduceAdd,reduceLeDiff]); (try with_reducible rfl)); rfl) hih ?_
 rintro r H4 nx4 ⟨rfl,f1,-⟩
 (have zz:=and_self; repeat' (first|apply a_n|refine zO ?_|apply xw|refine ak rfl ?_|fail)) <;> (try clear zz)
 rw [List.drop_zero,List.nil_append,show (fun x:Spx=>([]:Spx) ++ x)=id from rfl,List.map_id] at f1
 exact f1
theorem qI {kb sb k:Nat} {s:Spx} {H:Hp} {nx:Nat} (hs:s.length ≤ 8) (hk0:0 < k) (hk:k ≤ 1000) (gk:H kb=some [.int .i64 k]) (gs:H sb=some [au s]) (lk:kb < nx) (ls:sb < nx) :
    Abs.Fn Try.prog 116 [.esl,.func 117 [.ptr kb 1 0,.ptr sb 1 0]] H nx fun r H' nx'=>Row H' 1 r ((bn s k).map au)∧nx ≤ nx'∧∀ b',bH r=some b'→nx ≤ b'∧b' < nx':=by
 refine Abs.Fn.of_c2 follows zI (Nat.le_of_ble_eq_true rfl) ?_
 simp only [zg,cO,cG,cN,cM,cD,cF,cB,aB,aQ]
 (have zz:=and_self; repeat' (first|refine zW ?_|apply a_n|refine zO ?_|refine vY ?_|refine bxY ?_|fail)) <;> (try clear zz)
 refine jT (nx + 1) (nx + 2) rfl rfl ev0 (fun c0 cj hy=>?_)
 refine Abs.Fn.mono (va (nx:=nx + 2) (kb:=kb) (sb:=sb) (k:=k) (s:=s) (by omega) hk0 hk (fun S H' nx'=>nx + 5 ≤ nx'∧H' kb=some [.int .i64 k]∧H' sb=some [au s]∧H' (nx + 1)=some [c0]∧∃ sv,H' nx=some [sv]∧Row H' 1 sv (S.map au)∧∀ b',bH sv=some b'→nx + 5 ≤ b'∧b' < nx') ?_ ?_ ?_ ?_ ?_ ?_) ?_
 ·rintro S H' nx' ⟨h1,h2,h3,h4,h5⟩
  exact ⟨h2,h3,by omega,by omega,by omega⟩
 ·rintro S H1 H2 a c ⟨h1,h2,h3,h4,sv,h5,h6,h7⟩ hac hs'
  refine ⟨by omega,(hs' _ (by omega) (by omega)).trans h2,(hs' _ (by omega) (by omega)).trans h3,(hs' _ (by omega) (by omega)).trans h4,sv,(hs' _ (by omega) (by omega)).trans h5,h6.same (fun b' hb'=>hs' _ (h7 b' hb').2 (by have:=h7 b' hb'; omega)),fun b' hb'=>⟨(h7 b' hb').1,by have:=h7 b' hb'; omega⟩⟩
 ·rintro S f H' nx' ⟨h1,h2,h3,h4,sv,h5,h6,h7⟩ hfl hf0 hSN
  have h4':ar H' nx' (cX f) (nx + 1)=some [c0]:=by rw [ag (by omega)]; exact h4
  refine hy _ _ _ _ h4' rfl ?_
  clear hy
  (have zz:=and_self; repeat' (first|apply a_n|refine zO ?_|refine vZ ?_|fail)) <;> (try clear zz)
  refine ⟨h4',?_⟩
  have hS70:=Nat.lt_of_lt_of_le hSN (iZ (k:=k) hs)
  have hd:bO (ar H' nx' (cX f)) (nx + 1) nx'=some (cX f):=by rw [bU (by omega),ah]
  have hdo:∀ x,x < nx'→x ≠ nx + 1→bO (ar H' nx' (cX f)) (nx + 1) x=H' x:=fun x a b=>by rw [bU b,ag (by omega)]
  generalize bO (ar H' nx' (cX f)) (nx + 1)=H1 at *
  refine fQ ?_
  refine sX (only nx' (cX f)) (bO H1 nx') [(2,.ptr nx 1 0),(5,au f)] (Fz.one hd) ⟨.inl rfl,.inr (wo (s:=.msl nx' (k * 2) 2 0 k) (by rw [← hfl]; exact Row.box nx' f.length (cX f) gX (dP f))),trivial⟩ ?_
  have he:∀ x,x < nx'→x ≠ nx + 1→bO H1 nx' x=H' x:=fun x a b=>by rw [bU (by omega)]; exact hdo x a b
  have g5:bO H1 nx' nx=some [sv]:=(he nx (by omega) (by omega)).trans h5
  clear hd hdo
  generalize bO H1 nx'=H2 at *
  (have zz:=aI @g5 (aI @ay @av); repeat' (first|apply a_n|refine zO ?_|refine vY ?_|refine blY ?_|fail)) <;> (try clear zz)
  refine dC rfl ev0 (h6.same fun b' hb'=>?_) ev0 bF rfl rfl Nat.one_pos (by rw [List.length_map]; omega) (by rw [List.length_map]; omega) ?_
  ·have:=h7 b' hb'
   rw [ag (by omega)]; exact he _ (by omega) (by omega)
  rintro sv' H3 nx3 r1 r2 r3 r4 r5
  have zs:∀ x,x < nx + 5→bH sv ≠ some x:=fun x hx e=>by have:=h7 x e; omega
  have z:∀ x,x < nx'→x ≠ nx + 1→bH sv ≠ some x→H3 x=H' x:=fun x a1 a2 a3=>(r4 x (by omega) a3).trans (by rw [ag (by omega)]; exact he x a1 a2)
  have g6:H3 nx=some [sv]:=(z nx (by omega) (by omega) (zs _ (by omega))).trans h5
  obtain ⟨q1,q2⟩:=r1.one
  (have zz:=aI @g6 (aI @q1 @q2); repeat' (first|apply a_n|refine zO ?_|refine stY ?_|fail)) <;> (try clear zz)
  have w:∀ x,x ≠ nx→x ≠ nx + 1→ar (ar H3 nx (bl [sv] 0 [sv'])) (nx + 1) [c0] x=H3 x:=fun x a1 a2=>by rw [ag a2,ag a1]
  have u7:∀ b',bH sv'=some b'→nx + 5 ≤ b'∧b' < nx3:=fun b' hb'=>by
   rcases r5 b' hb' with e | ⟨e1,e2⟩
   ·have:=h7 b' e; omega
   ·omega
  refine ⟨rfl,⟨by omega,?_,?_,ah,sv',?_,?_,u7⟩,by omega,fun x x1 x2=>?_⟩
  ·rw [w _ (by omega) (by omega),z _ (by omega) (by omega) (zs _ (by omega)),h2]
  ·rw [w _ (by omega) (by omega),z _ (by omega) (by omega) (zs _ (by omega)),h3]
  ·rw [ag (by omega),ah]; rfl
  ·rw [List.map_append]
   exact r1.same (fun b' hb'=>w b' (by have:=u7 b' hb'; omega) (by have:=u7 b' hb'; omega))
  ·rw [w _ (by omega) (by omega),z _ (by omega) (by omega) (zs _ (by omega))]
 ·rw [ag (by omega),ag (by omega)]; exact gk
 ·omega
 ·intro H' hH'
  refine ⟨by omega,?_,?_,?_,.esl,?_,.nil,fun b' hb'=>(by cases hb')⟩
  ·rw [hH' _ (by omega),ag (by omega),ag (by omega),gk]
  ·rw [hH' _ (by omega),ag (by omega),ag (by omega),gs]
  ·rw [hH' _ (by omega),ah]
  ·rw [hH' _ (by omega),ag (by omega),ah]
 ·rintro r H' nx' ⟨h1,h2,h3,h4,sv,h5,h6,h7⟩
  refine .inl ⟨h4,?_⟩
  (have zz:=@h5; repeat' (first|refine zW ?_|apply a_n|refine zO ?_|refine vY ?_|refine ak rfl ?_|refine r1Y ?_|fail)) <;> (try clear zz)
  exact ⟨h6.same (fun b' hb'=>bU (by have:=h7 b' hb'; omega)),by omega,fun b' hb'=>by have:=h7 b' hb'; omega⟩
end Go.Proofs.Ytfcenbapjhecfaa
namespace Go.Proofs.Ytfcenbapjhecfaa
open Go Go.Abs
end Go.Proofs.Ytfcenbapjhecfaa
namespace Go.Proofs.Ytfcenbapjhecfaa
open Go Go.Abs
attribute [local irreducible] aD aj aX aP aG aL az aM aR bd Go.Abs.Fn aO Go.Abs.Pure aw aF Yl
end Go.Proofs.Ytfcenbapjhecfaa
namespace Go.Proofs.Ytfcenbapjhecfaa
open Go Go.Abs
def lH (s:Spx) (k:Int):List Spx × Int:=if bg s ≠ 0 then ([],bg s) else if k < 1 ∨ (s.length:Int) < k then ([],2) else (bn s k.toNat,0)
theorem bX {H:Hp} {s:AV} {l:List Spx} {e f:Int} (h:Snap H s (aq l)) (he:e=f):Snap H (.tup [s,.int .i64 e]) (.tup [aq l,.int .i64 f]):=by
 subst he; exact d7 (an h (an (.int _ _) aa))
attribute [local irreducible] aD aj aX aP aG aL az aM aR bd Go.Abs.Fn aO Go.Abs.Pure aw aF Yl
theorem vt (s:Spx) (k:Nat) (H:Hp) (nx:Nat):Abs.Fn Try.prog 110 [au s,.int .i64 k] H nx fun r H' nx'=>r=.func 117 [.ptr (nx + 1) 1 0,.ptr nx 1 0]∧H'=ar (ar H nx [au s]) (nx + 1) [.int .i64 k]∧nx'=nx + 2:=by
 refine Abs.Fn.of_c2 follows zj (Nat.le_of_ble_eq_true rfl) ?_
 simp only [yT,cO,cG,cN,cM,cD,cF,cB,aB,aQ]
 (have zz:=aI @ay @av; repeat' (first|refine zW ?_|apply a_n|refine zO ?_|refine vY ?_|refine bxY ?_|refine ak rfl ?_|refine r1Y ?_|fail)) <;> (try clear zz)
 exact ⟨rfl,rfl,rfl⟩
theorem ui {kb sb k:Nat} {s:Spx} {H:Hp} {nx:Nat} (hs:s.length ≤ 8) (hk0:0 < k) (hk:k ≤ 1000) (gk:H kb=some [.int .i64 k]) (gs:H sb=some [au s]) (lk:kb < nx) (ls:sb < nx) :
    Abs.Fn Try.prog 109 [.func 117 [.ptr kb 1 0,.ptr sb 1 0]] H nx fun r H' nx'=>Row H' 1 r ((bn s k).map au)∧nx ≤ nx':=by
 refine Abs.Fn.of_c2 follows y7 (Nat.le_of_ble_eq_true rfl) ?_
 simp only [zE,cO,cG,cN,cM,cD,cF,cB,aB,aQ]
 (have zz:=and_self; repeat' (first|refine zW ?_|apply a_n|refine zO ?_|refine vY ?_|fail)) <;> (try clear zz)
 refine aU ev0 ev0 (qI hs hk0 hk gk gs lk ls) ?_
 rintro r H1 nx1 ⟨r1,r2,r3⟩
 obtain ⟨q1,q2⟩:=r1.one
 (have zz:=aI @q1 @q2; repeat' (first|apply a_n|refine zO ?_|refine vY ?_|refine ak rfl ?_|refine r1Y ?_|fail)) <;> (try clear zz)
 exact ⟨r1,r2⟩
theorem uV (s:Spx) (k:Int) (hs:Shn s):Pure Try.prog 95 [au s,.int .i64 k] (.tup [aq (lH s k).1,.int .i64 (lH s k).2]):=by
 refine Pure.of_c2 follows Bd (Nat.le_of_ble_eq_true rfl) ?_
 simp only [b95,cO,cG,cN,cM,cD,cF,cB,aB,aQ]
 have hc:=jt s hs
 unfold lH
 by_cases he:bg s=0
 rotate_left
 ·rw [if_pos he]
  have z:decide (bg s ≠ 0)=true:=decide_eq_true he
  (have zz:=@z; repeat' (first|refine zW ?_|apply a_n|apply a_r|refine zO ?_|refine vY ?_|refine cY ?_ (hp:=hc) (hs:=by (first | refine ab ?_ rfl | apply ae); (repeat' (first | exact aa | apply am | apply af | exact ax _)); first | done | fail)|refine cTY ?_|refine ak rfl ?_|refine r2Y ?_|fail)) <;> (try clear zz)
  exact bX (.eslsl _) rfl
 rw [if_neg (fun h=>h he)]
 rw [he] at hc
 obtain ⟨p1,p2,p3,p4⟩:=cr he
 have z0:decide ((0:Int) ≠ 0)=false:=rfl
 by_cases hk:k < 1 ∨ (s.length:Int) < k
 ·rw [if_pos hk]
  (have zz:=aI @z0 @ap; repeat' (first|refine zW ?_|apply a_n|apply a_r|refine zO ?_|refine vY ?_|refine cY ?_ (hp:=hc) (hs:=by (first | refine ab ?_ rfl | apply ae); (repeat' (first | exact aa | apply am | apply af | exact ax _)); first | done | fail)|refine gTY ?_|refine gFY ?_|refine cTY ?_|refine cFY ?_|(refine zGY ?_ ?_ <;> (intro _hg; try (exfalso; omega)))|refine ak rfl ?_|refine r2Y ?_|fail)) <;> (try clear zz)
  all_goals first | exact bX (.eslsl _) rfl | (exfalso; omega)
 rw [if_neg hk]
 obtain ⟨n,rfl⟩:∃ n:Nat,k=n:=⟨k.toNat,by omega⟩
 rw [Int.toNat_natCast]
 (have zz:=aI @z0 @ap; repeat' (first|refine zW ?_|apply a_n|refine zO ?_|refine vY ?_|refine cY ?_ (hp:=hc) (hs:=by (first | refine ab ?_ rfl | apply ae); (repeat' (first | exact aa | apply am | apply af | exact ax _)); first | done | fail)|refine gTY ?_|refine cFY ?_|(refine zGY ?_ ?_ <;> (intro _hg; try (exfalso; omega)))|fail)) <;> (try clear zz)
 refine aU ev0 ev0 (vt s n _ _) ?_
 rintro _ H1 nx1 ⟨rfl,rfl,rfl⟩
 refine aU ev0 ev0 (ui (kb:=0 + 1) (sb:=0) (k:=n) (s:=s) p2 (by omega) (by omega) ah (by rw [ag (by omega),ah]) (by omega) (by omega)) ?_
 rintro r H2 nx2 ⟨r1,r2⟩
 obtain ⟨q1,q2⟩:=r1.one
 (have zz:=aI @q1 @q2; repeat' (first|apply a_n|refine zO ?_|refine vY ?_|refine ak rfl ?_|refine r2Y ?_|fail)) <;> (try clear zz)
 exact bX (ey r1) rfl
end Go.Proofs.Ytfcenbapjhecfaa
namespace Go.Proofs.Ytfcenbapjhecfaa
open Go Go.Abs
def oD (l:List Spx) (v:Spx) (k:Nat):List Spx:=if (l.take k).any (fun y=>decide (aK v y < 0))=true then fP aK (l.take k) v else l.take k
theorem uc {l:List Spx} {v:Spx} {k:Nat} (hk:k < l.length):oD l v (k + 1)=(if (l.take k).any (fun y=>decide (aK v y < 0))=false∧aK v (l.getD k default) < 0 then oD l v k ++ [v] else oD l v k) ++ [l.getD k default]∧(l.take (k + 1)).any (fun y=>decide (aK v y < 0))=((l.take k).any (fun y=>decide (aK v y < 0)) || decide (aK v (l.getD k default) < 0)):=by
 unfold oD
 rw [b6 hk,vP]
 refine ⟨?_,rfl⟩
 by_cases hv:aK v (l.getD k default) < 0
 ·rw [decide_eq_true hv,Bool.or_true,if_pos rfl]
  cases ha:(l.take k).any fun y=>decide (aK v y < 0)
  ·rw [if_pos ⟨rfl,hv⟩,if_neg (by decide),t5 ha hv]
  ·rw [if_neg (fun h=>by cases h.1),if_pos rfl,qh ha]
 ·rw [decide_eq_false hv,Bool.or_false]
  cases ha:(l.take k).any fun y=>decide (aK v y < 0)
  ·simp
   simpa using hv
  ·simp [hv,qh ha]
theorem uW {l:List Spx} {v:Spx} {k:Nat}:(oD l v k).length ≤ l.length + 1:=by
 unfold oD
 split
 ·rw [qp,List.length_take]; omega
 ·rw [List.length_take]; omega
attribute [local irreducible] aD aj aX aP aG aL az aM aR bd Go.Abs.Fn aO Go.Abs.Pure aw aF Yl
theorem wH (l:List Spx) (v:Spx) (hl:l.length ≤ 1000000) (hs:∀ s ∈ l,Shn s) (hv:Shn v):Pure Try.prog 67 [aq l,au v] (aq (gg aK l v)):=by
 refine Pure.of_c2 follows Bc (Nat.le_of_ble_eq_true rfl) ?_
 simp only [b67,cO,cG,cN,cM,cD,cF,cB,aB,aQ]
 (have zz:=@ac; repeat' (first|refine zW ?_|apply a_n|refine zO ?_|refine vY ?_|fail)) <;> (try clear zz)
 refine bb (X:=Nat × AV) (fun x=>[(0,aq l),(1,au v),(5,x.2),(6,.bool ((l.take x.1).any fun y=>decide (aK v y < 0))),(7,.int .i64 x.1)]) (fun x H nx=>x.1 ≤ l.length∧Row H 1 x.2 ((oD l v x.1).map au)∧(∀ b,bH x.2=some b→b < nx)∧∀ i,i < x.1→l.getD i default ≠ v) (fun x=>l.length - x.1) (0,.esl) ⟨Nat.zero_le _,Row.nil,fun b h=>(by cases h),fun i h=>absurd h (by omega)⟩ (by (iterate 5 refine And.intro rfl ?_); trivial) ?_
 rintro ⟨k,sv⟩ H nx ⟨hk,hrow,hbd,hne⟩
 dsimp only at hk hrow hbd hne ⊢
 by_cases hk2:k < l.length
 rotate_left
 ·obtain rfl:k=l.length:=by omega
  unfold oD at hrow
  rw [List.take_length] at hrow ⊢
  have hnm:v ∉ l:=fun hm=>by
   obtain ⟨i,hi,e⟩:=List.getElem_of_mem hm
   exact hne i hi (by simp [List.getD,hi,e])
  unfold gg
  rw [if_neg hnm]
  cases ha:l.any fun y=>decide (aK v y < 0)
  ·rw [ha,if_neg (by decide)] at hrow
   (have zz:=aI @ac (aI @ay @av); repeat' (first|refine zW ?_|apply a_n|apply a_x|refine zO ?_|refine vY ?_|refine blY ?_|refine cTY ?_|(refine zGY ?_ ?_ <;> (intro _hg; try (exfalso; omega)))|fail)) <;> (try clear zz)
   refine dC rfl ev0 (hrow.same fun b hb=>?_) ev0 bF rfl rfl (by omega) (by simp; omega) (by simp; omega) ?_
   ·have:=hbd b hb; rw [ag (by omega)]
   rintro s2 H2 nx2 hr2 _ _ _ _
   obtain ⟨o1,o2⟩:=hr2.one
   (have zz:=aI @o1 @o2; repeat' (first|refine zW ?_|apply a_n|refine zO ?_|refine vY ?_|refine ak rfl ?_|refine r1Y ?_|fail)) <;> (try clear zz)
   rw [tJ ha]
   refine ey ?_
   rw [List.map_append]; exact hr2
  ·rw [ha,if_pos rfl] at hrow
   obtain ⟨o1,o2⟩:=hrow.one
   (have zz:=aI @ac (aI @o1 @o2); repeat' (first|refine zW ?_|apply a_n|apply a_x|refine zO ?_|refine vY ?_|refine cFY ?_|(refine zGY ?_ ?_ <;> (intro _hg; try (exfalso; omega)))|refine ak rfl ?_|refine r1Y ?_|fail)) <;> (try clear zz)
   exact ey hrow
 have ix:=cT hk2
 have hc:=fV v (l.getD k default) hv (hs _ (aH hk2))
 have hz:=@nZ v (l.getD k default)
 obtain ⟨e1,e2⟩:=uc (v:=v) hk2
 have hl1:((oD l v k).map au).length ≤ 1000001:=by rw [List.length_map]; have:=uW (l:=l) (v:=v) (k:=k); omega
 have hmem:l.getD k default ∈ l:=aH hk2
 by_cases h0:aK v (l.getD k default)=0
 ·have e:=hz.1 h0
  have hp:gg aK l v=l:=by unfold gg; rw [if_pos (by rw [e]; exact hmem)]
  rw [hp]
  rw [h0] at hc
  have z0:decide ((0:Int)=0)=true:=rfl
  generalize l.getD k default=w at *
  (have zz:=aI @ac (aI @ix (aI @z0 (aI @ay @av))); repeat' (first|refine zW ?_|apply a_n|apply a_r|refine zO ?_|refine vY ?_|refine cY ?_ (hp:=hc) (hs:=by (first | refine ab ?_ rfl | apply ae); (repeat' (first | exact aa | apply am | apply af | exact ax _)); first | done | fail)|(refine zGY ?_ ?_ <;> (intro _hg; try (exfalso; omega)))|refine ak rfl ?_|refine r1Y ?_|fail)) <;> (try clear zz)
  exact aA _ _
 have hnew:∀ i,i < k + 1→l.getD i default ≠ v:=fun i hi=>by
  rcases Nat.lt_succ_iff_lt_or_eq.1 hi with h' | rfl
  ·exact hne i h'
  ·exact fun e=>h0 (hz.2 e.symm)
 have z0:decide (aK v (l.getD k default)=0)=false:=decide_eq_false h0
 by_cases hd:(l.take k).any (fun y=>decide (aK v y < 0))=false∧aK v (l.getD k default) < 0
 ·rw [if_pos hd] at e1
  rw [hd.1,decide_eq_true hd.2,Bool.false_or] at e2
  obtain ⟨d1,d2⟩:=hd
  rw [d1]
  have z:decide (aK v (l.getD k default) < 0)=true:=decide_eq_true d2
  generalize aK v (l.getD k default)=cv at *
  generalize l.getD k default=w at *
  (have zz:=aI @ac (aI @ix (aI @z (aI @z0 (aI @ay @av)))); repeat' (first|refine zW ?_|apply a_n|refine zO ?_|refine vY ?_|refine cY ?_ (hp:=hc) (hs:=by (first | refine ab ?_ rfl | apply ae); (repeat' (first | exact aa | apply am | apply af | exact ax _)); first | done | fail)|refine blY ?_|refine gTY ?_|refine cTY ?_|refine cFY ?_|(refine zGY ?_ ?_ <;> (intro _hg; try (exfalso; omega)))|fail)) <;> (try clear zz)
  refine dC rfl ev0 (hrow.same fun b hb=>?_) ev0 bF rfl rfl (by omega) (by omega) (by omega) ?_
  ·have:=hbd b hb; rw [ag (by omega)]
  rintro s1 H1 nx1 hr1 j1 j2 j3 j4
  have hb1:∀ b,bH s1=some b→b < nx1:=fun b hb=>by
   rcases j4 b hb with h | h
   ·have:=hbd b h; omega
   ·omega
  obtain ⟨o1,o2⟩:=hr1.one
  (have zz:=aI @ix (aI @o1 (aI @o2 (aI @ay @av))); repeat' (first|apply a_n|refine zO ?_|refine vY ?_|refine blY ?_|fail)) <;> (try clear zz)
  refine dC rfl ev0 (hr1.same fun b hb=>?_) ev0 bF rfl rfl (by omega) (by simp at hl1 ⊢; omega) (by simp at hl1 ⊢; omega) ?_
  ·have:=hb1 b hb; rw [ag (by omega)]
  rintro s2 H2 nx2 hr2 i1 i2 i3 i4
  (have zz:=@e2; repeat' (first|apply a_n|refine zO ?_|refine vY ?_|fail)) <;> (try clear zz)
  refine ⟨(k + 1,s2),by dsimp only; omega,⟨by dsimp only; omega,?_,fun b hb=>?_,hnew⟩,(have zz:=@e2; agZ)⟩
  ·dsimp only
   rw [e1,List.map_append,List.map_append]; exact hr2
  ·rcases i4 b hb with h | h
   ·have:=hb1 b h; omega
   ·omega
 rw [if_neg hd] at e1
 cases ha:(l.take k).any fun y=>decide (aK v y < 0)
 ·have d2:¬ aK v (l.getD k default) < 0:=fun h=>hd ⟨ha,h⟩
  rw [ha,decide_eq_false d2,Bool.false_or] at e2
  have z:decide (aK v (l.getD k default) < 0)=false:=decide_eq_false d2
  generalize aK v (l.getD k default)=cv at *
  generalize l.getD k default=w at *
  (have zz:=aI @ac (aI @ix (aI @z (aI @z0 (aI @ay @av)))); repeat' (first|refine zW ?_|apply a_n|refine zO ?_|refine vY ?_|refine cY ?_ (hp:=hc) (hs:=by (first | refine ab ?_ rfl | apply ae); (repeat' (first | exact aa | apply am | apply af | exact ax _)); first | done | fail)|refine blY ?_|refine gTY ?_|refine cFY ?_|(refine zGY ?_ ?_ <;> (intro _hg; try (exfalso; omega)))|fail)) <;> (try clear zz)
  refine dC rfl ev0 (hrow.same fun b hb=>?_) ev0 bF rfl rfl (by omega) (by omega) (by omega) ?_
  ·have:=hbd b hb; rw [ag (by omega)]
  rintro s2 H2 nx2 hr2 i1 i2 i3 i4
  (have zz:=@e2; repeat' (first|apply a_n|refine zO ?_|refine vY ?_|fail)) <;> (try clear zz)
  refine ⟨(k + 1,s2),by dsimp only; omega,⟨by dsimp only; omega,?_,fun b hb=>?_,hnew⟩,(have zz:=@e2; agZ)⟩
  ·dsimp only
   rw [e1,List.map_append]; exact hr2
  ·rcases i4 b hb with h | h
   ·have:=hbd b h; omega
   ·omega
 ·rw [ha,Bool.true_or] at e2
  generalize aK v (l.getD k default)=cv at *
  generalize l.getD k default=w at *
  (have zz:=aI @ac (aI @ix (aI @z0 (aI @ay @av))); repeat' (first|refine zW ?_|apply a_n|refine zO ?_|refine vY ?_|refine cY ?_ (hp:=hc) (hs:=by (first | refine ab ?_ rfl | apply ae); (repeat' (first | exact aa | apply am | apply af | exact ax _)); first | done | fail)|refine blY ?_|refine gFY ?_|refine cFY ?_|(refine zGY ?_ ?_ <;> (intro _hg; try (exfalso; omega)))|fail)) <;> (try clear zz)
  refine dC rfl ev0 (hrow.same fun b hb=>?_) ev0 bF rfl rfl (by omega) (by omega) (by omega) ?_
  ·have:=hbd b hb; rw [ag (by omega)]
  rintro s2 H2 nx2 hr2 i1 i2 i3 i4
  (have zz:=@e2; repeat' (first|apply a_n|refine zO ?_|refine vY ?_|fail)) <;> (try clear zz)
  refine ⟨(k + 1,s2),by dsimp only; omega,⟨by dsimp only; omega,?_,fun b hb=>?_,hnew⟩,(have zz:=@e2; agZ)⟩
  ·dsimp only
   rw [e1,List.map_append]; exact hr2
  ·rcases i4 b hb with h | h
   ·have:=hbd b h; omega
   ·omega
end Go.Proofs.Ytfcenbapjhecfaa
namespace Go.Proofs.Ytfcenbapjhecfaa
open Go Go.Abs
attribute [local irreducible] aD aj aX aP aG aL az aM aR bd Go.Abs.Fn aO Go.Abs.Pure aw aF Yl
end Go.Proofs.Ytfcenbapjhecfaa
namespace Go.Proofs.Ytfcenbapjhecfaa
open Go Go.Abs
theorem kw {H:Hp} {t x x':AV} {cs c:List AV} {nb:Nat} (hrow:Row H 1 t (cs ++ [x])) (hx:H nb=some c) (hs:Snap (only nb c) x x') (hne:bH t ≠ some nb):∃ H',Fz (only nb c) H H'∧Row H' 1 t (cs ++ [x'])∧∀ y,y ≠ nb→bH t ≠ some y→H' y=H y:=by
 generalize hcs:cs ++ [x]=ds at hrow
 cases hrow with
 | nil=>exact absurd (congrArg List.length hcs) (by simp)
 | box b len ds g1 g2 =>
  have hb:b ≠ nb:=fun e=>hne (by rw [e]; rfl)
  refine ⟨ar (bO H nb) b (cs ++ [x']),⟨fun y d h=>?_,fun y d h=>?_⟩,Row.box b len _ ah (by rw [← g2,← hcs]; simp),fun y h1 h2=>?_⟩
  ·unfold only at h
   split at h
   ·rename_i e; rw [e,hx]; exact h
   ·cases h
  ·by_cases e:y=b
   ·subst e
    rw [ah] at h; cases h
    exact ⟨ds,g1,if_neg hb,by rw [← hcs]; exact dF.snoc hs⟩
   ·rw [ag e] at h
    by_cases e2:y=nb
    ·rw [e2] at h; exact absurd h (by simp [bO])
    ·rw [bU e2] at h
     exact ⟨d,h,if_neg e2,dF.refl _ _⟩
  ·rw [ag (fun e=>h2 (by rw [e]; rfl)),bU h1]
theorem mh {l:Spx} {k:Nat} (h:k ≤ l.length):ir 2 (au l) (some (.int .i64 k)) none none=some (au (l.drop k)):=fI h
attribute [local irreducible] aD aj aX aP aG aL az aM aR bd Go.Abs.Fn aO Go.Abs.Pure aw aF Yl
theorem rh:∀ (k:Nat) (s:Spx),k ≤ 1000→s.length ≤ 8→Pure Try.prog 66 [au s,.int .i64 k] (aq (bn s k)):=by
 intro k
 induction k with
 | zero =>
  intro s hkk hs
  refine Pure.of_c2 follows z8 (Nat.le_of_ble_eq_true rfl) ?_
  simp only [b66,cO,cG,cN,cM,cD,cF,cB,aB,aQ]
  rw [iB]
  have z:decide (((0:Nat):Int)=0)=true:=rfl
  (have zz:=@z; repeat' (first|refine zW ?_|apply a_n|apply a_r|refine zO ?_|refine vY ?_|refine blY ?_|refine cTY ?_|refine ak rfl ?_|refine r1Y ?_|fail)) <;> (try clear zz)
  refine gq (l:=[au []]) ah rfl (by simp) rfl (fun y hy=>?_) (fun i a c ha hc=>?_)
  ·simp at hy; subst hy; rfl
  ·match i with
   | 0=>simp at ha hc; subst ha hc; exact .eslsl 2
 | succ k ih =>
  intro s hkk hs
  refine Pure.of_c2 follows z8 (Nat.le_of_ble_eq_true rfl) ?_
  simp only [b66,cO,cG,cN,cM,cD,cF,cB,aB,aQ]
  have z:decide (((k + 1:Nat):Int)=0)=false:=decide_eq_false (by omega)
  have htot:=iZ (l:=s) (k:=k + 1) hs
  (have zz:=@z; repeat' (first|refine zW ?_|apply a_n|refine zO ?_|refine vY ?_|refine cFY ?_|fail)) <;> (try clear zz)
  refine bb (X:=Nat × AV × List Spx) (fun x=>[(0,au s),(1,.int .i64 ((k + 1:Nat):Int)),(5,x.2.1),(6,.int .i64 x.1)]) (fun x H nx=>x.1 ≤ s.length∧Row H 1 x.2.1 (x.2.2.map au)∧(∀ b,bH x.2.1=some b→b < nx)∧x.2.2 ++ bn (s.drop x.1) (k + 1)=bn s (k + 1)) (fun x=>s.length - x.1) (0,.esl,[]) ⟨Nat.zero_le _,Row.nil,fun b h=>(by cases h),rfl⟩ (by (iterate 4 refine And.intro rfl ?_); trivial) ?_
  rintro ⟨i,sv,D⟩ H nx ⟨h1,hrow,hbd,hD⟩
  dsimp only at h1 hrow hbd hD ⊢
  by_cases hi:i + (k + 1) ≤ s.length
  rotate_left
  ·have z2:decide ((i:Int) + ((k + 1:Nat):Int) ≤ s.length)=false:=decide_eq_false (by omega)
   obtain ⟨o1,o2⟩:=hrow.one
   (have zz:=aI @ap (aI @z2 (aI @o1 @o2)); repeat' (first|refine zW ?_|apply a_n|apply a_x|refine zO ?_|refine vY ?_|refine cFY ?_|refine ak rfl ?_|refine r1Y ?_|fail)) <;> (try clear zz)
   rw [fR (by rw [List.length_drop]; omega),List.append_nil] at hD
   rw [← hD]
   exact ey hrow
  have z2:decide ((i:Int) + ((k + 1:Nat):Int) ≤ s.length)=true:=decide_eq_true (by omega)
  have hi2:i < s.length:=by omega
  have tk:((k + 1:Nat):Int) - 1=(k:Nat):=by omega
  have ti:(i:Int) + 1=(i + 1:Nat):=by omega
  have hsl:=mh (l:=s) (k:=i + 1) (by omega)
  have hcall:=ih (s.drop (i + 1)) (by omega) (by rw [List.length_drop]; omega)
  have hR:=iZ (l:=s.drop (i + 1)) (k:=k) (by rw [List.length_drop]; omega)
  have hRl:∀ f ∈ bn (s.drop (i + 1)) k,f.length ≤ 8:=fun f hf=>by
   have:=(cE.1 hf).1.length_le
   rw [List.length_drop] at this; omega
  have ix:=ix2 hi2
  have hDD:D ++ (bn (s.drop (i + 1)) k).map (s.getD i default :: ·) ++ bn (s.drop (i + 1)) (k + 1)=bn s (k + 1):=by rw [← hD,nA hi2,List.append_assoc]
  have hDl:D.length + (bn (s.drop (i + 1)) k).length ≤ 70:=by
   have:=congrArg List.length hDD
   rw [List.length_append,List.length_append,List.length_map] at this
   omega
  clear hD htot
  generalize bn (s.drop (i + 1)) k=R at *
  generalize s.getD i default=v at *
  obtain ⟨o1,o2⟩:=hrow.one
  (have zz:=aI @ap (aI @ac (aI @z2 (aI @tk (aI @ti (aI @hsl (aI @o1 @o2)))))); repeat' (first|refine zW ?_|apply a_n|refine zO ?_|refine vY ?_|refine cY ?_ (hp:=hcall) (hs:=by (first | refine ab ?_ rfl | apply ae); (repeat' (first | exact aa | apply am | apply af | exact ax _)); first | done | fail)|refine cTY ?_|fail)) <;> (try clear zz)
  refine vJ (X:=Nat × AV) (fun x=>[(0,au s),(1,.int .i64 ((k + 1:Nat):Int)),(5,x.2),(6,.int .i64 i),(7,aq R),(8,.int .i64 x.1)]) (fun x H nx=>x.1 ≤ R.length∧Row H 1 x.2 ((D ++ (R.take x.1).map (v :: ·)).map au)∧∀ b,bH x.2=some b→b < nx) (fun x=>R.length - x.1) (0,sv) ⟨be,_,Fz.none,⟨Nat.zero_le _,by rw [List.take_zero,List.map_nil,List.append_nil]; exact hrow,hbd⟩,gM ag0⟩ ?_
  clear hrow hbd o1 o2
  rintro ⟨j,sv⟩ H1 nx1 ⟨j1,hrow,hbd⟩
  dsimp only at j1 hrow hbd ⊢
  obtain ⟨o1,o2⟩:=hrow.one
  by_cases hj:j < R.length
  rotate_left
  ·rw [List.take_of_length_le (by omega)] at hrow
   (have zz:=aI @ac (aI @o1 @o2); repeat' (first|refine zW ?_|apply a_n|apply a_x|refine zO ?_|refine vY ?_|(refine zGY ?_ ?_ <;> (intro _hg; try (exfalso; omega)))|fail)) <;> (try clear zz)
   exact ⟨(i + 1,sv,D ++ R.map (v :: ·)),by dsimp only; omega,⟨by dsimp only; omega,hrow,hbd,hDD⟩,ag0⟩
  have iy:=cT hj
  have hfl:=hRl _ (aH hj)
  have e1:(D ++ (R.take (j + 1)).map (v :: ·)).map au=(D ++ (R.take j).map (v :: ·)).map au ++ [au (v :: R.getD j default)]:=by
   simp only [b6 hj,List.map_append,List.append_assoc,List.map_cons,List.map_nil]
  have hln:((D ++ (R.take j).map (v :: ·)).map au).length ≤ 70:=by simp; omega
  generalize R.getD j default=f at *
  (have zz:=aI @ac (aI @ix (aI @iy (aI @o1 @o2))); repeat' (first|refine zW ?_|apply a_n|refine zO ?_|refine vY ?_|(refine zGY ?_ ?_ <;> (intro _hg; try (exfalso; omega)))|fail)) <;> (try clear zz)
  refine oZ be rfl (fun y cs h=>by cases h) ?_
  (have zz:=aI @ix @iy; repeat' (first|apply a_n|refine zO ?_|refine nvY ?_|fail)) <;> (try clear zz)
  refine gn ?_
  (have zz:=and_self; repeat' (first|apply a_n|refine zO ?_|refine blY ?_|fail)) <;> (try clear zz)
  refine ⟨fun y cs h=>(by cases h),?_⟩
  refine ia ?_
  refine dC (sv:=.msl nx1 2 2 0 1) (cs:=[.int .i64 v.color,.int .i64 v.label]) rfl ev0 (Row.box nx1 1 _ ah rfl) ev0 nN (fH f) (dP f) (by omega) (by simp; omega) (by simp; omega) ?_
  rintro s2 H2 nx2 r1 r2 r3 r4 r5
  obtain ⟨b2,rfl,hb2,hb3⟩:∃ b2,s2=.msl b2 ((f.length + 1) * 2) 2 0 (f.length + 1)∧H2 b2=some (cX (v :: f))∧nx1 ≤ b2∧b2 < nx2:=by
   have hcl:=dP (v :: f)
   have h5:=r5
   have r1':Row H2 2 s2 (cX (v :: f)):=r1
   generalize cX (v :: f)=cs at r1' hcl ⊢
   cases r1' with
   | nil=>simp at hcl
   | box b len cs g1 g2 =>
    obtain rfl:len=f.length + 1:=by rw [hcl] at g2; simp at g2; omega
    refine ⟨b,rfl,g1,?_,?_⟩
    ·rcases h5 b rfl with e | ⟨e,_⟩
     ·cases e; omega
     ·omega
    ·rcases h5 b rfl with e | ⟨e,e2⟩
     ·cases e; omega
     ·omega
  refine my ?_
  refine yY (pv:=[(0,1,.msl b2 ((f.length + 1) * 2) 2 0 (f.length + 1))]) (cs:=[.msl b2 ((f.length + 1) * 2) 2 0 (f.length + 1)]) ev0 rfl (by decide) rfl rfl ?_
  refine ia ?_
  have hold:∀ b,b < nx1→H2 b=H1 b:=fun b hb=>by rw [r4 b (by omega) (fun e=>by cases e; omega),ag (by omega)]
  refine dC rfl ev0 (hrow.same fun b hb=>hold b (hbd b hb)) ev0 (k:=1) (new:=[.msl b2 ((f.length + 1) * 2) 2 0 (f.length + 1)]) (by rw [r9]; rfl) rfl rfl Nat.one_pos (by omega) (by omega) ?_
  rintro s3 H3 nx3 u1 u2 u3 u4 u5
  have hb4:H3 b2=some (cX (v :: f)):=(u4 b2 (by omega) (fun e=>by have:=hbd b2 e; omega)).trans hb2
  obtain ⟨H4,hfz,hr4,hs4⟩:=kw (x':=au (v :: f)) u1 hb4 (wo (Row.box b2 (f.length + 1) _ gX (dP _))) (fun e=>by
   rcases u5 b2 e with h | h
   ·have:=hbd b2 h; omega
   ·omega)
  (have zz:=and_self; repeat' (first|apply a_n|refine zO ?_|refine vY ?_|refine nvY ?_|fail)) <;> (try clear zz)
  refine ⟨(j + 1,s3),by dsimp only; omega,_,H4,hfz,⟨by dsimp only; omega,?_,fun b hb=>?_⟩,gM ag0⟩
  ·dsimp only
   rw [e1]; exact hr4
  ·rcases u5 b hb with h | h
   ·have:=hbd b h; omega
   ·omega
end Go.Proofs.Ytfcenbapjhecfaa
namespace Go.Proofs.Ytfcenbapjhecfaa
open Go Go.Abs
open Nat (reduceEqDiff reduceAdd reduceLeDiff)
def fK (c:List Spx) (k:Nat):List Spx:=gp aK (c.flatMap fun s=>bn s k)
theorem nO {c:List Spx} {k i:Nat} (hi:i < c.length):(c.take (i + 1)).flatMap (fun s=>bn s k)=(c.take i).flatMap (fun s=>bn s k) ++ bn (c.getD i default) k:=by
 rw [b6 hi,List.flatMap_append]; simp
theorem eI {k:Nat}:∀ {c:List Spx},(∀ s ∈ c,s.length ≤ 8)→(c.flatMap fun s=>bn s k).length ≤ 70 * c.length
 | [],_=>by simp
 | s :: c,h=>by
  rw [List.flatMap_cons,List.length_append,List.length_cons]
  have:=iZ (l:=s) (k:=k) (h s List.mem_cons_self)
  have:=eI (k:=k) (c:=c) (fun t ht=>h t (List.mem_cons_of_mem _ ht))
  omega
theorem go {c:List Spx} {k:Nat} {s:Spx}:s ∈ c.flatMap (fun s=>bn s k) ↔ ∃ t ∈ c,s ∈ bn t k:=by rw [List.mem_flatMap]
theorem sM {c:List Spx} {k:Nat} (h:∀ s ∈ c,s.length ≤ 8):∀ s ∈ c.flatMap (fun s=>bn s k),Shn s:=fun s hs=>by
 obtain ⟨t,t1,t2⟩:=go.1 hs
 have:=(cE.1 t2).1.length_le
 have:=h t t1
 show _ ≤ _; omega
def bR (c:List Spx) (k:Int):List Spx × Int:=if a8 c ≠ 0 then ([],a8 c) else if k < 1 ∨ 8 < k then ([],2) else (fK c k.toNat,0)
attribute [local irreducible] aD aj aX aP aG aL az aM aR bd Go.Abs.Fn aO Go.Abs.Pure aw aF Yl
theorem yB (c:List Spx) (k:Nat) (hc:c.length ≤ 50) (hs:∀ s ∈ c,s.length ≤ 8) (hk:k ≤ 1000):Pure Try.prog 34 [d9 c,.int .i64 k] (aq (fK c k)):=by
 refine Pure.of_c2 follows An (Nat.le_of_ble_eq_true rfl) ?_
 simp only [b34,cO,cG,cN,cM,cD,cF,cB,aB,aQ]
 have hfl:=eI (k:=k) hs
 have hfe:=sM (k:=k) hs
 (have zz:=aI @ao @ai; repeat' (first|refine zW ?_|apply a_n|refine zO ?_|refine vZ ?_|refine bxZ ?_|fail)) <;> (try clear zz)
 refine vJ (X:=Nat) (fun i=>[(1,.int .i64 k),(2,.ptr 0 1 0),(5,aq (gp aK ((c.take i).flatMap fun s=>bn s k))),(6,.int .i64 i)]) (fun i H nx=>i ≤ c.length∧H 0=some [aq c]) (fun i=>c.length - i) 0 ⟨be,_,Fz.none,⟨Nat.zero_le _,ah⟩,.inl rfl,.inl rfl,.inr (.eslsl 1),.inl rfl,trivial⟩ ?_
 rintro i H nx ⟨h1,g0⟩
 by_cases hi:i < c.length
 rotate_left
 ·rw [List.take_of_length_le (by omega)]
  (have zz:=aI @ac @g0; repeat' (first|refine zW ?_|apply a_n|apply a_x|refine zO ?_|refine vY ?_|(refine zGY ?_ ?_ <;> (intro _hg; try (exfalso; omega)))|refine ak rfl ?_|refine r1Y ?_|fail)) <;> (try clear zz)
  exact aA _ _
 have ix:=cT hi
 have hft:=nO (k:=k) hi
 have hpre:∀ s ∈ (c.take (i + 1)).flatMap (fun s=>bn s k),Shn s:=sM fun s h=>hs s (List.mem_of_mem_take h)
 have hprl:=eI (k:=k) (c:=c.take (i + 1)) (fun s h=>hs s (List.mem_of_mem_take h))
 rw [hft] at hpre hprl
 rw [List.length_take,List.length_append] at hprl
 have hcall:=rh k (c.getD i default) hk (hs _ (aH hi))
 by_cases hlt:(c.getD i default).length < k
 ·have z:decide (((c.getD i default).length:Int) < k)=true:=decide_eq_true (by omega)
  rw [fR hlt,List.append_nil] at hft
  generalize c.getD i default=s at *
  (have zz:=aI @ac (aI @ap (aI @ix (aI @g0 @z))); repeat' (first|refine zW ?_|apply a_n|apply a_x|refine zO ?_|refine vY ?_|refine cTY ?_|(refine zGY ?_ ?_ <;> (intro _hg; try (exfalso; omega)))|fail)) <;> (try clear zz)
  exact ⟨i + 1,by omega,be,_,Fz.none,⟨by omega,g0⟩,gM (have zz:=@hft; agZ)⟩
 have z:decide (((c.getD i default).length:Int) < k)=false:=decide_eq_false (by omega)
 generalize c.getD i default=s at *
 generalize bn s k=R at *
 generalize (c.take i).flatMap (fun s=>bn s k)=P at *
 (have zz:=aI @ac (aI @ap (aI @ix (aI @g0 @z))); repeat' (first|refine zW ?_|apply a_n|refine zO ?_|refine vY ?_|refine cY ?_ (hp:=hcall) (hs:=by (first | refine ab ?_ rfl | apply ae); (repeat' (first | exact aa | apply am | apply af | exact ax _)); first | done | fail)|refine cFY ?_|(refine zGY ?_ ?_ <;> (intro _hg; try (exfalso; omega)))|fail)) <;> (try clear zz)
 refine bb (X:=Nat) (fun j=>[(1,.int .i64 k),(2,.ptr 0 1 0),(5,aq (gp aK (P ++ R.take j))),(6,.int .i64 i),(7,aq R),(8,.int .i64 j)]) (fun j H nx=>j ≤ R.length∧H 0=some [aq c]) (fun j=>R.length - j) 0 ⟨Nat.zero_le _,g0⟩ (by simp (disch:=omega) only [agr,ZG,reduceEqDiff,↓reduceIte,List.take_zero,List.append_nil]) ?_
 clear g0
 rintro j H nx ⟨j1,g0⟩
 by_cases hj:j < R.length
 rotate_left
 ·rw [List.take_of_length_le (by omega)]
  (have zz:=@ac; repeat' (first|refine zW ?_|apply a_n|apply a_x|refine zO ?_|refine vY ?_|(refine zGY ?_ ?_ <;> (intro _hg; try (exfalso; omega)))|fail)) <;> (try clear zz)
  exact ⟨i + 1,by omega,be,_,Fz.none,⟨by omega,g0⟩,gM (have zz:=@hft; agZ)⟩
 have iy:=cT hj
 have e1:gp aK (P ++ R.take (j + 1))=gg aK (gp aK (P ++ R.take j)) (R.getD j default):=by rw [b6 hj,← List.append_assoc,tF]
 have hput:=wH (gp aK (P ++ R.take j)) (R.getD j default) (Nat.le_trans mo (by rw [List.length_append,List.length_take]; omega)) (fun t ht=>hpre t (by
  have:=gC.1 ht
  rcases List.mem_append.1 this with h | h
  ·exact List.mem_append_left _ h
  ·exact List.mem_append_right _ (List.mem_of_mem_take h))) (hpre _ (List.mem_append_right _ (aH hj)))
 rw [← e1] at hput
 generalize R.getD j default=f at *
 (have zz:=aI @ac @iy; repeat' (first|refine zW ?_|apply a_n|refine zO ?_|refine vY ?_|refine cY ?_ (hp:=hput) (hs:=by (first | refine ab ?_ rfl | apply ae); (repeat' (first | exact aa | apply am | apply af | exact ax _ | exact aA _)); first | done | fail)|(refine zGY ?_ ?_ <;> (intro _hg; try (exfalso; omega)))|fail)) <;> (try clear zz)
 exact ⟨j + 1,by omega,⟨by omega,g0⟩,ag0⟩
theorem jr (c:List Spx) (k:Int) (hc:c.length ≤ 50) (hs:∀ s ∈ c,Shn s):Pure Try.prog 53 [d9 c,.int .i64 k] (.tup [aq (bR c k).1,.int .i64 (bR c k).2]):=by
 refine Pure.of_c2 follows A9 (Nat.le_of_ble_eq_true rfl) ?_
 simp only [b53,cO,cG,cN,cM,cD,cF,cB,aB,aQ]
 have hcc:=sr c (show _ ≤ _ by omega) hs
 unfold bR
 by_cases he:a8 c=0
 rotate_left
 ·rw [if_pos he]
  have z:decide (a8 c ≠ 0)=true:=decide_eq_true he
  (have zz:=aI @ao (aI @ai @z); repeat' (first|refine zW ?_|apply a_n|apply a_r|refine zO ?_|refine vY ?_|refine cY ?_ (hp:=hcc) (hs:=by (first | refine ab ?_ rfl | apply ae); (repeat' (first | exact aa | apply am | apply af | exact bf _)); first | done | fail)|refine bxY ?_|refine cTY ?_|refine ak rfl ?_|refine r2Y ?_|fail)) <;> (try clear zz)
  exact bX (.eslsl _) rfl
 rw [if_neg (fun h=>h he)]
 rw [he] at hcc
 have z0:decide ((0:Int) ≠ 0)=false:=rfl
 obtain ⟨p1,p2,p3,p4⟩:=fG he
 by_cases hk:k < 1 ∨ 8 < k
 ·rw [if_pos hk]
  (have zz:=aI @ao (aI @ai @z0); repeat' (first|refine zW ?_|apply a_n|apply a_r|refine zO ?_|refine vY ?_|refine cY ?_ (hp:=hcc) (hs:=by (first | refine ab ?_ rfl | apply ae); (repeat' (first | exact aa | apply am | apply af | exact bf _)); first | done | fail)|refine bxY ?_|refine gTY ?_|refine gFY ?_|refine cTY ?_|refine cFY ?_|(refine zGY ?_ ?_ <;> (intro _hg; try (exfalso; omega)))|refine ak rfl ?_|refine r2Y ?_|fail)) <;> (try clear zz)
  all_goals first | exact bX (.eslsl _) rfl | (exfalso; omega)
 rw [if_neg hk]
 obtain ⟨n,rfl⟩:∃ n:Nat,k=n:=⟨k.toNat,by omega⟩
 rw [Int.toNat_natCast]
 have h8:∀ s ∈ c,s.length ≤ 8:=fun s h=>(cr (p2 s h)).2.1
 have ha:=yB c n hc h8 (by omega)
 have hl:(fK c n).length ≤ 3500:=Nat.le_trans mo (Nat.le_trans (eI h8) (by omega))
 have z1:decide ((4096:Int) < (fK c n).length)=false:=decide_eq_false (by omega)
 (have zz:=aI @ao (aI @ai (aI @ac (aI @z0 @z1))); repeat' (first|refine zW ?_|apply a_n|refine zO ?_|refine vY ?_|refine cY ?_ (hp:=by first | exact hcc | exact ha) (hs:=by (first | refine ab ?_ rfl | apply ae); (repeat' (first | exact aa | apply am | apply af | exact bf _)); first | done | fail)|refine bxY ?_|refine gTY ?_|refine cFY ?_|(refine zGY ?_ ?_ <;> (intro _hg; try (exfalso; omega)))|refine ak rfl ?_|refine r2Y ?_|fail)) <;> (try clear zz)
 exact bX (aA _).snap rfl
end Go.Proofs.Ytfcenbapjhecfaa
namespace Go.Proofs.Ytfcenbapjhecfaa
open Go Go.Abs
open Nat (reduceEqDiff reduceAdd reduceLeDiff)
def d4:Nat→Spx→List Int
 | 0,_=>[]
 | n + 1,[]=>(-1) :: 0 :: d4 n []
 | n + 1,v :: l=>v.color :: v.label :: d4 n l
theorem jq:∀ {n:Nat} {s:Spx},(d4 n s).length=2 * n
 | 0,_=>rfl
 | n + 1,[]=>by show (d4 n []).length + 1 + 1=_; rw [jq]; omega
 | n + 1,v :: l=>by show (d4 n l).length + 1 + 1=_; rw [jq]; omega
theorem pE:∀ {n:Nat} {s t:Spx},s.length ≤ n→t.length ≤ n→(∀ v ∈ s,0 ≤ v.color)→(∀ v ∈ t,0 ≤ v.color)→d4 n s=d4 n t→s=t
 | 0,[],[],_,_,_,_,_=>rfl
 | 0,_ :: _,_,h,_,_,_,_=>absurd h (by simp)
 | 0,[],_ :: _,_,h,_,_,_=>absurd h (by simp)
 | n + 1,[],[],_,_,_,_,_=>rfl
 | n + 1,[],w :: m,_,_,_,h2,e=>by
  have:(-1:Int)=w.color:=(List.cons.inj e).1
  have:=h2 w List.mem_cons_self
  omega
 | n + 1,v :: l,[],_,_,h1,_,e=>by
  have:v.color=(-1:Int):=(List.cons.inj e).1
  have:=h1 v List.mem_cons_self
  omega
 | n + 1,v :: l,w :: m,hl,hm,h1,h2,e=>by
  obtain ⟨e1,e2⟩:=List.cons.inj e
  obtain ⟨e2,e3⟩:=List.cons.inj e2
  have:=pE (n:=n) (by simp at hl; omega) (by simp at hm; omega) (fun x hx=>h1 x (List.mem_cons_of_mem _ hx)) (fun x hx=>h2 x (List.mem_cons_of_mem _ hx)) e3
  rw [this,iR.2 ⟨e1,e2⟩]
def wh (x:List Int):AV:=.agg (x.map (AV.int .i64))
theorem uK (x:List Int):Dat (wh x):=Dat.agg (by
 induction x with
 | nil=>exact DatL.nil
 | cons a l ih=>exact DatL.cons .int ih)
theorem se:∀ {n:Nat} {s:Spx},s.length ≤ n→cX s ++ ((d4 n []).map (AV.int .i64)).drop (s.length * 2)=(d4 n s).map (AV.int .i64)
 | n,[],_=>by simp [cX]
 | 0,_ :: _,h=>absurd h (by simp)
 | n + 1,v :: l,h=>by
  have:=se (n:=n) (s:=l) (by simp at h; omega)
  show [AV.int .i64 v.color,AV.int .i64 v.label] ++ cX l ++ _=AV.int .i64 v.color :: AV.int .i64 v.label :: (d4 n l).map (AV.int .i64)
  rw [← this,List.length_cons,show (l.length + 1) * 2=l.length * 2 + 1 + 1 by omega]
  rfl
def kc (k:Nat):List AV:=(d4 k [] ++ List.replicate (2 * (8 - k)) 0).map (AV.int .i64)
attribute [local irreducible] aD aj aX aP aG aL az aM aR bd Go.Abs.Fn aO Go.Abs.Pure aw aF Yl
theorem wY (s:Spx) (h1:1 ≤ s.length) (hs:s.length ≤ 8):Pure Try.prog 96 [au s] (wh (d4 8 s)):=by
 refine Pure.of_c2 follows AX (Nat.le_of_ble_eq_true rfl) ?_
 simp only [b96,cO,cG,cN,cM,cD,cF,cB,aB,aQ]
 have hn:dH (au s)=some s.length:=by unfold au eW; simp [dH]
 have hput:=se (n:=8) (s:=s) hs
 (have zz:=and_self; repeat' (first|refine zW ?_|apply a_n|refine zO ?_|refine vY ?_|refine alY ?_|fail)) <;> (try clear zz)
 refine bb (X:=Nat) (fun k=>[(0,au s),(2,.ptr 0 16 0),(3,.ptr 1 16 0),(5,.int .i64 k)]) (fun k H nx=>k ≤ 8∧H 0=some (kc 0)∧H 1=some (kc k)) (fun k=>8 - k) 0 ⟨Nat.zero_le _,by rw [ag (by omega),ah]; rfl,ah⟩ (by (iterate 4 refine And.intro rfl ?_); trivial) ?_
 rintro k H nx ⟨hk,g0,g1⟩
 rcases (by omega:k=8 ∨ k=0 ∨ k=1 ∨ k=2 ∨ k=3 ∨ k=4 ∨ k=5 ∨ k=6 ∨ k=7) with rfl | rfl | rfl | rfl | rfl | rfl | rfl | rfl | rfl
 ·(have zz:=aI @g0 @g1; repeat' (first|refine zW ?_|apply a_n|apply a_x|refine zO ?_|refine vY ?_|(refine zGY ?_ ?_ <;> (intro _hg; try (exfalso; omega)))|fail)) <;> (try clear zz)
  refine xN rfl g1 rfl rfl ?_
  (have zz:=and_self; repeat' (first|apply a_n|refine zO ?_|refine vY ?_|fail)) <;> (try clear zz)
  refine xF (n:=s.length) (H':=ar H 1 ((d4 8 s).map (AV.int .i64))) ?_ ?_
  ·((try simp only [bQ,ZA,reduceEqDiff,↓reduceIte,reduceAdd,reduceLeDiff]); (try with_reducible rfl))
   have htr:nL s.length (au s)=au s:=by unfold au eW; simp [nL]; exact List.take_of_length_le (by simp)
   have hmin:min s.length 8=s.length:=Nat.min_eq_left hs
   have hal:dH (.msl 1 16 2 0 8)=some 8:=rfl
   simp only [kB,hal,hn,hmin,if_neg (show ¬ s.length=0 by omega),g1,htr,nN]
   rw [if_pos (by refine ⟨?_,?_,?_,?_⟩ <;> first | rfl | trivial | omega | exact fH s)]
   have:bl (kc 8) 0 (cX s)=(d4 8 s).map (AV.int .i64):=by
    rw [← hput]
    simp only [bl,List.take_zero,List.nil_append,Nat.zero_add,dP]
    rfl
   rw [this]
  ·have hl:((d4 8 s).map (AV.int .i64)).length=16:=by rw [List.length_map,jq]
   have g1':ar H 1 ((d4 8 s).map (AV.int .i64)) 1=some ((d4 8 s).map (AV.int .i64)):=ah
   have g0':ar H 1 ((d4 8 s).map (AV.int .i64)) 0=some (kc 0):=by rw [ag (by omega)]; exact g0
   have hl0:(kc 0).length=16:=rfl
   unfold wh
   have ht:((d4 8 s).map (AV.int .i64)).take 16=(d4 8 s).map (AV.int .i64):=List.take_of_length_le (by omega)
   have hd:=uK (d4 8 s)
   unfold wh at hd
   have hfl:AV.ones ((d4 8 s).map (AV.int .i64))=true:=by
    unfold AV.ones
    rw [List.all_eq_true]
    intro x hx
    obtain ⟨y,_,rfl⟩:=List.mem_map.1 hx
    rfl
   have hlp:bl (kc 0) 0 ((d4 8 s).map (AV.int .i64))=(d4 8 s).map (AV.int .i64):=by
    simp only [bl,List.take_zero,List.nil_append,Nat.zero_add,hl]
    rw [List.drop_of_length_le (by decide),List.append_nil]
   generalize (d4 8 s).map (AV.int .i64)=K at *
   (have zz:=aI @g0' (aI @g1' (aI @hl (aI @hl0 @ht))); repeat' (first|refine zW ?_|apply a_n|refine zO ?_|refine vY ?_|fail)) <;> (try clear zz)
   refine yv (v:=.agg K) (cs:=kc 0) (vs:=K) (b:=0) (n:=16) (off:=0) rfl ev0 ev0 g0' rfl hfl hl0 hl (by omega) ?_
   rw [hlp]
   (have zz:=aI @hl @ht; repeat' (first|apply a_n|refine zO ?_|refine ak rfl ?_|refine r1Y ?_|fail)) <;> (try clear zz)
   exact hd _
 ·(have zz:=aI @g0 @g1; repeat' (first|refine zW ?_|apply a_n|refine zO ?_|refine vY ?_|(refine zGY ?_ ?_ <;> (intro _hg; try (exfalso; omega)))|fail)) <;> (try clear zz)
  refine il (r:=.ptr 1 16 0) rfl rfl rfl ?_
  have hl:(kc 0).length=16:=rfl
  (have zz:=aI @g1 @hl; repeat' (first|apply a_n|refine zO ?_|refine vY ?_|refine stY ?_|fail)) <;> (try clear zz)
  exact ⟨1,by omega,⟨by omega,by rw [ag (by omega)]; exact g0,by rw [ah]; rfl⟩,by (iterate 4 refine And.intro rfl ?_); trivial⟩
 ·(have zz:=aI @g0 @g1; repeat' (first|refine zW ?_|apply a_n|refine zO ?_|refine vY ?_|(refine zGY ?_ ?_ <;> (intro _hg; try (exfalso; omega)))|fail)) <;> (try clear zz)
  refine il (r:=.ptr 1 16 2) rfl rfl rfl ?_
  have hl:(kc 1).length=16:=rfl
  (have zz:=aI @g1 @hl; repeat' (first|apply a_n|refine zO ?_|refine vY ?_|refine stY ?_|fail)) <;> (try clear zz)
  exact ⟨2,by omega,⟨by omega,by rw [ag (by omega)]; exact g0,by rw [ah]; rfl⟩,by (iterate 4 refine And.intro rfl ?_); trivial⟩
 ·(have zz:=aI @g0 @g1; repeat' (first|refine zW ?_|apply a_n|refine zO ?_|refine vY ?_|(refine zGY ?_ ?_ <;> (intro _hg; try (exfalso; omega)))|fail)) <;> (try clear zz)
  refine il (r:=.ptr 1 16 4) rfl rfl rfl ?_
  have hl:(kc 2).length=16:=rfl
  (have zz:=aI @g1 @hl; repeat' (first|apply a_n|refine zO ?_|refine vY ?_|refine stY ?_|fail)) <;> (try clear zz)
  exact ⟨3,by omega,⟨by omega,by rw [ag (by omega)]; exact g0,by rw [ah]; rfl⟩,by (iterate 4 refine And.intro rfl ?_); trivial⟩
 ·(have zz:=aI @g0 @g1; repeat' (first|refine zW ?_|apply a_n|refine zO ?_|refine vY ?_|(refine zGY ?_ ?_ <;> (intro _hg; try (exfalso; omega)))|fail)) <;> (try clear zz)
  refine il (r:=.ptr 1 16 6) rfl rfl rfl ?_
  have hl:(kc 3).length=16:=rfl
  (have zz:=aI @g1 @hl; repeat' (first|apply a_n|refine zO ?_|refine vY ?_|refine stY ?_|fail)) <;> (try clear zz)
  exact ⟨4,by omega,⟨by omega,by rw [ag (by omega)]; exact g0,by rw [ah]; rfl⟩,by (iterate 4 refine And.intro rfl ?_); trivial⟩
 ·(have zz:=aI @g0 @g1; repeat' (first|refine zW ?_|apply a_n|refine zO ?_|refine vY ?_|(refine zGY ?_ ?_ <;> (intro _hg; try (exfalso; omega)))|fail)) <;> (try clear zz)
  refine il (r:=.ptr 1 16 8) rfl rfl rfl ?_
  have hl:(kc 4).length=16:=rfl
  (have zz:=aI @g1 @hl; repeat' (first|apply a_n|refine zO ?_|refine vY ?_|refine stY ?_|fail)) <;> (try clear zz)
  exact ⟨5,by omega,⟨by omega,by rw [ag (by omega)]; exact g0,by rw [ah]; rfl⟩,by (iterate 4 refine And.intro rfl ?_); trivial⟩
 ·(have zz:=aI @g0 @g1; repeat' (first|refine zW ?_|apply a_n|refine zO ?_|refine vY ?_|(refine zGY ?_ ?_ <;> (intro _hg; try (exfalso; omega)))|fail)) <;> (try clear zz)
  refine il (r:=.ptr 1 16 10) rfl rfl rfl ?_
  have hl:(kc 5).length=16:=rfl
  (have zz:=aI @g1 @hl; repeat' (first|apply a_n|refine zO ?_|refine vY ?_|refine stY ?_|fail)) <;> (try clear zz)
  exact ⟨6,by omega,⟨by omega,by rw [ag (by omega)]; exact g0,by rw [ah]; rfl⟩,by (iterate 4 refine And.intro rfl ?_); trivial⟩
 ·(have zz:=aI @g0 @g1; repeat' (first|refine zW ?_|apply a_n|refine zO ?_|refine vY ?_|(refine zGY ?_ ?_ <;> (intro _hg; try (exfalso; omega)))|fail)) <;> (try clear zz)
  refine il (r:=.ptr 1 16 12) rfl rfl rfl ?_
  have hl:(kc 6).length=16:=rfl
  (have zz:=aI @g1 @hl; repeat' (first|apply a_n|refine zO ?_|refine vY ?_|refine stY ?_|fail)) <;> (try clear zz)
  exact ⟨7,by omega,⟨by omega,by rw [ag (by omega)]; exact g0,by rw [ah]; rfl⟩,by (iterate 4 refine And.intro rfl ?_); trivial⟩
 ·(have zz:=aI @g0 @g1; repeat' (first|refine zW ?_|apply a_n|refine zO ?_|refine vY ?_|(refine zGY ?_ ?_ <;> (intro _hg; try (exfalso; omega)))|fail)) <;> (try clear zz)
  refine il (r:=.ptr 1 16 14) rfl rfl rfl ?_
  have hl:(kc 7).length=16:=rfl
  (have zz:=aI @g1 @hl; repeat' (first|apply a_n|refine zO ?_|refine vY ?_|refine stY ?_|fail)) <;> (try clear zz)
  exact ⟨8,by omega,⟨by omega,by rw [ag (by omega)]; exact g0,by rw [ah]; rfl⟩,by (iterate 4 refine And.intro rfl ?_); trivial⟩
end Go.Proofs.Ytfcenbapjhecfaa
namespace Go.Proofs.Ytfcenbapjhecfaa
open Go Go.Abs
attribute [local irreducible] aD aj aX aP aG aL az aM aR bd Go.Abs.Fn aO Go.Abs.Pure aw aF Yl
end Go.Proofs.Ytfcenbapjhecfaa
namespace Go.Proofs.Ytfcenbapjhecfaa
open Go Go.Abs
open Nat (reduceEqDiff reduceAdd reduceLeDiff)
theorem s5 {H:Hp} {sz:Nat} {s:AV} {elems:List AV} (h:Row H sz s (elems.flatMap AV.cells)) (hc:∀ y ∈ elems,y.cells.length=sz) (hz:0 < sz) (hd:∀ y ∈ elems,∀ c ∈ y.cells,SnapF H c c):SnapF H s (.sl sz elems):=by
 obtain ⟨f1,f2⟩:=b8 elems hc
 generalize he:elems.flatMap AV.cells=cs at h
 cases h with
 | nil =>
  have:elems.length * sz=0:=by rw [← f1,he]; rfl
  have:elems=[]:=List.length_eq_zero_iff.1 (by
   rcases Nat.mul_eq_zero.1 this with h | h
   ·exact h
   ·omega)
  subst this; exact .eslsl sz
 | box b len cs hb hl =>
  have hlen:elems.length=len:=Nat.eq_of_mul_eq_mul_right hz (by rw [← f1,he,hl])
  refine .msl b (len * sz) sz 0 len cs elems hb hl (by omega) hlen hc (fun i j y a c hy hc' ha=>?_)
  have hj:j < sz:=by rw [← hc y (List.mem_of_getElem? hy)]; exact (List.getElem?_eq_some_iff.1 hc').1
  have key:∀ (l:List AV) (i j:Nat) (y c:AV),(∀ z ∈ l,z.cells.length=sz)→l[i]?=some y→y.cells[j]?=some c→j < sz→(l.flatMap AV.cells)[i * sz + j]?=some c:=by
   intro l
   induction l with
   | nil=>intro i j y c _ h; simp at h
   | cons x l ih =>
    intro i j y c hl hy hc hj
    rw [List.flatMap_cons]
    cases i with
    | zero =>
     simp at hy; subst hy
     rw [Nat.zero_mul,Nat.zero_add,List.getElem?_append_left (by rw [hl x (by simp)]; exact hj)]; exact hc
    | succ i =>
     rw [List.getElem?_append_right (by rw [hl x (by simp),Nat.add_mul]; omega),hl x (by simp)]
     have:=ih i j y c (fun z hz=>hl z (by simp [hz])) (by simpa using hy) hc hj
     rw [← this]; congr 1; rw [Nat.add_mul]; omega
  have:=key elems i j y c hc hy hc' hj
  rw [he,← Nat.zero_add (i * sz)] at this
  rw [this] at ha; cases ha
  exact hd y (List.mem_of_getElem? hy) a (List.mem_of_getElem? hc')
theorem lf {H:Hp} {s:AV} {l:Spx} (h:Row H 2 s (cX l)):SnapF H s (au l):=by
 refine s5 (elems:=l.map bM) (by rw [rV]; exact h) (fun y hy=>?_) (by omega) (fun y hy c hx=>?_)
 ·obtain ⟨n,_,rfl⟩:=List.mem_map.1 hy; rfl
 ·obtain ⟨n,_,rfl⟩:=List.mem_map.1 hy
  simp only [bM,AV.cells,List.mem_cons,List.not_mem_nil,or_false] at hx
  rcases hx with rfl | rfl <;> exact .int _ _
attribute [local irreducible] aD aj aX aP aG aL az aM aR bd Go.Abs.Fn aO Go.Abs.Pure aw aF Yl
theorem ua (l:Spx) (hl:l.length ≤ 1000000):dg Try.prog 83 [au l] (au l):=by
 refine dg.of_c2 follows zD (Nat.le_of_ble_eq_true rfl) ?_
 simp only [b83,cO,cG,cN,cM,cD,cF,cB,aB,aQ]
 (have zz:=and_self; repeat' (first|refine zW ?_|apply a_n|refine zO ?_|refine vY ?_|fail)) <;> (try clear zz)
 have hn:dH (au l)=some l.length:=by unfold au eW; simp [dH]
 refine uQ (k:=l.length) (by ((try simp only [bQ,ZA,reduceEqDiff,↓reduceIte,reduceAdd,reduceLeDiff]); (try with_reducible rfl)); exact hn) (fun h=>?_) (fun h=>?_) (fun h=>?_)
 ·(have zz:=and_self; repeat' (first|refine zW ?_|apply a_n|refine zO ?_|refine vY ?_|refine b0Y ?_|refine cFY ?_|fail)) <;> (try clear zz)
  refine oY rfl ev0 ev0 nN (fH _) (by omega) (by omega) ?_
  (have zz:=and_self; repeat' (first|apply a_n|refine zO ?_|refine vY ?_|refine ak rfl ?_|refine r1Y ?_|fail)) <;> (try clear zz)
  exact lf (Row.box _ l.length (cX l) ah (dP l))
 ·(have zz:=and_self; repeat' (first|refine zW ?_|apply a_n|apply a_r|refine zO ?_|refine vY ?_|refine cTY ?_|refine ak rfl ?_|refine r1Y ?_|fail)) <;> (try clear zz)
  obtain rfl:=List.length_eq_zero_iff.1 h
  exact .eslsl 2
 ·(have zz:=and_self; repeat' (first|refine zW ?_|apply a_n|refine zO ?_|refine vY ?_|refine b0Y ?_|refine cFY ?_|fail)) <;> (try clear zz)
  refine oY rfl ev0 ev0 nN (fH _) (by omega) (by omega) ?_
  (have zz:=and_self; repeat' (first|apply a_n|refine zO ?_|refine vY ?_|refine ak rfl ?_|refine r1Y ?_|fail)) <;> (try clear zz)
  exact lf (Row.box _ l.length (cX l) ah (dP l))
section
variable {g:Nat} {caps:List AV} {s:AV}
theorem yI (hs:bE s=some (.int .i64 0)) {H:Hp} {nx:Nat}:Abs.Fn Try.prog 98 [s,.int .i64 0,.int .i64 0,.func g caps] H nx fun r H' nx'=>nx'=nx∧H'=H:=by
 refine Abs.Fn.of_c2 follows zX (Nat.le_of_ble_eq_true rfl) ?_
 simp only [b98,cO,cG,cN,cM,cD,cF,cB,aB,aQ]
 (have zz:=and_self; repeat' (first|refine zW ?_|apply a_n|refine zO ?_|refine vZ ?_|fail)) <;> (try clear zz)
 refine bb (X:=Unit) (fun x=>[(0,s),(1,.int .i64 0),(2,.int .i64 0),(3,.func g caps),(8,.int .i64 1)]) (fun x H' nx'=>H'=H∧nx'=nx) (fun x=>0) () ⟨rfl,rfl⟩ (by simp (disch:=omega) only [agr,ZG,reduceEqDiff,↓reduceIte,Int.zero_add,true_and]) ?_
 rintro _ _ _ ⟨rfl,rfl⟩
 (have zz:=and_self; repeat' (first|refine zW ?_|apply a_n|apply a_x|refine zO ?_|refine vZ ?_|(refine zGZ ?_ ?_ <;> (intro _hg; try (exfalso; omega)))|refine ak rfl ?_|fail)) <;> (try clear zz)
 exact ⟨rfl,rfl⟩
theorem yp (hs:bE s=some (.int .i64 0)) {H:Hp} {nx:Nat}:Abs.Fn Try.prog 89 [s,.int .i64 0,.int .i64 0,.int .i64 0,.func g caps] H nx fun r H' nx'=>nx'=nx∧H'=H:=by
 refine Abs.Fn.of_c2 follows zt (Nat.le_of_ble_eq_true rfl) ?_
 simp only [b89,cO,cG,cN,cM,cD,cF,cB,aB,aQ]
 (have zz:=and_self; repeat' (first|refine zW ?_|apply a_n|refine zO ?_|refine vZ ?_|fail)) <;> (try clear zz)
 refine bb (X:=Unit) (fun x=>[(0,s),(1,.int .i64 0),(2,.int .i64 0),(3,.int .i64 0),(4,.func g caps)]) (fun x H' nx'=>H'=H∧nx'=nx) (fun x=>0) () ⟨rfl,rfl⟩ ag0 ?_
 rintro _ _ _ ⟨rfl,rfl⟩
 (have zz:=and_self; repeat' (first|refine zW ?_|apply a_n|refine zO ?_|refine vZ ?_|(refine zGZ ?_ ?_ <;> (intro _hg; try (exfalso; omega)))|fail)) <;> (try clear zz)
 refine aU ev0 ev0 (yI hs) ?_
 rintro _ _ _ ⟨rfl,rfl⟩
 (have zz:=and_self; repeat' (first|apply a_n|apply a_r|refine zO ?_|refine ak rfl ?_|fail)) <;> (try clear zz)
 exact ⟨rfl,rfl⟩
theorem jh (hs:bE s=some (.int .i64 0)) {H:Hp} {nx:Nat}:Abs.Fn Try.prog 73 [s,.func g caps] H nx fun r H' nx'=>nx'=nx∧H'=H:=by
 refine Abs.Fn.of_c2 follows zh (Nat.le_of_ble_eq_true rfl) ?_
 simp only [b73,cO,cG,cN,cM,cD,cF,cB,aB,aQ]
 have w8:IntKind.wrap .u64 0=0:=by decide
 (have zz:=aI @w8 @hs; repeat' (first|refine zW ?_|apply a_n|refine zO ?_|refine vZ ?_|fail)) <;> (try clear zz)
 refine aU ev0 (have zz:=@w8; evZ) yQ ?_
 rintro _ _ _ ⟨rfl,rfl,rfl⟩
 (have zz:=and_self; repeat' (first|apply a_n|refine zO ?_|refine vZ ?_|fail)) <;> (try clear zz)
 refine aU ev0 ev0 (yp hs) ?_
 rintro _ _ _ ⟨rfl,rfl⟩
 (have zz:=and_self; repeat' (first|apply a_n|refine zO ?_|refine ak rfl ?_|fail)) <;> (try clear zz)
 exact ⟨rfl,rfl⟩
end
end Go.Proofs.Ytfcenbapjhecfaa
namespace Go.Proofs.Ytfcenbapjhecfaa
open Go Go.Abs
attribute [local irreducible] aD aj aX aP aG aL az aM aR bd Go.Abs.Fn aO Go.Abs.Pure aw aF Yl
theorem yP:Cmp Try.prog au aK (fun s=>Shn s) 40 [] where
 cells _:=rfl
 one _:=rfl
 dat x:=ax x
 dcaps x hx:=by cases hx
 run x y hx hy:=dL x y hx hy
 ord:=gH.ord
end Go.Proofs.Ytfcenbapjhecfaa
namespace Go.Proofs.Ytfcenbapjhecfaa
open Go Go.Abs
def K16:Type:={x:List Int // x.length=16}
instance:DecidableEq K16:=inferInstanceAs (DecidableEq {x:List Int // x.length=16})
def kK (s:Spx):K16:=⟨d4 8 s,by rw [jq]⟩
def eK (x:K16):AV:=wh x.1
theorem lw:∀ {n:Nat} {xs ys:List Int},xs.length=n→ys.length=n→bJ (List.replicate n .int) (xs.map (AV.int .i64)) (ys.map (AV.int .i64))=some (decide (xs=ys))
 | 0,[],[],_,_=>rfl
 | 0,_ :: _,_,h,_=>absurd h (by simp)
 | 0,[],_ :: _,_,h=>absurd h (by simp)
 | n + 1,[],_,h,_=>absurd h (by simp)
 | n + 1,_ :: _,[],_,h=>absurd h (by simp)
 | n + 1,x :: xs,y :: ys,h1,h2=>by
  have ih:=lw (n:=n) (xs:=xs) (ys:=ys) (by simpa using h1) (by simpa using h2)
  have e:(x == y)=decide (x=y):=rfl
  rw [List.replicate_succ,List.map_cons,List.map_cons]
  by_cases hxy:x=y
  ·subst hxy
   simp only [bJ,eJ,if_true,e,decide_true,ih]
   simp
  ·simp only [bJ,eJ,if_true,e,decide_eq_false hxy]
   simp [hxy]
theorem xY (a b:K16):jm (.st [.int,.int,.int,.int,.int,.int,.int,.int,.int,.int,.int,.int,.int,.int,.int,.int]) (eK a) (eK b)=some (decide (a=b)):=by
 show bJ (List.replicate 16 .int) (a.1.map (AV.int .i64)) (b.1.map (AV.int .i64))=_
 rw [lw a.2 b.2]
 congr 1
 exact decide_eq_decide.2 ⟨Subtype.ext,fun h=>congrArg Subtype.val h⟩
theorem wq (v:K16) (ks:List K16):bA (.st [.int,.int,.int,.int,.int,.int,.int,.int,.int,.int,.int,.int,.int,.int,.int,.int]) (eK v) (ks.map eK)=some (if v ∈ ks then some (ks.idxOf v) else none):=jQ _ eK xY v ks
theorem sP (v:K16):eC (.st [.int,.int,.int,.int,.int,.int,.int,.int,.int,.int,.int,.int,.int,.int,.int,.int]) (eK v)=true:=by
 show (16 == (v.1.map (AV.int .i64)).length)=true
 rw [List.length_map,v.2]; rfl
def gw (s:Spx):Prop:=1 ≤ s.length∧s.length ≤ 8∧∀ v ∈ s,0 ≤ v.color
theorem yh {s t:Spx} (hs:gw s) (ht:gw t) (h:kK s=kK t):s=t:=pE hs.2.1 ht.2.1 hs.2.2 ht.2.2 (congrArg Subtype.val h)
theorem yd {O:List Spx} {f:Spx} (hO:∀ s ∈ O,gw s) (hf:gw f):kK f ∈ O.map kK ↔ f ∈ O:=by
 rw [List.mem_map]
 exact ⟨fun ⟨s,h1,h2⟩=>by rw [← yh (hO s h1) hf h2]; exact h1,fun h=>⟨f,h,rfl⟩⟩
theorem wM {s:Spx} (h:bg s=0):gw s:=by
 obtain ⟨p1,p2,p3,p4⟩:=cr h
 refine ⟨p1,p2,fun v hv=>?_⟩
 have:=p4 v hv
 unfold dj at this
 simp only [Bool.and_eq_true,decide_eq_true_eq] at this
 exact this.1.1
theorem vH {s t:Spx} {k:Nat} (hs:gw s) (hk:1 ≤ k) (h:t ∈ bn s k):gw t:=by
 obtain ⟨h1,h2⟩:=cE.1 h
 exact ⟨by omega,Nat.le_trans h1.length_le hs.2.1,fun v hv=>hs.2.2 v (h1.subset hv)⟩
theorem kN {O L P:List Spx} (hp:L.Perm O) (hs:aZ aK 0 L.length L) (hn:O.Nodup) (hm:∀ s,s ∈ O ↔ s ∈ P):L=gp aK P:=by
 refine gY gH ?_ (lN gH P) fun s=>by rw [hp.mem_iff,hm,gC]
 unfold bk
 rw [List.pairwise_iff_getElem]
 intro i j hi hj hij
 have h1:=hs i j (Nat.zero_le _) hij hj
 rw [show L.getD i default=L[i] by simp [List.getD,hi],show L.getD j default=L[j] by simp [List.getD,hj]] at h1
 rcases gH.tri L[i] L[j] with h | h | h
 ·exact h
 ·have:=(List.nodup_iff_pairwise_ne.1 (hp.nodup_iff.2 hn))
  exact absurd h ((List.pairwise_iff_getElem.1 this) i j hi hj hij)
 ·exact absurd h h1
end Go.Proofs.Ytfcenbapjhecfaa
namespace Go.Proofs.Ytfcenbapjhecfaa
open Go Go.Abs
section
variable {α:Type} {K:α→α→Int}
def oB (K:α→α→Int):Nat→List α→List α→List α
 | 0,_,_=>[]
 | _ + 1,[],b=>b
 | _ + 1,x :: a,[]=>x :: a
 | n + 1,x :: a,y :: b=>if K x y < 0 then x :: oB K n a (y :: b) else if K y x < 0 then y :: oB K n (x :: a) b else oB K n a b
def cS (K:α→α→Int) (a b:List α):List α:=oB K (a.length + b.length + 1) a b
theorem gV:∀ (n m:Nat) (a b:List α),a.length + b.length < n→a.length + b.length < m→oB K n a b=oB K m a b
 | 0,_,_,_,h,_=>absurd h (by omega)
 | _ + 1,0,_,_,_,h=>absurd h (by omega)
 | _ + 1,_ + 1,[],b,_,_=>rfl
 | _ + 1,_ + 1,x :: a,[],_,_=>rfl
 | n + 1,m + 1,x :: a,y :: b,h1,h2=>by
  simp only [List.length_cons] at h1 h2
  simp only [oB]
  rw [gV n m a (y :: b) (by simp only [List.length_cons]; omega) (by simp only [List.length_cons]; omega),gV n m (x :: a) b (by simp only [List.length_cons]; omega) (by simp only [List.length_cons]; omega),gV n m a b (by omega) (by omega)]
theorem lV {b:List α}:cS K [] b=b:=rfl
theorem o7 {a:List α}:cS K a []=a:=by cases a <;> rfl
theorem r8 {x y:α} {a b:List α}:cS K (x :: a) (y :: b)=if K x y < 0 then x :: cS K a (y :: b) else if K y x < 0 then y :: cS K (x :: a) b else cS K a b:=by
 show oB K (a.length + 1 + (b.length + 1) + 1) (x :: a) (y :: b)=_
 simp only [oB]
 unfold cS
 rw [gV (a.length + 1 + (b.length + 1)) (a.length + (y :: b).length + 1) a (y :: b) (by simp only [List.length_cons]; omega) (by simp only [List.length_cons]; omega),gV (a.length + 1 + (b.length + 1)) ((x :: a).length + b.length + 1) (x :: a) b (by simp only [List.length_cons]; omega) (by simp only [List.length_cons]; omega),gV (a.length + 1 + (b.length + 1)) (a.length + b.length + 1) a b (by omega) (by omega)]
theorem iU:∀ (n:Nat) (a b:List α),a.length + b.length ≤ n→(cS K a b).length ≤ a.length + b.length
 | _,[],b,_=>by rw [lV]; simp
 | _,x :: a,[],_=>by rw [o7]; simp
 | 0,x :: a,y :: b,h=>by simp only [List.length_cons] at h; omega
 | n + 1,x :: a,y :: b,h=>by
  simp only [List.length_cons] at h ⊢
  rw [r8]
  have h1:=iU n a (y :: b) (by simp only [List.length_cons]; omega)
  have h2:=iU n (x :: a) b (by simp only [List.length_cons]; omega)
  have h3:=iU n a b (by omega)
  simp only [List.length_cons] at h1 h2
  split
  ·simp only [List.length_cons]; omega
  split
  ·simp only [List.length_cons]; omega
  ·omega
theorem gB (hK:LinK K):∀ (n:Nat) (a b:List α),a.length + b.length ≤ n→bk K a→bk K b→bk K (cS K a b)∧∀ z,z ∈ cS K a b ↔ (z ∈ a∧z ∉ b) ∨ (z ∈ b∧z ∉ a)
 | _,[],b,_,_,hb=>by rw [lV]; exact ⟨hb,fun z=>by simp⟩
 | _,x :: a,[],_,ha,_=>by rw [o7]; exact ⟨ha,fun z=>by simp⟩
 | 0,x :: a,y :: b,h,_,_=>by simp only [List.length_cons] at h; omega
 | n + 1,x :: a,y :: b,h,ha,hb=>by
  simp only [List.length_cons] at h
  obtain ⟨a1,a2⟩:=List.pairwise_cons.1 ha
  obtain ⟨b1,b2⟩:=List.pairwise_cons.1 hb
  have irr:=fun v=>hK.ord.irr v
  rw [r8]
  by_cases g1:K x y < 0
  ·rw [if_pos g1]
   obtain ⟨h1,h2⟩:=gB hK n a (y :: b) (by simp only [List.length_cons]; omega) a2 hb
   have hxb:∀ z ∈ y :: b,K x z < 0:=fun z hz=>by
    rcases List.mem_cons.1 hz with rfl | hz
    ·exact g1
    ·exact hK.trans g1 (b1 z hz)
   refine ⟨List.pairwise_cons.2 ⟨fun z hz=>?_,h1⟩,fun z=>?_⟩
   ·rcases (h2 z).1 hz with ⟨q,_⟩ | ⟨q,_⟩
    ·exact a1 z q
    ·exact hxb z q
   ·rw [List.mem_cons,h2,List.mem_cons (a:=z) (b:=x)]
    by_cases hz:z=x
    ·subst hz
     have:z ∉ y :: b:=fun q=>irr _ (hxb z q)
     simp [this]
    ·simp [hz]
  rw [if_neg g1]
  by_cases g2:K y x < 0
  ·rw [if_pos g2]
   obtain ⟨h1,h2⟩:=gB hK n (x :: a) b (by simp only [List.length_cons]; omega) ha b2
   have hya:∀ z ∈ x :: a,K y z < 0:=fun z hz=>by
    rcases List.mem_cons.1 hz with rfl | hz
    ·exact g2
    ·exact hK.trans g2 (a1 z hz)
   refine ⟨List.pairwise_cons.2 ⟨fun z hz=>?_,h1⟩,fun z=>?_⟩
   ·rcases (h2 z).1 hz with ⟨q,_⟩ | ⟨q,_⟩
    ·exact hya z q
    ·exact b1 z q
   ·rw [List.mem_cons,h2,List.mem_cons (a:=z) (b:=y)]
    by_cases hz:z=y
    ·subst hz
     have:z ∉ x :: a:=fun q=>irr _ (hya z q)
     simp [this]
    ·simp [hz]
  rw [if_neg g2]
  obtain rfl:x=y:=by
   rcases hK.tri x y with q | q | q
   ·exact absurd q g1
   ·exact q
   ·exact absurd q g2
  obtain ⟨h1,h2⟩:=gB hK n a b (by omega) a2 b2
  refine ⟨h1,fun z=>?_⟩
  rw [h2]
  by_cases hz:z=x
  ·subst hz
   have q1:z ∉ a:=fun q=>irr _ (a1 z q)
   have q2:z ∉ b:=fun q=>irr _ (b1 z q)
   simp [q1,q2]
  ·simp [hz]
theorem wK (hK:LinK K) {a b:List α} (ha:bk K a) (hb:bk K b):bk K (cS K a b):=(gB hK _ a b (Nat.le_refl _) ha hb).1
theorem si (hK:LinK K) {a b:List α} (ha:bk K a) (hb:bk K b) {z:α}:z ∈ cS K a b ↔ (z ∈ a∧z ∉ b) ∨ (z ∈ b∧z ∉ a):=(gB hK _ a b (Nat.le_refl _) ha hb).2 z
theorem sn {a b:List α}:(cS K a b).length ≤ a.length + b.length:=iU _ a b (Nat.le_refl _)
end
def bw (s:Spx):List Spx:=if s.length < 2 then [] else bn s (s.length - 1)
def mr (a:List Spx) (o:List Spx):List Spx:=a.foldl (fun o s=>cS aK o (bw s)) o
def cb (a:List Spx):List Spx:=mr a []
theorem mR {s:Spx} (h:bk bt s):bk aK (bw s):=by
 unfold bw; split
 ·exact bk.nil
 ·exact gz h
theorem iw {s f:Spx}:f ∈ bw s ↔ 2 ≤ s.length∧f.Sublist s∧f.length=s.length - 1:=by
 unfold bw; split
 ·exact ⟨fun h=>(by cases h),fun h=>absurd h.1 (by omega)⟩
 ·rw [cE]; exact ⟨fun h=>⟨by omega,h⟩,fun h=>h.2⟩
def iG (a:List Spx) (f:Spx):Nat:=(a.map fun s=>(bw s).count f).sum
theorem nQ {s:Spx} {a:List Spx} {f:Spx}:iG (s :: a) f=(bw s).count f + iG a f:=by unfold iG; rw [List.map_cons,List.sum_cons]
theorem tA {L:List Spx} (h:bk aK L) (f:Spx):L.count f % 2=1 ↔ f ∈ L:=by
 by_cases hf:f ∈ L
 ·have h1:=List.count_pos_iff.2 hf
  have h2:=List.nodup_iff_count.1 (h.nodup gH) f
  exact ⟨fun _=>hf,fun _=>by omega⟩
 ·rw [List.count_eq_zero_of_not_mem hf]; exact ⟨fun h=>absurd h (by decide),fun h=>absurd h hf⟩
theorem l6:∀ (a o:List Spx) (c:Spx→Nat),(∀ s ∈ a,bk bt s)→bk aK o→(∀ f,f ∈ o ↔ c f % 2=1)→bk aK (mr a o)∧∀ f,f ∈ mr a o ↔ (c f + iG a f) % 2=1
 | [],o,c,_,ho,hc=>⟨ho,fun f=>by show f ∈ o ↔ _; rw [hc]; rfl⟩
 | s :: a,o,c,hs,ho,hc=>by
  have hf:=mR (hs s List.mem_cons_self)
  obtain ⟨h1,h2⟩:=l6 a (cS aK o (bw s)) (fun f=>c f + (bw s).count f) (fun t ht=>hs t (List.mem_cons_of_mem _ ht)) (wK gH ho hf) fun f=>by
   rw [si gH ho hf,hc,← tA hf f]
   omega
  refine ⟨h1,fun f=>?_⟩
  show f ∈ mr a (cS aK o (bw s)) ↔ _
  rw [h2,nQ,Nat.add_assoc]
theorem fJ {a:List Spx} (hs:∀ s ∈ a,bk bt s):bk aK (cb a)∧∀ f,f ∈ cb a ↔ iG a f % 2=1:=by
 obtain ⟨h1,h2⟩:=l6 a [] (fun _=>0) hs bk.nil fun f=>⟨fun h=>(by cases h),fun h=>absurd h (by decide)⟩
 exact ⟨h1,fun f=>by rw [show cb a=mr a [] from rfl,h2,Nat.zero_add]⟩
theorem uh {a:List Spx} (hs:∀ s ∈ a,bk bt s):bk aK (cb a):=(fJ hs).1
theorem rL {a:List Spx} (hs:∀ s ∈ a,bk bt s) {f:Spx} (hf:f ∈ cb a):∃ s ∈ a,f ∈ bw s:=by
 have h:=((fJ hs).2 f).1 hf
 have hp:0 < iG a f:=by omega
 clear h hf hs
 induction a with
 | nil=>exact absurd hp (Nat.lt_irrefl 0)
 | cons s a ih =>
  rw [nQ] at hp
  by_cases h:0 < (bw s).count f
  ·exact ⟨s,List.mem_cons_self,List.count_pos_iff.1 h⟩
  ·obtain ⟨t,h1,h2⟩:=ih (by omega)
   exact ⟨t,List.mem_cons_of_mem _ h1,h2⟩
theorem nB:∀ (a o:List Spx),(∀ s ∈ a,s.length ≤ 8)→(mr a o).length ≤ o.length + a.length * 70
 | [],o,_=>Nat.le_add_right _ _
 | s :: a,o,h=>by
  have h1:=nB a (cS aK o (bw s)) fun t ht=>h t (List.mem_cons_of_mem _ ht)
  have h2:=sn (K:=aK) (a:=o) (b:=bw s)
  have h3:(bw s).length ≤ 70:=by
   unfold bw; split
   ·exact Nat.zero_le _
   ·exact iZ (h s List.mem_cons_self)
  show (mr a (cS aK o (bw s))).length ≤ _
  rw [List.length_cons]; omega
theorem oq {a:List Spx} (h:∀ s ∈ a,s.length ≤ 8):(cb a).length ≤ a.length * 70:=by
 have:=nB a [] h
 rw [List.length_nil,Nat.zero_add] at this
 exact this
theorem uJ {a b:List Spx} (ha:bk aK a) (hb:bk aK b) (P:Spx→Prop) (h1:∀ s ∈ a,P s) (h2:∀ s ∈ b,P s):∀ s ∈ cS aK a b,P s:=fun s hs=>by
 rcases (si gH ha hb).1 hs with ⟨h,_⟩ | ⟨h,_⟩
 ·exact h1 s h
 ·exact h2 s h
def fc0:Spx→List Spx
 | []=>[]
 | x :: s=>s :: (fc0 s).map (x :: ·)
theorem oh:∀ {s:Spx},bn s s.length=[s]
 | []=>rfl
 | x :: s=>by rw [List.length_cons,eG,oh,fR (by omega)]; rfl
theorem qw:∀ {s:Spx},s ≠ []→(bn s (s.length - 1)).Perm (fc0 s)
 | [],h=>absurd rfl h
 | [x],_=>by show (bn [x] 0).Perm _; rw [iB]; exact List.Perm.refl _
 | x :: y :: s,_=>by
  show (bn (x :: y :: s) (s.length + 1)).Perm _
  rw [eG,show s.length + 1=(y :: s).length from rfl,oh]
  have ih:=qw (s:=y :: s) (by simp)
  show ((bn (y :: s) s.length).map (x :: ·) ++ [y :: s]).Perm ((y :: s) :: (fc0 (y :: s)).map (x :: ·))
  exact List.perm_append_comm.trans ((ih.map (x :: ·)).cons _)
def wu (a:List Spx) (k:Nat):Int:=if bg (a.getD k default) ≠ 0 then bg (a.getD k default) else if (a.getD k default).length ≠ (a.getD 0 default).length then 15 else if 0 < k∧0 ≤ aK (a.getD (k - 1) default) (a.getD k default) then 14 else 0
def cu (a:List Spx):Int:=if 4096 < a.length then 5 else bZ (wu a) a.length
theorem eS {a:List Spx} (h:cu a=0):a.length ≤ 4096∧(∀ s ∈ a,bg s=0)∧bk aK a∧∀ s ∈ a,s.length=(a.getD 0 default).length:=by
 unfold cu at h
 split at h
 ·exact absurd h (by decide)
 rename_i hl
 have h0:=eH h
 have hk:∀ k,k < a.length→bg (a.getD k default)=0∧(a.getD k default).length=(a.getD 0 default).length∧(0 < k→aK (a.getD (k - 1) default) (a.getD k default) < 0):=fun k hk=>by
  have q:=h0 k hk
  unfold wu at q
  split at q
  ·exact absurd q ‹_›
  split at q
  ·exact absurd q (by decide)
  split at q
  ·exact absurd q (by decide)
  ·rename_i q1 q2 q3
   exact ⟨Decidable.of_not_not q1,Decidable.of_not_not q2,fun h0=>by omega⟩
 have hm:∀ s ∈ a,∃ k,k < a.length∧a.getD k default=s:=fun s hs=>by
  obtain ⟨k,h1,h2⟩:=List.getElem_of_mem hs
  exact ⟨k,h1,by simp [List.getD,h1,h2]⟩
 refine ⟨by omega,fun s hs=>?_,?_,fun s hs=>?_⟩
 ·obtain ⟨k,h1,rfl⟩:=hm s hs; exact (hk k h1).1
 ·have hchain:∀ j i,i < j→j < a.length→aK (a.getD i default) (a.getD j default) < 0:=fun j=>by
    induction j with
    | zero=>intro i hi; omega
    | succ j ih =>
     intro i hi hj
     have q:=(hk (j + 1) hj).2.2 (by omega)
     rw [Nat.add_sub_cancel] at q
     rcases (by omega:i < j ∨ i=j) with h | rfl
     ·exact gH.trans (ih i h (by omega)) q
     ·exact q
  unfold bk
  rw [List.pairwise_iff_getElem]
  intro i j hi hj hij
  have:=hchain j i hij hj
  rwa [show a.getD i default=a[i] by simp [List.getD,hi],show a.getD j default=a[j] by simp [List.getD,hj]] at this
 ·obtain ⟨k,h1,rfl⟩:=hm s hs; exact (hk k h1).2.1
theorem iW {a:List Spx} (h:∀ s ∈ a,bg s=0):∀ s ∈ a,bk bt s:=fun s hs=>(cr (h s hs)).2.2.1
end Go.Proofs.Ytfcenbapjhecfaa
namespace Go.Proofs.Ytfcenbapjhecfaa
open Go Go.Abs
theorem rg {a:List Spx} {k:Nat}:wu a k=if bg (a.getD k default) ≠ 0 then bg (a.getD k default) else if (a.getD k default).length ≠ (a.getD 0 default).length then 15 else if 0 < k∧0 ≤ aK (a.getD (k - 1) default) (a.getD k default) then 14 else 0:=rfl
def fg (l:List (List Spx)):AV:=eW 1 aq l
theorem pO (l:List (List Spx)):Dat (fg l):=ux (fun _=>rfl) aA
instance datI_encXsss {l:List (List Spx)}:DatI (fg l):=⟨pO l⟩
theorem nc {l:List (List Spx)}:bE (fg l)=some (.int .i64 l.length):=iC
theorem AC {l:List (List Spx)} {k:Nat} (h:k < l.length):dt 1 (fg l) (.int .i64 (k:Int))=some (.iptr [aq (l.getD k default)] 0):=by
 unfold fg
 rw [jy,if_pos ⟨by omega,by omega⟩,Int.toNat_natCast]; rfl
theorem r6 {l:List Spx} (h:0 < l.length):dt 1 (aq l) (.int .i64 0)=some (.iptr [au (l.getD 0 default)] 0):=cT h
abbrev ShC (a:List Spx):Prop:=Shn a∧∀ s ∈ a,Shn s
attribute [local irreducible] aD aj aX aP aG aL az aM aR bd Go.Abs.Fn aO Go.Abs.Pure aw aF Yl
theorem ju (a:List Spx) (ha:ShC a):Pure Try.prog 14 [aq a] (.int .i64 (cu a)):=by
 refine Pure.of_c2 follows AJ (Nat.le_of_ble_eq_true rfl) ?_
 simp only [b14,cO,cG,cN,cM,cD,cF,cB,aB,aQ]
 have ha':a.length ≤ 17592186044416:=ha.1
 unfold cu
 by_cases h0:4096 < a.length
 ·rw [if_pos h0]
  (have zz:=aI @ac (aI @ao @ai); repeat' (first|refine zW ?_|apply a_n|apply a_r|refine zO ?_|refine vZ ?_|(refine zGZ ?_ ?_ <;> (intro _hg; try (exfalso; omega)))|refine ak rfl ?_|refine r1Z ?_|fail)) <;> (try clear zz)
  all_goals exact ci rfl
 rw [if_neg h0]
 (have zz:=aI @ac (aI @ao @ai); repeat' (first|refine zW ?_|apply a_n|refine zO ?_|refine vZ ?_|(refine zGZ ?_ ?_ <;> (intro _hg; try (exfalso; omega)))|fail)) <;> (try clear zz)
 refine mM (X:=Nat) (fun k=>[(0,aq a),(9,aq a),(10,.int .i64 a.length),(11,.int .i64 k)]) (fun k=>k ≤ a.length∧∀ i,i < k→wu a i=0) (fun k=>a.length - k) 0 ⟨Nat.zero_le _,fun i h=>absurd h (by omega)⟩ ag0 ?_
 rintro k ⟨h1,h2⟩
 by_cases hk:k < a.length
 rotate_left
 ·rw [cp fun i hi=>h2 i (by omega)]
  (have zz:=and_self; repeat' (first|refine zW ?_|apply a_n|apply a_x|refine zO ?_|refine vY ?_|(refine zGY ?_ ?_ <;> (intro _hg; try (exfalso; omega)))|refine ak rfl ?_|refine r1Y ?_|fail)) <;> (try clear zz)
  exact .int _ _
 have ix:=cT hk
 have i0:=r6 (l:=a) (by omega)
 have hs1:=ha.2 _ (aH hk)
 have hp:=jt (a.getD k default) hs1
 have hsp:=rg (a:=a) (k:=k)
 by_cases he:bg (a.getD k default) ≠ 0
 ·rw [if_pos he] at hsp
  rw [bG hk h2 (by rw [hsp]; exact he),hsp]
  have z:decide (bg (a.getD k default) ≠ 0)=true:=decide_eq_true he
  (have zz:=aI @ac (aI @ap (aI @ix @z)); repeat' (first|refine zW ?_|apply a_n|apply a_r|refine zO ?_|refine vY ?_|refine cY ?_ (hp:=hp) (hs:=by (first | refine ab ?_ rfl | apply ae); (repeat' (first | exact aa | apply am | apply af | exact ax _)); first | done | fail)|refine cTY ?_|(refine zGY ?_ ?_ <;> (intro _hg; try (exfalso; omega)))|refine ak rfl ?_|refine r1Y ?_|fail)) <;> (try clear zz)
  exact .int _ _
 rw [if_neg he] at hsp
 have he:=Decidable.of_not_not he
 rw [he] at hp
 have z:decide ((0:Int) ≠ 0)=false:=rfl
 by_cases hl:(a.getD k default).length ≠ (a.getD 0 default).length
 ·rw [if_pos hl] at hsp
  rw [bG hk h2 (by rw [hsp]; decide),hsp]
  have z1:decide (((a.getD k default).length:Int) ≠ (a.getD 0 default).length)=true:=decide_eq_true (by omega)
  (have zz:=aI @ac (aI @ap (aI @ix (aI @i0 (aI @z @z1)))); repeat' (first|refine zW ?_|apply a_n|apply a_r|refine zO ?_|refine vY ?_|refine cY ?_ (hp:=hp) (hs:=by (first | refine ab ?_ rfl | apply ae); (repeat' (first | exact aa | apply am | apply af | exact ax _)); first | done | fail)|refine cTY ?_|refine cFY ?_|(refine zGY ?_ ?_ <;> (intro _hg; try (exfalso; omega)))|refine ak rfl ?_|refine r1Y ?_|fail)) <;> (try clear zz)
  exact .int _ _
 rw [if_neg hl] at hsp
 have z1:decide (((a.getD k default).length:Int) ≠ (a.getD 0 default).length)=false:=decide_eq_false (by omega)
 by_cases hk0:0 < k
 rotate_left
 ·rw [if_neg (fun h=>hk0 h.1)] at hsp
  have zk:decide (0 < (k:Int))=false:=decide_eq_false (by omega)
  (have zz:=aI @ac (aI @ap (aI @ix (aI @i0 (aI @z (aI @z1 @zk))))); repeat' (first|refine zW ?_|apply a_n|refine zO ?_|refine vY ?_|refine cY ?_ (hp:=hp) (hs:=by (first | refine ab ?_ rfl | apply ae); (repeat' (first | exact aa | apply am | apply af | exact ax _)); first | done | fail)|refine gFY ?_|refine cFY ?_|(refine zGY ?_ ?_ <;> (intro _hg; try (exfalso; omega)))|fail)) <;> (try clear zz)
  exact ⟨k + 1,⟨by omega,fun i hi=>by
   rcases Nat.lt_succ_iff_lt_or_eq.1 hi with h' | rfl
   ·exact h2 i h'
   ·exact hsp⟩,by omega,ag0,rfl,rfl⟩
 have zk:decide (0 < (k:Int))=true:=decide_eq_true (by omega)
 have iy:dt 1 (aq a) (.int .i64 ((k:Int) - 1))=some (.iptr [au (a.getD (k - 1) default)] 0):=by
  have:=cT (l:=a) (k:=k - 1) (by omega)
  rwa [show ((k - 1:Nat):Int)=(k:Int) - 1 by omega] at this
 have hcm:=dL (a.getD (k - 1) default) (a.getD k default) (ha.2 _ (aH (by omega))) hs1
 by_cases hv:0 ≤ aK (a.getD (k - 1) default) (a.getD k default)
 ·have z2:decide (0 ≤ aK (a.getD (k - 1) default) (a.getD k default))=true:=decide_eq_true hv
  rw [if_pos ⟨hk0,hv⟩] at hsp
  rw [bG hk h2 (by rw [hsp]; decide),hsp]
  (have zz:=aI @ac (aI @ap (aI @ix (aI @i0 (aI @iy (aI @z (aI @z1 (aI @zk @z2))))))); repeat' (first|refine zW ?_|apply a_n|apply a_r|refine zO ?_|refine vY ?_|refine cY ?_ (hp:=by first | exact hp | exact hcm) (hs:=by (first | refine ab ?_ rfl | apply ae); (repeat' (first | exact aa | apply am | apply af | exact ax _)); first | done | fail)|refine gTY ?_|refine cTY ?_|refine cFY ?_|(refine zGY ?_ ?_ <;> (intro _hg; try (exfalso; omega)))|refine ak rfl ?_|refine r1Y ?_|fail)) <;> (try clear zz)
  exact .int _ _
 ·have z2:decide (0 ≤ aK (a.getD (k - 1) default) (a.getD k default))=false:=decide_eq_false hv
  rw [if_neg (fun h=>hv h.2)] at hsp
  (have zz:=aI @ac (aI @ap (aI @ix (aI @i0 (aI @iy (aI @z (aI @z1 (aI @zk @z2))))))); repeat' (first|refine zW ?_|apply a_n|refine zO ?_|refine vY ?_|refine cY ?_ (hp:=by first | exact hp | exact hcm) (hs:=by (first | refine ab ?_ rfl | apply ae); (repeat' (first | exact aa | apply am | apply af | exact ax _)); first | done | fail)|refine gTY ?_|refine cFY ?_|(refine zGY ?_ ?_ <;> (intro _hg; try (exfalso; omega)))|fail)) <;> (try clear zz)
  exact ⟨k + 1,⟨by omega,fun i hi=>by
   rcases Nat.lt_succ_iff_lt_or_eq.1 hi with h' | rfl
   ·exact h2 i h'
   ·exact hsp⟩,by omega,ag0,rfl,rfl⟩
def iH:List (List Spx)→Int
 | []=>0
 | a :: l=>if cu a ≠ 0 then cu a else iH l
theorem pt {l:List (List Spx)} {k:Nat} (h:k < l.length):iH (l.drop k)=if cu (l.getD k default) ≠ 0 then cu (l.getD k default) else iH (l.drop (k + 1)):=by
 rw [fw h]; rfl
theorem wz (l:List (List Spx)) (hl:Shn l) (h:∀ a ∈ l,ShC a):Pure Try.prog 37 [fg l] (.int .i64 (iH l)):=by
 refine Pure.of_c2 follows AA (Nat.le_of_ble_eq_true rfl) ?_
 simp only [b37,cO,cG,cN,cM,cD,cF,cB,aB,aQ]
 have hl':l.length ≤ 17592186044416:=hl
 (have zz:=@nc; repeat' (first|refine zW ?_|apply a_n|refine zO ?_|refine vZ ?_|fail)) <;> (try clear zz)
 refine mM (X:=Nat) (fun k=>[(6,fg l),(7,.int .i64 l.length),(8,.int .i64 k)]) (fun k=>k ≤ l.length∧iH (l.drop k)=iH l) (fun k=>l.length - k) 0 ⟨Nat.zero_le _,rfl⟩ ag0 ?_
 rintro k ⟨h1,h2⟩
 by_cases hk:k < l.length
 rotate_left
 ·rw [← h2,List.drop_of_length_le (by omega)]
  (have zz:=and_self; repeat' (first|refine zW ?_|apply a_n|apply a_x|refine zO ?_|refine vY ?_|(refine zGY ?_ ?_ <;> (intro _hg; try (exfalso; omega)))|refine ak rfl ?_|refine r1Y ?_|fail)) <;> (try clear zz)
  exact .int _ _
 have ix:=AC hk
 have hc:=ju _ (h _ (aH hk))
 rw [pt hk] at h2
 generalize l.getD k default=a at *
 by_cases he:cu a=0
 rotate_left
 ·rw [if_pos he] at h2
  rw [← h2]
  have z:decide (cu a ≠ 0)=true:=decide_eq_true he
  (have zz:=aI @ix @z; repeat' (first|refine zW ?_|apply a_n|apply a_r|refine zO ?_|refine vY ?_|refine cY ?_ (hp:=hc) (hs:=by (first | refine ab ?_ rfl | apply ae); (repeat' (first | exact aa | apply am | apply af | exact aA _)); first | done | fail)|refine cTY ?_|(refine zGY ?_ ?_ <;> (intro _hg; try (exfalso; omega)))|refine ak rfl ?_|refine r1Y ?_|fail)) <;> (try clear zz)
  exact .int _ _
 ·rw [if_neg (fun q=>q he)] at h2
  rw [he] at hc
  have z:decide ((0:Int) ≠ 0)=false:=rfl
  (have zz:=aI @ix @z; repeat' (first|refine zW ?_|apply a_n|refine zO ?_|refine vY ?_|refine cY ?_ (hp:=hc) (hs:=by (first | refine ab ?_ rfl | apply ae); (repeat' (first | exact aa | apply am | apply af | exact aA _)); first | done | fail)|refine cFY ?_|(refine zGY ?_ ?_ <;> (intro _hg; try (exfalso; omega)))|fail)) <;> (try clear zz)
  exact ⟨k + 1,⟨by omega,h2⟩,by omega,ag0,rfl,rfl⟩
end Go.Proofs.Ytfcenbapjhecfaa
namespace Go.Proofs.Ytfcenbapjhecfaa
open Go Go.Abs
attribute [local irreducible] aD aj aX aP aG aL az aM aR bd Go.Abs.Fn aO Go.Abs.Pure aw aF Yl
end Go.Proofs.Ytfcenbapjhecfaa
namespace Go.Proofs.Ytfcenbapjhecfaa
open Go Go.Abs
theorem eD {x:Spx} {l:List Spx}:ir 1 (aq (x :: l)) (some (.int .i64 1)) none none=some (aq l):=fI (l:=x :: l) (k:=1) (by simp)
theorem qm {x:Spx} {l:List Spx}:dt 1 (aq (x :: l)) (.int .i64 0)=some (.iptr [au x] 0):=r6 (by simp)
attribute [local irreducible] aD aj aX aP aG aL az aM aR bd Go.Abs.Fn aO Go.Abs.Pure aw aF Yl
theorem uf (l:List Spx) (hl:l.length ≤ 100000) (hs:∀ x ∈ l,x.length ≤ 1000000):Pure Try.prog 58 [aq l] (aq l):=by
 refine Pure.of_c2 follows Az (Nat.le_of_ble_eq_true rfl) ?_
 simp only [b58,cO,cG,cN,cM,cD,cF,cB,aB,aQ]
 (have zz:=@ac; repeat' (first|refine zW ?_|apply a_n|refine zO ?_|refine vZ ?_|fail)) <;> (try clear zz)
 refine bb (X:=AV × Nat) (fun x=>[(3,x.1),(6,aq l),(7,.int .i64 l.length),(8,.int .i64 x.2)]) (fun x H nx=>x.2 ≤ l.length∧Row H 1 x.1 ((l.take x.2).map au)∧∀ b,bH x.1=some b→b < nx) (fun x=>l.length - x.2) (.esl,0) ⟨Nat.zero_le _,Row.nil,fun b hb=>(by cases hb)⟩ ag0 ?_
 rintro ⟨s,j⟩ H nx ⟨h1,h2,h3⟩
 dsimp only at h1 h2 h3 ⊢
 by_cases hj:j < l.length
 ·have hw:=aH hj
  have hcl:=ua _ (hs _ hw)
  have ix:=cT hj
  (have zz:=@ix; repeat' (first|refine zW ?_|apply a_n|refine zO ?_|refine vY ?_|(refine zGY ?_ ?_ <;> (intro _hg; try (exfalso; omega)))|fail)) <;> (try clear zz)
  refine bV ev0 ev0 hcl (an (ax _ _) aa) ?_
  (have zz:=aI @ay @av; repeat' (first|apply a_n|refine zO ?_|refine blY ?_|fail)) <;> (try clear zz)
  refine dC rfl ev0 (h2.same fun b hb=>?_) ev0 bF rfl rfl Nat.one_pos (by simp; omega) (by simp; omega) ?_
  ·have:=h3 b hb
   rw [ag (by omega)]
  rintro s2 E e hrow hle1 hle2 hsame hb2
  (have zz:=and_self; repeat' (first|apply a_n|refine zO ?_|refine vY ?_|fail)) <;> (try clear zz)
  refine ⟨(s2,j + 1),by dsimp only; omega,⟨by dsimp only; omega,?_,fun b hb=>?_⟩,ag0⟩
  ·dsimp only
   rw [rX hj,List.map_append]
   exact hrow
  ·rcases hb2 b hb with h | h
   ·have:=h3 b h; omega
   ·omega
 ·(have zz:=and_self; repeat' (first|refine zW ?_|apply a_n|apply a_x|refine zO ?_|refine vY ?_|(refine zGY ?_ ?_ <;> (intro _hg; try (exfalso; omega)))|refine ak rfl ?_|refine r1Y ?_|fail)) <;> (try clear zz)
  rw [List.take_of_length_le (by omega)] at h2
  exact ey h2
theorem n4 (l:List Spx) (hl:Shn l) (hs:∀ x ∈ l,x.length ≤ 1000000):Pure Try.prog 38 [aq l] (.tup [aq (if 4096 < l.length then [] else l),.int .i64 (if 4096 < l.length then 5 else 0)]):=by
 refine Pure.of_c2 follows Af (Nat.le_of_ble_eq_true rfl) ?_
 simp only [b38,cO,cG,cN,cM,cD,cF,cB,aB,aQ]
 have hl':l.length ≤ 17592186044416:=hl
 by_cases h:4096 < l.length
 ·have z:decide ((4096:Int) < l.length)=true:=decide_eq_true (by omega)
  rw [if_pos h,if_pos h]
  (have zz:=aI @ac @z; repeat' (first|refine zW ?_|apply a_n|apply a_r|refine zO ?_|refine vY ?_|refine cTY ?_|refine ak rfl ?_|refine r2Y ?_|fail)) <;> (try clear zz)
  exact bX (.eslsl _) rfl
 ·have z:decide ((4096:Int) < l.length)=false:=decide_eq_false (by omega)
  rw [if_neg h,if_neg h]
  have hc:=uf l (by omega) hs
  (have zz:=aI @ac @z; repeat' (first|refine zW ?_|apply a_n|refine zO ?_|refine vY ?_|refine cY ?_ (hp:=hc) (hs:=by (first | refine ab ?_ rfl | apply ae); (repeat' (first | exact aa | apply am | apply af | exact aA _)); first | done | fail)|refine cFY ?_|refine ak rfl ?_|refine r2Y ?_|fail)) <;> (try clear zz)
  exact bX (aA _).snap rfl
theorem xo (a b:List Spx) (ha:a.length ≤ 1000000∧∀ s ∈ a,Shn s) (hb:b.length ≤ 1000000∧∀ s ∈ b,Shn s):Pure Try.prog 39 [aq a,aq b,.func 40 []] (aq (cS aK a b)):=by
 refine Pure.of_c2 follows Bj (Nat.le_of_ble_eq_true rfl) ?_
 simp only [b39,cO,cG,cN,cM,cD,cF,cB,aB,aQ]
 (have zz:=and_self; repeat' (first|refine zW ?_|apply a_n|refine zO ?_|refine vZ ?_|fail)) <;> (try clear zz)
 refine bb (X:=List Spx × List Spx × List Spx × AV) (fun x=>[(0,aq x.1),(1,aq x.2.1),(2,.func 40 []),(7,x.2.2.2)]) (fun x H nx=>x.2.2.1.length + x.1.length + x.2.1.length ≤ a.length + b.length∧(∀ s ∈ x.1,Shn s)∧(∀ s ∈ x.2.1,Shn s)∧x.2.2.1 ++ cS aK x.1 x.2.1=cS aK a b∧Row H 1 x.2.2.2 (x.2.2.1.map au)∧∀ b,bH x.2.2.2=some b→b < nx) (fun x=>x.1.length + x.2.1.length) (a,b,[],.esl) ⟨by simp,ha.2,hb.2,rfl,Row.nil,fun b hb=>(by cases hb)⟩ ag0 ?_
 rintro ⟨a',b',D,sv⟩ H nx ⟨h2,ha2,hb2,h4,h5,h6⟩
 dsimp only at h2 ha2 hb2 h4 h5 h6 ⊢
 have key:∀ (x:Spx) {P:Program} {T:Tm} {dm:DM} {K:SP} {l:List Op2} {d:Option Nat} {s v:Opd},dm2 dm T (.app 1 24 s v)=true→ov T s=sv→ov T v=.msl nx 1 1 0 1 →
     (∀ (sv':AV) (H':Hp) (nx':Nat),Row H' 1 sv' ((D ++ [x]).map au)→(∀ b,bH sv'=some b→b < nx')→aj P dm l (aC T d sv') H' nx' K) →
     D.length ≤ 2000000→aj P dm (⟨d,none,.app 1 24 s v⟩ :: l) T (ar H nx [au x]) (nx + 1) K:=by
  intro x P T dm K l d s v k1 k2 k3 k4 k5
  refine dC k1 k2 (h5.same fun b hb=>?_) k3 bF rfl rfl Nat.one_pos (by rw [List.length_map]; omega) (by rw [List.length_map]; omega) ?_
  ·have:=h6 b hb
   rw [ag (by omega)]
  rintro s2 E e hrow hle1 hle2 hsame hb2
  refine k4 s2 E e (by rw [List.map_append]; exact hrow) fun b hb=>?_
  rcases hb2 b hb with h | h
  ·have:=h6 b h; omega
  ·omega
 match a',b',h2,ha2,hb2,h4 with
 | [],[],h2,ha2,hb2,h4 =>
  have al:bE (aq [])=some (.int .i64 0):=rfl
  (have zz:=@al; repeat' (first|refine zW ?_|apply a_n|apply a_x|refine zO ?_|refine vY ?_|refine gTY ?_|(refine zGY ?_ ?_ <;> (intro _hg; try (exfalso; omega)))|refine ak rfl ?_|refine r1Y ?_|fail)) <;> (try clear zz)
  rw [lV,List.append_nil] at h4
  rw [← h4]
  exact ey h5
 | x :: a2,[],h2,ha2,hb2,h4 =>
  have al:bE (aq [])=some (.int .i64 0):=rfl
  have al2:bE (aq (x :: a2))=some (.int .i64 ((a2.length:Int) + 1)):=by rw [ac,List.length_cons]; rfl
  have z1:decide ((0:Int) < (a2.length:Int) + 1)=true:=decide_eq_true (by omega)
  simp only [List.length_cons,List.length_nil] at h2
  (have zz:=aI @al (aI @al2 (aI @z1 (aI @qm (aI @eD (aI @ay @av))))); repeat' (first|refine zW ?_|apply a_n|refine zO ?_|refine vY ?_|refine blY ?_|refine gFY ?_|refine cTY ?_|(refine zGY ?_ ?_ <;> (intro _hg; try (exfalso; omega)))|fail)) <;> (try clear zz)
  refine key x rfl ev0 ev0 (fun s2 H2 nx2 r1 r2=>?_) (by omega)
  (have zz:=@eD; repeat' (first|apply a_n|refine zO ?_|refine vY ?_|fail)) <;> (try clear zz)
  exact ⟨(a2,[],D ++ [x],s2),by simp,⟨by simp; omega,fun s h=>ha2 s (List.mem_cons_of_mem _ h),hb2,by dsimp only; rw [o7,List.append_assoc]; rw [o7] at h4; exact h4,r1,r2⟩,ag0⟩
 | [],y :: b2,h2,ha2,hb2,h4 =>
  have al:bE (aq [])=some (.int .i64 0):=rfl
  have al2:bE (aq (y :: b2))=some (.int .i64 ((b2.length:Int) + 1)):=by rw [ac,List.length_cons]; rfl
  have z1:decide ((0:Int) < (b2.length:Int) + 1)=true:=decide_eq_true (by omega)
  have z2:decide ((b2.length:Int) + 1=0)=false:=decide_eq_false (by omega)
  simp only [List.length_cons,List.length_nil] at h2
  (have zz:=aI @al (aI @al2 (aI @z1 (aI @z2 (aI @qm (aI @eD (aI @ay @av)))))); repeat' (first|refine zW ?_|apply a_n|refine zO ?_|refine vY ?_|refine blY ?_|refine gTY ?_|refine cTY ?_|refine cFY ?_|(refine zGY ?_ ?_ <;> (intro _hg; try (exfalso; omega)))|fail)) <;> (try clear zz)
  refine key y rfl ev0 ev0 (fun s2 H2 nx2 r1 r2=>?_) (by omega)
  (have zz:=@eD; repeat' (first|apply a_n|refine zO ?_|refine vY ?_|fail)) <;> (try clear zz)
  exact ⟨([],b2,D ++ [y],s2),by simp,⟨by simp; omega,ha2,fun s h=>hb2 s (List.mem_cons_of_mem _ h),by dsimp only; rw [lV,List.append_assoc]; rw [lV] at h4; exact h4,r1,r2⟩,ag0⟩
 | x :: a2,y :: b2,h2,ha2,hb2,h4 =>
  have al1:bE (aq (x :: a2))=some (.int .i64 ((a2.length:Int) + 1)):=by rw [ac,List.length_cons]; rfl
  have al2:bE (aq (y :: b2))=some (.int .i64 ((b2.length:Int) + 1)):=by rw [ac,List.length_cons]; rfl
  have z1:decide ((0:Int) < (a2.length:Int) + 1)=true:=decide_eq_true (by omega)
  have z2:decide ((b2.length:Int) + 1=0)=false:=decide_eq_false (by omega)
  simp only [List.length_cons] at h2
  have hc:=dL x y (ha2 x List.mem_cons_self) (hb2 y List.mem_cons_self)
  rw [r8] at h4
  have hsw:=gU x y
  by_cases g1:aK x y < 0
  ·have z3:decide (aK x y < 0)=true:=decide_eq_true g1
   rw [if_pos g1] at h4
   (have zz:=aI @al1 (aI @al2 (aI @z1 (aI @z2 (aI @z3 (aI @qm (aI @eD (aI @ay @av))))))); repeat' (first|refine zW ?_|refine zM ?_|apply a_n|refine zO ?_|refine vY ?_|refine cY ?_ (hp:=hc) (hs:=by (first | refine ab ?_ rfl | apply ae); (repeat' (first | exact aa | apply am | apply af | exact ax _)); first | done | fail)|refine blY ?_|refine gFY ?_|refine cTY ?_|refine cFY ?_|fail)) <;> (try clear zz)
   refine key x rfl ev0 ev0 (fun s2 H2 nx2 r1 r2=>?_) (by omega)
   (have zz:=@eD; repeat' (first|apply a_n|refine zO ?_|refine vY ?_|fail)) <;> (try clear zz)
   exact ⟨(a2,y :: b2,D ++ [x],s2),by simp,⟨by simp; omega,fun s h=>ha2 s (List.mem_cons_of_mem _ h),hb2,by dsimp only; rw [List.append_assoc]; exact h4,r1,r2⟩,ag0⟩
  have z3:decide (aK x y < 0)=false:=decide_eq_false g1
  rw [if_neg g1] at h4
  by_cases g2:aK y x < 0
  ·have z4:decide (0 < aK x y)=true:=decide_eq_true (by omega)
   rw [if_pos g2] at h4
   (have zz:=aI @al1 (aI @al2 (aI @z1 (aI @z2 (aI @z3 (aI @z4 (aI @qm (aI @eD (aI @ay @av)))))))); repeat' (first|refine zW ?_|refine zM ?_|apply a_n|refine zO ?_|refine vY ?_|refine cY ?_ (hp:=hc) (hs:=by (first | refine ab ?_ rfl | apply ae); (repeat' (first | exact aa | apply am | apply af | exact ax _)); first | done | fail)|refine blY ?_|refine gFY ?_|refine cTY ?_|refine cFY ?_|fail)) <;> (try clear zz)
   refine key y rfl ev0 ev0 (fun s2 H2 nx2 r1 r2=>?_) (by omega)
   (have zz:=@eD; repeat' (first|apply a_n|refine zO ?_|refine vY ?_|fail)) <;> (try clear zz)
   exact ⟨(x :: a2,b2,D ++ [y],s2),by simp,⟨by simp; omega,ha2,fun s h=>hb2 s (List.mem_cons_of_mem _ h),by dsimp only; rw [List.append_assoc]; exact h4,r1,r2⟩,ag0⟩
  ·have z4:decide (0 < aK x y)=false:=decide_eq_false (by omega)
   rw [if_neg g2] at h4
   (have zz:=aI @al1 (aI @al2 (aI @z1 (aI @z2 (aI @z3 (aI @z4 (aI @qm (aI @eD (aI @ay @av)))))))); repeat' (first|refine zW ?_|refine zM ?_|apply a_n|refine zO ?_|refine vY ?_|refine cY ?_ (hp:=hc) (hs:=by (first | refine ab ?_ rfl | apply ae); (repeat' (first | exact aa | apply am | apply af | exact ax _)); first | done | fail)|refine gFY ?_|refine cTY ?_|refine cFY ?_|fail)) <;> (try clear zz)
   exact ⟨(a2,b2,D,sv),by simp; omega,⟨by simp; omega,fun s h=>ha2 s (List.mem_cons_of_mem _ h),fun s h=>hb2 s (List.mem_cons_of_mem _ h),h4,h5,h6⟩,ag0⟩
def ww (a b:List Spx):List Spx × Int:=if cu a ≠ 0 then ([],cu a) else if cu b ≠ 0 then ([],cu b) else if 0 < a.length∧0 < b.length∧(a.getD 0 default).length ≠ (b.getD 0 default).length then ([],15) else if 4096 < (cS aK a b).length then ([],5) else (cS aK a b,0)
theorem gm {a:List Spx} (h:∀ s ∈ a,bg s=0):∀ s ∈ a,Shn s:=fun s hs=>by have:=(cr (h s hs)).2.1; show _ ≤ _; omega
theorem qK {a:List Spx} (h:∀ s ∈ a,bg s=0):∀ s ∈ a,s.length ≤ 1000000:=fun s hs=>by have:=(cr (h s hs)).2.1; omega
theorem fx {H:Hp} {b:Nat} {x y:List Spx} (h:H b=some [aq x,aq y]):aF H [.msl b 2 1 0 2] [fg [x,y]] :=
 an (nH (l:=[aq x,aq y]) h rfl rfl (by
  intro z hz
  simp only [List.mem_cons,List.not_mem_nil,or_false] at hz
  rcases hz with rfl | rfl
  ·exact ⟨rfl,aA _⟩
  ·exact ⟨rfl,aA _⟩)) aa
theorem uH {a:List Spx} (h:cu a=0):a.length ≤ 1000000∧∀ s ∈ a,Shn s:=⟨by have:=(eS h).1; omega,gm (eS h).2.1⟩
theorem xl {a b:List Spx} (ha:cu a=0) (hb:cu b=0):∀ s ∈ cS aK a b,bg s=0:=uJ (eS ha).2.2.1 (eS hb).2.2.1 _ (eS ha).2.1 (eS hb).2.1
theorem xj (a b:List Spx) (ha:ShC a) (hb:ShC b):Pure Try.prog 12 [aq a,aq b] (.tup [aq (ww a b).1,.int .i64 (ww a b).2]):=by
 refine Pure.of_c2 follows A6 (Nat.le_of_ble_eq_true rfl) ?_
 simp only [b12,cO,cG,cN,cM,cD,cF,cB,aB,aQ]
 have f1:=wz [a,b] (show _ ≤ _ by simp) (fun x hx=>by
  rcases List.mem_cons.1 hx with rfl | hx
  ·exact ha
  ·rw [List.mem_singleton.1 hx]; exact hb)
 have ef:iH [a,b]=if cu a ≠ 0 then cu a else if cu b ≠ 0 then cu b else 0:=rfl
 rw [ef] at f1
 unfold ww
 by_cases h1:cu a=0
 rotate_left
 ·rw [if_pos h1]
  rw [if_pos h1] at f1
  have z:decide (cu a ≠ 0)=true:=decide_eq_true h1
  (have zz:=aI @ao @ai; repeat' (first|refine zW ?_|apply a_n|refine zO ?_|refine vY ?_|refine blY ?_|fail)) <;> (try clear zz)
  refine bL ev0 ev0 f1 (ab (fx (by rw [ah])) rfl) ?_
  (have zz:=@z; repeat' (first|refine zW ?_|apply a_n|apply a_r|refine zO ?_|refine vY ?_|refine cTY ?_|refine ak rfl ?_|refine r2Y ?_|fail)) <;> (try clear zz)
  exact bX (.eslsl _) rfl
 rw [if_neg (fun q=>q h1)]
 rw [if_neg (fun q=>q h1)] at f1
 by_cases h2:cu b=0
 rotate_left
 ·rw [if_pos h2]
  rw [if_pos h2] at f1
  have z:decide (cu b ≠ 0)=true:=decide_eq_true h2
  (have zz:=aI @ao @ai; repeat' (first|refine zW ?_|apply a_n|refine zO ?_|refine vY ?_|refine blY ?_|fail)) <;> (try clear zz)
  refine bL ev0 ev0 f1 (ab (fx (by rw [ah])) rfl) ?_
  (have zz:=@z; repeat' (first|refine zW ?_|apply a_n|apply a_r|refine zO ?_|refine vY ?_|refine cTY ?_|refine ak rfl ?_|refine r2Y ?_|fail)) <;> (try clear zz)
  exact bX (.eslsl _) rfl
 rw [if_neg (fun q=>q h2)]
 rw [if_neg (fun q=>q h2)] at f1
 have z:decide ((0:Int) ≠ 0)=false:=rfl
 have hm:=xo a b (uH h1) (uH h2)
 have hml:=sn (K:=aK) (a:=a) (b:=b)
 have h14:=(eS h1).1
 have h24:=(eS h2).1
 have hlim:=n4 (cS aK a b) (show _ ≤ _ by omega) (qK (xl h1 h2))
 have hfin:(if 4096 < (cS aK a b).length then (([]:List Spx),(5:Int)) else (cS aK a b,0))=(if 4096 < (cS aK a b).length then [] else cS aK a b,if 4096 < (cS aK a b).length then 5 else 0):=by
  split <;> rfl
 rw [hfin]
 generalize (if 4096 < (cS aK a b).length then ([]:List Spx) else cS aK a b)=L at *
 generalize (if 4096 < (cS aK a b).length then (5:Int) else 0)=E at *
 generalize cS aK a b=M at *
 by_cases h3:0 < a.length∧0 < b.length∧(a.getD 0 default).length ≠ (b.getD 0 default).length
 ·rw [if_pos h3]
  have i1:=r6 h3.1
  have i2:=r6 h3.2.1
  have z1:decide ((0:Int) < a.length)=true:=decide_eq_true (by omega)
  have z2:decide ((0:Int) < b.length)=true:=decide_eq_true (by omega)
  have z3:decide (((a.getD 0 default).length:Int) ≠ (b.getD 0 default).length)=true:=decide_eq_true (by omega)
  (have zz:=aI @ao @ai; repeat' (first|refine zW ?_|apply a_n|refine zO ?_|refine vY ?_|refine blY ?_|fail)) <;> (try clear zz)
  refine bL ev0 ev0 f1 (ab (fx (by rw [ah])) rfl) ?_
  (have zz:=aI @z (aI @z1 (aI @z2 (aI @z3 (aI @i1 (aI @i2 (aI @ac @ap)))))); repeat' (first|refine zW ?_|apply a_n|apply a_r|refine zO ?_|refine vY ?_|refine gTY ?_|refine cTY ?_|refine cFY ?_|refine ak rfl ?_|refine r2Y ?_|fail)) <;> (try clear zz)
  exact bX (.eslsl _) rfl
 ·rw [if_neg h3]
  have dc:Dat (AV.func 40 []):=Dat.func DatL.nil
  by_cases h4:0 < a.length
  ·have z1:decide ((0:Int) < a.length)=true:=decide_eq_true (by omega)
   by_cases h5:0 < b.length
   ·have i1:=r6 h4
    have i2:=r6 h5
    have z2:decide ((0:Int) < b.length)=true:=decide_eq_true (by omega)
    have z3:decide (((a.getD 0 default).length:Int) ≠ (b.getD 0 default).length)=false:=decide_eq_false (by omega)
    (have zz:=aI @ao @ai; repeat' (first|refine zW ?_|apply a_n|refine zO ?_|refine vY ?_|refine blY ?_|fail)) <;> (try clear zz)
    refine bL ev0 ev0 f1 (ab (fx (by rw [ah])) rfl) ?_
    (have zz:=aI @z (aI @z1 (aI @z2 (aI @z3 (aI @i1 (aI @i2 (aI @ac @ap)))))); repeat' (first|refine zW ?_|apply a_n|refine zO ?_|refine vY ?_|refine cY ?_ (hp:=by first | exact hm | exact hlim) (hs:=by (first | refine ab ?_ rfl | apply ae); (repeat' (first | exact aa | apply am | apply af | exact aA _ | exact dc)); first | done | fail)|refine gTY ?_|refine cFY ?_|refine ak rfl ?_|refine r2Y ?_|fail)) <;> (try clear zz)
    exact bX (aA _).snap rfl
   ·have z2:decide ((0:Int) < b.length)=false:=decide_eq_false (by omega)
    (have zz:=aI @ao @ai; repeat' (first|refine zW ?_|apply a_n|refine zO ?_|refine vY ?_|refine blY ?_|fail)) <;> (try clear zz)
    refine bL ev0 ev0 f1 (ab (fx (by rw [ah])) rfl) ?_
    (have zz:=aI @z (aI @z1 (aI @z2 (aI @ac @ap))); repeat' (first|refine zW ?_|apply a_n|refine zO ?_|refine vY ?_|refine cY ?_ (hp:=by first | exact hm | exact hlim) (hs:=by (first | refine ab ?_ rfl | apply ae); (repeat' (first | exact aa | apply am | apply af | exact aA _ | exact dc)); first | done | fail)|refine gTY ?_|refine gFY ?_|refine cFY ?_|refine ak rfl ?_|refine r2Y ?_|fail)) <;> (try clear zz)
    exact bX (aA _).snap rfl
  ·have z1:decide ((0:Int) < a.length)=false:=decide_eq_false (by omega)
   (have zz:=aI @ao @ai; repeat' (first|refine zW ?_|apply a_n|refine zO ?_|refine vY ?_|refine blY ?_|fail)) <;> (try clear zz)
   refine bL ev0 ev0 f1 (ab (fx (by rw [ah])) rfl) ?_
   (have zz:=aI @z (aI @z1 (aI @ac @ap)); repeat' (first|refine zW ?_|apply a_n|refine zO ?_|refine vY ?_|refine cY ?_ (hp:=by first | exact hm | exact hlim) (hs:=by (first | refine ab ?_ rfl | apply ae); (repeat' (first | exact aa | apply am | apply af | exact aA _ | exact dc)); first | done | fail)|refine gFY ?_|refine cFY ?_|refine ak rfl ?_|refine r2Y ?_|fail)) <;> (try clear zz)
   exact bX (aA _).snap rfl
end Go.Proofs.Ytfcenbapjhecfaa
namespace Go.Proofs.Ytfcenbapjhecfaa
open Go Go.Abs
section
variable {α:Type} [DecidableEq α] {K:α→α→Int}
theorem w9 (hK:LinK K) {a b:List α} (ha:bk K a) (hb:bk K b) (h:∀ x ∈ a,x ∈ b):a.Sublist b:=by
 have:a=b.filter fun x=>decide (x ∈ a):=by
  refine gY hK ha (List.Pairwise.sublist List.filter_sublist hb) fun x=>?_
  rw [List.mem_filter,decide_eq_true_eq]
  exact ⟨fun h'=>⟨h x h',h'⟩,And.right⟩
 rw [this]
 exact List.filter_sublist
end
section
variable {g:Vtx→Vtx}
end
end Go.Proofs.Ytfcenbapjhecfaa
namespace Go.Proofs.Ytfcenbapjhecfaa
open Go Go.Abs
open Nat (reduceEqDiff reduceAdd reduceLeDiff)
attribute [local irreducible] aD aj aX aP aG aL az aM aR bd Go.Abs.Fn aO Go.Abs.Pure aw aF Yl
theorem wk (l:List Spx) (k:Nat) (hl:l.length ≤ 50) (hs:∀ s ∈ l,bg s=0) (hk:1 ≤ k∧k ≤ 8):Pure Try.prog 81 [aq l,.int .i64 k] (.tup [aq (fK l k),.int .i64 0]):=by
 refine Pure.of_c2 follows Al (Nat.le_of_ble_eq_true rfl) ?_
 simp only [b81,cO,cG,cN,cM,cD,cF,cB,aB,aQ]
 have h8:∀ s ∈ l,s.length ≤ 8:=fun s h=>(cr (hs s h)).2.1
 have hgood:∀ s ∈ l.flatMap (fun s=>bn s k),gw s:=fun s h=>by
  obtain ⟨t,t1,t2⟩:=go.1 h
  exact vH (wM (hs t t1)) hk.1 t2
 have hfl:=eI (k:=k) h8
 have z0:decide ((0:Int) ≠ 0)=false:=rfl
 (have zz:=@ac; repeat' (first|refine zW ?_|apply a_n|refine zO ?_|refine vY ?_|fail)) <;> (try clear zz)
 refine xA ?_
 (have zz:=@ac; repeat' (first|refine zW ?_|apply a_n|refine zO ?_|refine vY ?_|fail)) <;> (try clear zz)
 refine bb (X:=Nat × AV × List Spx) (fun x=>[(1,.int .i64 k),(6,.mp 0),(7,x.2.1),(15,aq l),(16,.int .i64 l.length),(17,.int .i64 x.1)]) (fun x H nx=>x.1 ≤ l.length∧1 ≤ nx∧H 0=some [.omap ((x.2.2.map kK).map eK) (x.2.2.map fun _=>.bool true)]∧Row H 1 x.2.1 (x.2.2.map au)∧(∀ b,bH x.2.1=some b→1 ≤ b∧b < nx)∧x.2.2.Nodup∧∀ s,s ∈ x.2.2 ↔ s ∈ (l.take x.1).flatMap fun s=>bn s k) (fun x=>l.length - x.1) (0,.esl,[]) ⟨Nat.zero_le _,by omega,ah,Row.nil,fun b h=>(by cases h),List.nodup_nil,fun s=>by simp⟩ (by (iterate 6 refine And.intro rfl ?_); trivial) ?_
 rintro ⟨i,sv,O⟩ H nx ⟨h1,hnx,g0,hrow,hbd,hnd,hmem⟩
 dsimp only at h1 g0 hrow hbd hnd hmem ⊢
 obtain ⟨o1,o2⟩:=hrow.one
 by_cases hi:i < l.length
 rotate_left
 ·rw [List.take_of_length_le (by omega)] at hmem
  have hOl:O.length ≤ 3500:=by
   have:=List.Nodup.length_le_of_subset hnd (l₂:=l.flatMap fun s=>bn s k) (fun s h=>(hmem s).1 h)
   omega
  have hsort:Abs.Fn Try.prog 73 [sv,.func 40 []] H nx fun _ H' nx'=>Row H' 1 sv ((fK l k).map au):=by
   generalize hcs:O.map au=cs at hrow
   cases hrow with
   | nil =>
    have hO0:O=[]:=List.map_eq_nil_iff.1 hcs
    refine Abs.Fn.mono (jh rfl) ?_
    rintro _ _ _ ⟨rfl,rfl⟩
    have:fK l k=[]:=by
     unfold fK
     rw [qc,List.eq_nil_iff_forall_not_mem]
     intro s h
     have:=(hmem s).2 h
     rw [hO0] at this; cases this
    rw [this]; exact Row.nil
   | box b len cs k1 k2 =>
    obtain rfl:len=O.length:=by rw [← hcs,List.length_map] at k2; omega
    have hb:=hbd b rfl
    subst hcs
    by_cases h0:O.length=0
    ·have hO0:O=[]:=List.length_eq_zero_iff.1 h0
     subst hO0
     refine Abs.Fn.mono (jh rfl) ?_
     rintro _ _ _ ⟨rfl,rfl⟩
     have:fK l k=[]:=by
      unfold fK
      rw [qc,List.eq_nil_iff_forall_not_mem]
      intro s h
      have:=(hmem s).2 h
      cases this
     rw [this]; exact Row.box b 0 _ k1 rfl
    ·have hg:∀ s ∈ O,Shn s:=fun s h=>show s.length ≤ _ by have:=(hgood s ((hmem s).1 h)).2.1; omega
     have hsf:=ss yP (L:=O) (b:=b) (nx:=nx) (n:=O.length) k1 hb.2 rfl (by omega) hg (by omega)
     rw [Nat.mul_one]
     refine Abs.Fn.mono hsf ?_
     rintro _ H' nx' ⟨L',ps,p1,p2⟩
     have hlen:=p1.length_eq
     have:=kN p1 (by rw [hlen]; exact p2) hnd hmem
     unfold fK
     rw [← this,← hlen]
     have:=Row.box (H:=H') (sz:=1) b L'.length (L'.map au) ps.at_ (by simp)
     rwa [Nat.mul_one] at this
  (have zz:=and_self; repeat' (first|refine zW ?_|apply a_n|apply a_x|refine zO ?_|refine vY ?_|(refine zGY ?_ ?_ <;> (intro _hg; try (exfalso; omega)))|fail)) <;> (try clear zz)
  refine aU ev0 ev0 hsort ?_
  rintro r H' nx' hr
  (have zz:=aI @o1 @o2; repeat' (first|refine zW ?_|apply a_n|refine zO ?_|refine vY ?_|refine ak rfl ?_|refine r2Y ?_|fail)) <;> (try clear zz)
  exact bX (ey hr) rfl
 have ix:=cT hi
 have hft:=nO (k:=k) hi
 have hpm:∀ s ∈ (l.take (i + 1)).flatMap (fun s=>bn s k),s ∈ l.flatMap fun s=>bn s k:=fun s h=>by
  obtain ⟨t,t1,t2⟩:=go.1 h
  exact go.2 ⟨t,List.mem_of_mem_take t1,t2⟩
 have hsi:=hs _ (aH hi)
 have h8i:=h8 _ (aH hi)
 have hfx:=uV (l.getD i default) k (show _ ≤ _ by omega)
 have hfe:(l.getD i default).length < k ∨ lH (l.getD i default) k=(bn (l.getD i default) k,0):=by
  by_cases h:(l.getD i default).length < k
  ·exact .inl h
  ·refine .inr ?_
   unfold lH
   rw [if_neg (fun h=>h hsi),if_neg (by omega),Int.toNat_natCast]
 have hcar:∀ s ∈ bn (l.getD i default) k,gw s:=fun s h=>hgood s (hpm s (by rw [hft]; exact List.mem_append_right _ h))
 by_cases hlt:(l.getD i default).length < k
 ·have z:decide (((l.getD i default).length:Int) < k)=true:=decide_eq_true (by omega)
  rw [fR hlt,List.append_nil] at hft
  generalize l.getD i default=s at *
  (have zz:=aI @ap (aI @ix (aI @z (aI @o1 @o2))); repeat' (first|refine zW ?_|apply a_n|apply a_x|refine zO ?_|refine vY ?_|refine cTY ?_|(refine zGY ?_ ?_ <;> (intro _hg; try (exfalso; omega)))|fail)) <;> (try clear zz)
  exact ⟨(i + 1,sv,O),by dsimp only; omega,⟨by dsimp only; omega,hnx,g0,hrow,hbd,hnd,by dsimp only; rw [hft]; exact hmem⟩,ag0⟩
 have z:decide (((l.getD i default).length:Int) < k)=false:=decide_eq_false (by omega)
 rw [hfe.resolve_left hlt] at hfx
 clear hfe
 have hgP:∀ s ∈ (l.take i).flatMap (fun s=>bn s k),gw s:=fun s h=>hgood s (hpm s (by rw [hft]; exact List.mem_append_left _ h))
 have hPl:((l.take i).flatMap (fun s=>bn s k) ++ bn (l.getD i default) k).length ≤ 3500:=by
  rw [← hft]
  have:=eI (k:=k) (c:=l.take (i + 1)) (fun s h=>h8 s (List.mem_of_mem_take h))
  rw [List.length_take] at this; omega
 generalize l.getD i default=s at *
 generalize bn s k=R at *
 generalize (l.take i).flatMap (fun s=>bn s k)=P at *
 have hRl:R.length ≤ 3500:=by rw [List.length_append] at hPl; omega
 (have zz:=aI @ap (aI @ac (aI @ix (aI @z (aI @z0 (aI @o1 @o2))))); repeat' (first|refine zW ?_|apply a_n|refine zO ?_|refine vY ?_|refine cY ?_ (hp:=hfx) (hs:=by (first | refine ab ?_ rfl | apply ae); (repeat' (first | exact aa | apply am | apply af | exact ax _)); first | done | fail)|refine cFY ?_|(refine zGY ?_ ?_ <;> (intro _hg; try (exfalso; omega)))|fail)) <;> (try clear zz)
 refine bb (X:=Nat × AV × List Spx) (fun x=>[(1,.int .i64 k),(6,.mp 0),(7,x.2.1),(15,aq l),(16,.int .i64 l.length),(17,.int .i64 i),(34,aq R),(35,.int .i64 R.length),(36,.int .i64 x.1)]) (fun x H nx=>x.1 ≤ R.length∧1 ≤ nx∧H 0=some [.omap ((x.2.2.map kK).map eK) (x.2.2.map fun _=>.bool true)]∧Row H 1 x.2.1 (x.2.2.map au)∧(∀ b,bH x.2.1=some b→1 ≤ b∧b < nx)∧x.2.2.Nodup∧∀ s,s ∈ x.2.2 ↔ s ∈ P ++ R.take x.1) (fun x=>R.length - x.1) (0,sv,O) ⟨Nat.zero_le _,hnx,g0,hrow,hbd,hnd,by dsimp only; rw [List.take_zero,List.append_nil]; exact hmem⟩ ag0 ?_
 clear g0 hrow hbd hnd hmem hnx o1 o2
 rintro ⟨j,sv,O⟩ H nx ⟨j1,hnx,g0,hrow,hbd,hnd,hmem⟩
 dsimp only at j1 g0 hrow hbd hnd hmem ⊢
 obtain ⟨o1,o2⟩:=hrow.one
 have hOl:O.length ≤ 3500:=by
  have:=List.Nodup.length_le_of_subset hnd (l₂:=P ++ R.take j) (fun s h=>(hmem s).1 h)
  rw [List.length_append,List.length_take] at this
  rw [List.length_append] at hPl
  omega
 by_cases hj:j < R.length
 rotate_left
 ·rw [List.take_of_length_le (by omega)] at hmem
  have hls:bE sv=some (.int .i64 O.length):=hrow.lenS (by rw [List.length_map,Nat.mul_one]) Nat.one_pos
  have z1:decide ((4096:Int) < O.length)=false:=decide_eq_false (by omega)
  (have zz:=aI @hls (aI @z1 (aI @o1 @o2)); repeat' (first|refine zW ?_|apply a_n|apply a_x|refine zO ?_|refine vY ?_|refine cFY ?_|(refine zGY ?_ ?_ <;> (intro _hg; try (exfalso; omega)))|fail)) <;> (try clear zz)
  exact ⟨(i + 1,sv,O),by dsimp only; omega,⟨by dsimp only; omega,hnx,g0,hrow,hbd,hnd,by dsimp only; rw [hft]; exact hmem⟩,ag0⟩
 have iy:=cT hj
 have hgf:=hcar _ (aH hj)
 have hgO:∀ s ∈ O,gw s:=fun s h=>by
  rcases List.mem_append.1 ((hmem s).1 h) with h | h
  ·exact hgP s h
  ·exact hcar s (List.mem_of_mem_take h)
 have hkey:=wY (R.getD j default) hgf.1 hgf.2.1
 have hts:R.take (j + 1)=R.take j ++ [R.getD j default]:=b6 hj
 have hmf:=wq (kK (R.getD j default)) (O.map kK)
 have hmk:=yd hgO hgf
 generalize R.getD j default=f at *
 by_cases hf:f ∈ O
 ·rw [if_pos (hmk.2 hf)] at hmf
  have hlt2:(O.map kK).idxOf (kK f) < (O.map kK).length:=List.idxOf_lt_length_iff.2 (hmk.2 hf)
  have hgv:mget (.bool false) false (some ((O.map kK).idxOf (kK f))) (O.map fun _=>AV.bool true)=.bool true:=by
   rw [List.length_map] at hlt2
   simp [mget,List.getD,hlt2]
  (have zz:=aI @iy (aI @o1 @o2); repeat' (first|refine zW ?_|apply a_n|refine zO ?_|refine vY ?_|refine cY ?_ (hp:=hkey) (hs:=by (first | refine ab ?_ rfl | apply ae); (repeat' (first | exact aa | apply am | apply af | exact ax _)); first | done | fail)|(refine zGY ?_ ?_ <;> (intro _hg; try (exfalso; omega)))|fail)) <;> (try clear zz)
  refine ru ev0 g0 (by ((try simp only [bQ,ZA,reduceEqDiff,↓reduceIte,reduceAdd,reduceLeDiff]); (try with_reducible rfl)); rfl) (sP (kK f)) hmf ?_
  rw [hgv]
  (have zz:=aI @o1 @o2; repeat' (first|apply a_n|refine zO ?_|refine vY ?_|refine cFY ?_|fail)) <;> (try clear zz)
  refine ⟨(j + 1,sv,O),by dsimp only; omega,⟨by dsimp only; omega,hnx,g0,hrow,hbd,hnd,fun s=>?_⟩,ag0⟩
  dsimp only
  rw [hts,← List.append_assoc,List.mem_append,← hmem,List.mem_singleton]
  exact ⟨.inl,fun h=>h.elim id fun e=>by rw [e]; exact hf⟩
 ·rw [if_neg (fun h=>hf (hmk.1 h))] at hmf
  have hgv:mget (.bool false) false none (O.map fun _=>AV.bool true)=.bool false:=rfl
  (have zz:=aI @iy (aI @o1 @o2); repeat' (first|refine zW ?_|apply a_n|refine zO ?_|refine vY ?_|refine cY ?_ (hp:=hkey) (hs:=by (first | refine ab ?_ rfl | apply ae); (repeat' (first | exact aa | apply am | apply af | exact ax _)); first | done | fail)|(refine zGY ?_ ?_ <;> (intro _hg; try (exfalso; omega)))|fail)) <;> (try clear zz)
  refine ru ev0 g0 (by ((try simp only [bQ,ZA,reduceEqDiff,↓reduceIte,reduceAdd,reduceLeDiff]); (try with_reducible rfl)); rfl) (sP (kK f)) hmf ?_
  rw [hgv]
  (have zz:=aI @o1 @o2; repeat' (first|refine zW ?_|apply a_n|refine zO ?_|refine vY ?_|refine cY ?_ (hp:=hkey) (hs:=by (first | refine ab ?_ rfl | apply ae); (repeat' (first | exact aa | apply am | apply af | exact ax _)); first | done | fail)|refine cTY ?_|fail)) <;> (try clear zz)
  refine xT ev0 g0 (by ((try simp only [bQ,ZA,reduceEqDiff,↓reduceIte,reduceAdd,reduceLeDiff]); (try with_reducible rfl)); rfl) ev0 (sP (kK f)) hmf ?_
  (have zz:=aI @o1 (aI @o2 (aI @ay @av)); repeat' (first|apply a_n|refine zO ?_|refine vY ?_|refine blY ?_|fail)) <;> (try clear zz)
  refine dC rfl ev0 (hrow.same fun b hb=>?_) ev0 bF rfl rfl Nat.one_pos (by rw [List.length_map]; omega) (by rw [List.length_map]; omega) ?_
  ·have:=hbd b hb
   rw [ag (by omega),ag (by omega)]
  rintro s2 H2 nx2 hr2 i1 i2 i3 i4
  obtain ⟨o3,o4⟩:=hr2.one
  (have zz:=aI @o3 @o4; repeat' (first|apply a_n|refine zO ?_|refine vY ?_|fail)) <;> (try clear zz)
  refine ⟨(j + 1,s2,O ++ [f]),by dsimp only; omega,⟨by dsimp only; omega,by omega,?_,?_,fun b hb=>?_,?_,fun s=>?_⟩,ag0⟩
  ·rw [i3 0 (by omega) (fun h=>by have:=hbd 0 h; omega),ag (by omega),ah]
   simp [bu,dB]
  ·dsimp only
   rw [List.map_append]; exact hr2
  ·rcases i4 b hb with h | h
   ·have:=hbd b h; omega
   ·omega
  ·exact List.nodup_append.2 ⟨hnd,by simp,fun a ha c hc=>by simp at hc; subst hc; intro e; subst e; exact hf ha⟩
  ·dsimp only
   rw [hts,← List.append_assoc,List.mem_append,List.mem_append,← hmem]
end Go.Proofs.Ytfcenbapjhecfaa
namespace Go.Proofs.Ytfcenbapjhecfaa
open Go Go.Abs
theorem mz (K:Nat→Int):∀ n,(∀ i j,i < j→j < n→K j < 0→K i < 0)→∃ b,b ≤ n∧(∀ i,i < b→K i < 0)∧∀ i,b ≤ i→i < n→0 ≤ K i
 | 0,_=>⟨0,Nat.le_refl _,fun i h=>absurd h (by omega),fun i _ h=>absurd h (by omega)⟩
 | n + 1,hm=>by
  by_cases h:K n < 0
  ·refine ⟨n + 1,Nat.le_refl _,fun i hi=>?_,fun i h1 h2=>absurd h1 (by omega)⟩
   by_cases e:i=n
   ·subst e; exact h
   ·exact hm i n (by omega) (by omega) h
  ·obtain ⟨b,h1,h2,h3⟩:=mz K n (fun i j hi hj=>hm i j hi (by omega))
   refine ⟨b,by omega,h2,fun i hi hi2=>?_⟩
   by_cases e:i=n
   ·subst e; omega
   ·exact h3 i hi (by omega)
theorem xG {tb tf:Bool} {i j:Nat}:aW .shr tb tf (.int .u64 ((i:Int) + (j:Int))) (.int .u64 1)=some (.int .u64 (((i + j) / 2:Nat):Int)):=by
 have:=oI (k:=.u64) (a:=i + j) (b:=1) (tb:=tb) (tf:=tf) (k':=.u64) (by decide)
 simpa using this
attribute [local irreducible] aD aj aX aP aG aL az aM aR bd Go.Abs.Fn aO Go.Abs.Pure aw aF Yl
theorem jb (c:List Spx) (k:Int) (hc:c.length ≤ 50) (hs:∀ s ∈ c,Shn s):Pure Try.prog 56 [d9 c,.int .i64 k] (.tup [aq (bR c k).1,.int .i64 (bR c k).2]):=by
 refine Pure.of_c2 follows A8 (Nat.le_of_ble_eq_true rfl) ?_
 simp only [b56,cO,cG,cN,cM,cD,cF,cB,aB,aQ]
 have hcc:=mU c (show _ ≤ _ by omega) hs
 unfold bR
 by_cases he:a8 c=0
 rotate_left
 ·rw [if_pos he]
  have z:decide (a8 c ≠ 0)=true:=decide_eq_true he
  (have zz:=aI @ao (aI @ai @z); repeat' (first|refine zW ?_|apply a_n|apply a_r|refine zO ?_|refine vY ?_|refine cY ?_ (hp:=hcc) (hs:=by (first | refine ab ?_ rfl | apply ae); (repeat' (first | exact aa | apply am | apply af | exact bf _)); first | done | fail)|refine bxY ?_|refine cTY ?_|refine ak rfl ?_|refine r2Y ?_|fail)) <;> (try clear zz)
  exact bX (.eslsl _) rfl
 rw [if_neg (fun h=>h he)]
 rw [he] at hcc
 have z0:decide ((0:Int) ≠ 0)=false:=rfl
 obtain ⟨p1,p2,p3,p4⟩:=fG he
 by_cases hk:k < 1 ∨ 8 < k
 ·rw [if_pos hk]
  (have zz:=aI @ao (aI @ai @z0); repeat' (first|refine zW ?_|apply a_n|apply a_r|refine zO ?_|refine vY ?_|refine cY ?_ (hp:=hcc) (hs:=by (first | refine ab ?_ rfl | apply ae); (repeat' (first | exact aa | apply am | apply af | exact bf _)); first | done | fail)|refine bxY ?_|refine gTY ?_|refine gFY ?_|refine cTY ?_|refine cFY ?_|(refine zGY ?_ ?_ <;> (intro _hg; try (exfalso; omega)))|refine ak rfl ?_|refine r2Y ?_|fail)) <;> (try clear zz)
  all_goals first | exact bX (.eslsl _) rfl | (exfalso; omega)
 rw [if_neg hk]
 obtain ⟨n,rfl⟩:∃ n:Nat,k=n:=⟨k.toNat,by omega⟩
 rw [Int.toNat_natCast]
 have ha:=wk c n hc p2 ⟨by omega,by omega⟩
 (have zz:=aI @ao (aI @ai (aI @ac @z0)); repeat' (first|refine zW ?_|apply a_n|refine zO ?_|refine vY ?_|refine cY ?_ (hp:=by first | exact hcc | exact ha) (hs:=by (first | refine ab ?_ rfl | apply ae); (repeat' (first | exact aa | apply am | apply af | exact bf _ | exact aA _)); first | done | fail)|refine bxY ?_|refine gTY ?_|refine cFY ?_|(refine zGY ?_ ?_ <;> (intro _hg; try (exfalso; omega)))|refine ak rfl ?_|refine r2Y ?_|fail)) <;> (try clear zz)
 exact bX (aA _).snap rfl
theorem rm (l:List Spx) (v:Spx) (hl:Shn l) (hs:∀ c ∈ l,Shn c) (hv:Shn v) {b:Nat} (hb:b ≤ l.length) (h1:∀ i,i < b→aK (l.getD i default) v < 0) (h2:∀ i,b ≤ i→i < l.length→0 ≤ aK (l.getD i default) v) :
    Pure Try.prog 80 [aq l,au v,.func 40 []] (.tup [.int .i64 b,.bool (decide (b < l.length) && decide (aK (l.getD b default) v=0))]):=by
 refine Pure.of_c2 follows AQ (Nat.le_of_ble_eq_true rfl) ?_
 simp only [b80,cO,cG,cN,cM,cD,cF,cB,aB,aQ]
 have hl':l.length ≤ 17592186044416:=hl
 (have zz:=aI @ay (aI @av @ac); repeat' (first|refine zW ?_|apply a_n|refine zO ?_|refine vZ ?_|fail)) <;> (try clear zz)
 refine mM (X:=Nat × Nat) (fun x=>[(0,aq l),(1,au v),(2,.func 40 []),(8,.int .i64 l.length),(9,.int .i64 x.1),(10,.int .i64 x.2)]) (fun x=>x.1 ≤ b∧b ≤ x.2∧x.2 ≤ l.length) (fun x=>x.2 - x.1) (0,l.length) ⟨Nat.zero_le _,hb,Nat.le_refl _⟩ ag0 ?_
 rintro ⟨i,j⟩ ⟨g1,g2,g3⟩
 dsimp only at g1 g2 g3 ⊢
 by_cases hij:i < j
 ·have hh:(i + j) / 2 < l.length:=by omega
  have hc:=dL (l.getD ((i + j) / 2) default) v (hs _ (aH hh)) hv
  have ix:=cT hh
  by_cases hn:aK (l.getD ((i + j) / 2) default) v < 0
  ·have hbb:(i + j) / 2 < b:=Nat.lt_of_not_le fun h=>by have:=h2 _ h hh; omega
   (have zz:=aI @ay (aI @av (aI @ac (aI @eZ (aI @xG @ix)))); repeat' (first|refine zW ?_|apply a_n|refine zO ?_|refine vZ ?_|refine cZ ?_ (hp:=hc) (hs:=by (first | refine ab ?_ rfl | apply ae); (repeat' (first | exact aa | apply am | apply af | exact ax _)); first | done | fail)|(refine zGZ ?_ ?_ <;> (intro _hg; try (exfalso; omega)))|fail)) <;> (try clear zz)
   exact ⟨((i + j) / 2 + 1,j),⟨by omega,by omega,by omega⟩,by dsimp only; omega,ag0,rfl,rfl⟩
  ·have hbb:b ≤ (i + j) / 2:=Nat.le_of_not_lt fun h=>hn (h1 _ h)
   (have zz:=aI @ay (aI @av (aI @ac (aI @eZ (aI @xG @ix)))); repeat' (first|refine zW ?_|apply a_n|refine zO ?_|refine vZ ?_|refine cZ ?_ (hp:=hc) (hs:=by (first | refine ab ?_ rfl | apply ae); (repeat' (first | exact aa | apply am | apply af | exact ax _)); first | done | fail)|(refine zGZ ?_ ?_ <;> (intro _hg; try (exfalso; omega)))|fail)) <;> (try clear zz)
   exact ⟨(i,(i + j) / 2),⟨by omega,by omega,by omega⟩,by dsimp only; omega,ag0,rfl,rfl⟩
 ·have ei:i=b:=by omega
  have ej:j=b:=by omega
  clear hij g1 g2 g3
  subst ei
  by_cases hlt:i < l.length
  ·have hc:=dL (l.getD i default) v (hs _ (aH hlt)) hv
   have ix:=cT hlt
   have dlt:decide ((i:Int) < (l.length:Int))=true:=decide_eq_true (by omega)
   have dij:decide ((i:Int) < (j:Int))=false:=decide_eq_false (by omega)
   (have zz:=aI @ay (aI @av (aI @ac (aI @ix (aI @dlt @dij)))); repeat' (first|refine zW ?_|apply a_n|apply a_x|refine zO ?_|refine vZ ?_|refine cZ ?_ (hp:=hc) (hs:=by (first | refine ab ?_ rfl | apply ae); (repeat' (first | exact aa | apply am | apply af | exact ax _)); first | done | fail)|refine gTZ ?_|refine cFZ ?_|refine ak rfl ?_|refine r2Z ?_|fail)) <;> (try clear zz)
   refine d7 (an (.int _ _) (an (bm ?_) aa))
   rw [decide_eq_true hlt,Bool.true_and]
  ·have dlt:decide ((i:Int) < (l.length:Int))=false:=decide_eq_false (by omega)
   have dij:decide ((i:Int) < (j:Int))=false:=decide_eq_false (by omega)
   (have zz:=aI @ay (aI @av (aI @ac (aI @dlt @dij))); repeat' (first|refine zW ?_|apply a_n|apply a_x|refine zO ?_|refine vZ ?_|refine gFZ ?_|refine cFZ ?_|refine ak rfl ?_|refine r2Z ?_|fail)) <;> (try clear zz)
   refine d7 (an (.int _ _) (an (bm ?_) aa))
   rw [decide_eq_false hlt,Bool.false_and]
end Go.Proofs.Ytfcenbapjhecfaa
namespace Go.Proofs.Ytfcenbapjhecfaa
open Go Go.Abs
def d3 (l:List Nat):List Int:=l.map fun (n:Nat)=>(n:Int)
def fl (c:Int) (rows:List (List Int)):AV:=.agg [.int .i64 c,cC rows]
theorem iL (c:Int) (rows:List (List Int)):Dat (fl c rows):=Dat.agg (DatL.cons .int (DatL.cons (jz _) DatL.nil))
structure MatOk (H:Hp) (b lo hi n:Nat) (F:Nat→List Nat) (vs:List AV):Prop where
 box:H b=some vs
 len:vs.length=n
 row:∀ j,j < n→Row H 1 (vs.getD j .undef) ((F j).map l5)
 bnd:∀ j B,j < n→bH (vs.getD j .undef)=some B→lo ≤ B∧B < hi∧B ≠ b
 apart:∀ i j B,i < n→j < n→i ≠ j→bH (vs.getD i .undef)=some B→bH (vs.getD j .undef) ≠ some B
theorem MatOk.same {H H':Hp} {b lo hi hi' n:Nat} {F G:Nat→List Nat} {vs:List AV} (h:MatOk H b lo hi n F vs) (hb:H' b=H b) (hs:∀ x,lo ≤ x→x < hi→x ≠ b→H' x=H x) (hh:hi ≤ hi') (hG:∀ j,j < n→G j=F j):MatOk H' b lo hi' n G vs :=
 ⟨hb.trans h.box,h.len,fun j hj=>by rw [hG j hj]; exact (h.row j hj).same fun B hB=>by have:=h.bnd j B hj hB; exact hs B this.1 this.2.1 this.2.2,fun j B hj hB=>by have:=h.bnd j B hj hB; exact ⟨this.1,by omega,this.2.2⟩,h.apart⟩
theorem MatOk.put {H H':Hp} {b lo hi hi' n i x:Nat} {F G:Nat→List Nat} {vs:List AV} {sv:AV} (h:MatOk H b lo hi n F vs) (hin:i < n) (hG:∀ j,j < n→G j=if j=i then F j ++ [x] else F j) (hrow:Row H' 1 sv ((F i ++ [x]).map l5)) (hB:∀ B,bH sv=some B→bH (vs.getD i .undef)=some B ∨ hi ≤ B∧B < hi'∧B ≠ b) (hb:H' b=some (vs.set i sv))
    (hs:∀ x,lo ≤ x→x < hi→x ≠ b→bH (vs.getD i .undef) ≠ some x→H' x=H x) (hh:hi ≤ hi') (hlo:lo ≤ hi):MatOk H' b lo hi' n G (vs.set i sv):=by
 have hl:=h.len
 have hg:∀ j,(vs.set i sv).getD j .undef=if i=j then sv else vs.getD j .undef:=fun j=>kg (by omega)
 refine ⟨hb,by simp [hl],fun j hj=>?_,fun j B hj=>?_,fun p q B hp hq hpq=>?_⟩
 ·rw [hg,hG j hj]
  by_cases e:i=j
  ·rw [if_pos e,if_pos e.symm,← e]; exact hrow
  ·rw [if_neg e,if_neg (fun h=>e h.symm)]
   exact (h.row j hj).same fun B hB'=>by
    have:=h.bnd j B hj hB'
    exact hs B this.1 this.2.1 this.2.2 fun h'=>h.apart i j B hin hj e h' hB'
 ·rw [hg]
  by_cases e:i=j
  ·rw [if_pos e]
   intro hB'
   rcases hB B hB' with h' | h'
   ·have:=h.bnd _ B hin h'; exact ⟨this.1,by omega,this.2.2⟩
   ·exact ⟨by omega,h'.2⟩
  ·rw [if_neg e]
   intro hB'
   have:=h.bnd j B hj hB'
   exact ⟨this.1,by omega,this.2.2⟩
 ·rw [hg,hg]
  by_cases e1:i=p
  ·rw [if_pos e1,if_neg (by omega)]
   intro h1 h2
   rcases hB B h1 with h' | h'
   ·exact h.apart i q B hin hq (by omega) h' h2
   ·have:=h.bnd q B hq h2; omega
  ·rw [if_neg e1]
   by_cases e2:i=q
   ·rw [if_pos e2]
    intro h1 h2
    rcases hB B h2 with h' | h'
    ·exact h.apart p i B hp hin (by omega) h1 h'
    ·have:=h.bnd p B hp h1; omega
   ·rw [if_neg e2]; exact h.apart p q B hp hq hpq
theorem MatOk.snap {H:Hp} {b lo hi n:Nat} {F:Nat→List Nat} {vs:List AV} (h:MatOk H b lo hi n F vs):Snap H (.msl b n 1 0 n) (cC ((List.range n).map fun i=>d3 (F i))):=by
 refine gq (l:=((List.range n).map fun i=>d3 (F i)).map bq) h.box h.len (by omega) (by simp) (fun y hy=>?_) (fun i a c ha hc=>?_)
 ·obtain ⟨z,_,rfl⟩:=List.mem_map.1 hy; rfl
 ·have hin:i < n:=by
    have:=(List.getElem?_eq_some_iff.1 hc).1
    simpa using this
  have hr:=h.row i hin
  rw [Nat.zero_add] at ha
  have e1:vs.getD i .undef=a:=by rw [List.getD_eq_getElem?_getD,ha]; rfl
  rw [e1] at hr
  have e2:c=bq (d3 (F i)):=by
   rw [List.getElem?_map,List.getElem?_map,List.getElem?_range hin] at hc
   simpa using hc.symm
  rw [e2]
  exact sB hr
theorem MatOk.new {H:Hp} {b lo hi n:Nat} {F:Nat→List Nat} (hb:H b=some (List.replicate n .esl)) (hF:∀ j,j < n→F j=[]):MatOk H b lo hi n F (List.replicate n .esl):=by
 have hg:∀ j,j < n→(List.replicate n AV.esl).getD j .undef=.esl:=fun j hj=>by simp [List.getD,List.getElem?_replicate,hj]
 refine ⟨hb,by simp,fun j hj=>?_,fun j B hj h=>?_,fun i j B hi hj _ h=>?_⟩
 ·rw [hg j hj,hF j hj]; exact Row.nil
 ·rw [hg j hj] at h; cases h
 ·rw [hg i hi] at h; cases h
end Go.Proofs.Ytfcenbapjhecfaa
namespace Go.Proofs.Ytfcenbapjhecfaa
open Go Go.Abs
theorem g8 {H:Hp} {s:AV} {c:Int} {l:List (List Int)} {e f:Int} (h:Snap H s (cC l)) (he:e=f):Snap H (.tup [.agg [.int .i64 c,s],.int .i64 e]) (.tup [fl c l,.int .i64 f]):=by
 subst he; exact d7 (an (jx (an (.int _ _) (an h aa))) (an (.int _ _) aa))
theorem uI {c:List Spx} {k:Nat} {s:Spx}:s ∈ fK c k ↔ ∃ t ∈ c,s ∈ bn t k:=by
 unfold fK; rw [gC,go]
theorem vh {c:List Spx} {k:Nat}:bk aK (fK c k):=lN gH _
theorem uD {c:List Spx} {k:Nat} (h:c.length ≤ 50) (h8:∀ s ∈ c,s.length ≤ 8):(fK c k).length ≤ 3500:=Nat.le_trans mo (Nat.le_trans (eI h8) (by omega))
attribute [local irreducible] aD aj aX aP aG aL az aM aR bd Go.Abs.Fn aO Go.Abs.Pure aw aF Yl
end Go.Proofs.Ytfcenbapjhecfaa
namespace Go.Proofs.Ytfcenbapjhecfaa
open Go Go.Abs
def fcs (s:Spx):List Spx:=if s.length < 2 then [] else fc0 s
theorem lQ {s:Spx}:(fcs s).Perm (bw s):=by
 unfold fcs bw
 split
 ·exact List.Perm.refl _
 ·rename_i h
  exact (qw fun e=>by rw [e] at h; simp at h).symm
theorem sU {s f:Spx}:f ∈ fcs s ↔ f ∈ bw s:=lQ.mem_iff
theorem oT:∀ {s:Spx},(fc0 s).length=s.length
 | []=>rfl
 | x :: s=>by show ((fc0 s).map (x :: ·)).length + 1=_; rw [List.length_map,oT]; rfl
theorem sx:∀ {s:Spx} {i:Nat},i < s.length→(fc0 s).getD i default=s.take i ++ s.drop (i + 1)
 | [],_,h=>absurd h (by simp)
 | x :: s,0,_=>by simp [fc0]
 | x :: s,i + 1,h=>by
  have hi:i < s.length:=by simpa using h
  have:=sx hi
  show ((s :: (fc0 s).map (x :: ·)).getD (i + 1) default)=_
  have hl:i < (fc0 s).length:=by rw [oT]; exact hi
  simp only [List.getD,List.getElem?_cons_succ,List.getElem?_map,List.getElem?_eq_getElem hl,Option.map_some,Option.getD_some,List.take_succ_cons,List.drop_succ_cons,List.cons_append] at this ⊢
  rw [this]
theorem pn {s:Spx} (h:bk bt s):(bw s).Nodup:=(mR h).nodup gH
theorem um {s:Spx} (h:bk bt s):(fcs s).Nodup:=lQ.nodup_iff.2 (pn h)
def eV (X Y:List Spx) (n i:Nat):List Nat:=(List.range n).filter fun k=>decide (Y.getD i default ∈ bw (X.getD k default))
theorem nV {X Y:List Spx} {n i:Nat}:eV X Y (n + 1) i=eV X Y n i ++ if Y.getD i default ∈ bw (X.getD n default) then [n] else []:=by
 unfold eV
 rw [List.range_succ,List.filter_append]
 congr 1
 by_cases h:Y.getD i default ∈ bw (X.getD n default)
 ·rw [if_pos h,List.filter_cons_of_pos (by simpa using h)]; rfl
 ·rw [if_neg h,List.filter_cons_of_neg (by simpa using h)]; rfl
theorem lD {X Y:List Spx} {n i:Nat}:(eV X Y n i).length ≤ n:=by
 unfold eV
 exact Nat.le_trans (List.length_filter_le _ _) (by simp)
def pi (X Y:List Spx):List (List Int):=(List.range Y.length).map fun i=>d3 (eV X Y X.length i)
end Go.Proofs.Ytfcenbapjhecfaa
namespace Go.Proofs.Ytfcenbapjhecfaa
open Go Go.Abs
attribute [local irreducible] aD aj aX aP aG aL az aM aR bd Go.Abs.Fn aO Go.Abs.Pure aw aF Yl
end Go.Proofs.Ytfcenbapjhecfaa
namespace Go.Proofs.Ytfcenbapjhecfaa
open Go Go.Abs
open Nat (reduceEqDiff reduceAdd reduceLeDiff)
section
variable {P:Program} {T:Tm} {H:Hp} {nx:Nat}
theorem yJ {dm:DM} {K:SP} {l:List Op2} {d:Option Nat} {sz bytes:Nat} {z:List AV} {s x:Opd} {k:IntKind} {n:Int} (hd:dm2 dm T (.apz sz bytes z s x)=true) (hs:ov T s=.esl) (hx:ov T x=.int k n) (h0:0 < n) (h1:n ≤ 9223372036854775807) (h2:n.toNat * bytes ≤ 140737488355328)
    (kk:aj P dm l (aC T d (.msl nx (n.toNat * sz) sz 0 n.toNat)) (ar H nx (aY (.agg z) n.toNat)) (nx + 1) K):aj P dm (⟨d,none,.apz sz bytes z s x⟩ :: l) T H nx K:=by
 refine ip rfl hd ?_ kk
 simp only [eN,hs,hx]
 rw [if_pos ⟨h0,h1,h2⟩]
end
theorem wP (T:Tm) (H:Hp) (x:Opd):a6 T H (.capE x)=match ov T x with | .esl=>some (.int .i64 0) | _=>none:=rfl
theorem wC (n:Nat):(aY (.agg [.int .i64 0,.int .i64 0]) n).length=n * 2:=by simp [aY,AV.cells]
attribute [local irreducible] aD aj aX aP aG aL az aM aR bd Go.Abs.Fn aO Go.Abs.Pure aw aF Yl
theorem wr (n:Nat) (h0:0 < n) (h1:n ≤ 1000000) (H:Hp) (nx:Nat):Abs.Fn Try.prog 94 [.esl,.int .i64 n] H nx fun r H' nx'=>r=.msl nx (n * 2) 2 0 0∧H'=ar H nx (aY (.agg [.int .i64 0,.int .i64 0]) n)∧nx'=nx + 1:=by
 refine Abs.Fn.of_c2 follows Aw (Nat.le_of_ble_eq_true rfl) ?_
 simp only [b94,cO,cG,cN,cM,cD,cF,cB,aB,aQ]
 have z1:decide ((n:Int) < 0)=false:=decide_eq_false (by omega)
 have z2:decide ((0:Int) < n)=true:=decide_eq_true (by omega)
 have s2:ir 2 .esl none (some (.int .i64 0)) none=some .esl:=rfl
 have s3:=rp (B:=nx) (n:=n * 2) (len:=n) (k:=0) (by omega) (by omega)
 rw [show ((0:Nat):Int)=0 from rfl] at s3
 (have zz:=aI @z1 (aI @z2 (aI @s2 (aI @Int.sub_zero (aI @Int.sub_self @wP)))); repeat' (first|refine zW ?_|apply a_n|refine zO ?_|refine vY ?_|refine cTY ?_|refine cFY ?_|fail)) <;> (try clear zz)
 refine yJ rfl (have zz:=@s2; evY) ev0 (by omega) (by omega) (by omega) ?_
 (have zz:=@s3; repeat' (first|refine zW ?_|apply a_n|refine zO ?_|refine vY ?_|refine ak rfl ?_|refine r1Y ?_|fail)) <;> (try clear zz)
 exact ⟨rfl,rfl,rfl⟩
theorem o9 {c:List Spx} {k:Nat} (hk:k < c.length):(c.take (k + 1)).flatten=(c.take k).flatten ++ c.getD k default:=by
 rw [b6 hk,List.flatten_append]; simp
end Go.Proofs.Ytfcenbapjhecfaa