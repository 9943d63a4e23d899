/- Texts of this claim, one after the other: U9s, U10s, U11s, U12s, U13s, U2p, U3p, U4p, U5p, U6p, U7p, U8p, U10p, U12p, U13p, T106, T109, T110, T111, T112, T113, T107, T114, T115, T116, T117, T119, T124, T125, T120, T123, T126, T127, T128, T135, T136, T137, T129, T130, T131, T138, T170, T172, T132, T173, T151, T139, T140, T141, T142, T171, T134, T146, T174. -/
import Derived.Test.YtfcenbapjhecfaaXG4

set_option linter.unusedSimpArgs false
set_option linter.unusedVariables false
namespace Go.Proofs.Ytfcenbapjhecfaa
open Go Go.Abs
def iQ (x:Nat):Nat:=if x=0 then 0 else Nat.log2 x + 1
def lR:ByteArray:=ByteArray.mk (Array.mk [0,1,2,2,3,3,3,3,4,4,4,4,4,4,4,4,5,5,5,5,5,5,5,5,5,5,5,5,5,5,5,5,6,6,6,6,6,6,6,6,6,6,6,6,6,6,6,6,6,6,6,6,6,6,6,6,6,6,6,6,6,6,6,6,7,7,7,7,7,7,7,7,7,7,7,7,7,7,7,7,7,7,7,7,7,7,7,7,7,7,7,7,7,7,7,7,7,7,7,7,7,7,7,7,7,7,7,7,7,7,7,7,7,7,7,7,7,7,7,7,7,7,7,7,7,7,7,7,8,8,8,8,8,8,8,8,8,8,8,8,8,8,8,8,8,8,8,8,8,8,8,8,8,8,8,8,8,8,8,8,8,8,8,8,8,8,8,8,8,8,8,8,8,8,8,8,8,8,8,8,8,8,8,8,8,8,8,8,8,8,8,8,8,8,8,8,8,8,8,8,8,8,8,8,8,8,8,8,8,8,8,8,8,8,8,8,8,8,8,8,8,8,8,8,8,8,8,8,8,8,8,8,8,8,8,8,8,8,8,8,8,8,8,8,8,8,8,8,8,8,8,8,8,8,8,8])
theorem xU (x:Nat):x < 2 ^ iQ x:=by
 unfold iQ
 split
 ·omega
 ·exact Nat.lt_log2_self
theorem t8 {x:Nat} (h:0 < x):2 ^ iQ x ≤ 2 * x:=by
 unfold iQ
 rw [if_neg (by omega),Nat.pow_succ]
 have:=Nat.log2_self_le (n:=x) (by omega)
 omega
theorem rl {x:Nat} (hx:x < 256):iB (.str (ByteArray.mk (Array.mk [0,1,2,2,3,3,3,3,4,4,4,4,4,4,4,4,5,5,5,5,5,5,5,5,5,5,5,5,5,5,5,5,6,6,6,6,6,6,6,6,6,6,6,6,6,6,6,6,6,6,6,6,6,6,6,6,6,6,6,6,6,6,6,6,7,7,7,7,7,7,7,7,7,7,7,7,7,7,7,7,7,7,7,7,7,7,7,7,7,7,7,7,7,7,7,7,7,7,7,7,7,7,7,7,7,7,7,7,7,7,7,7,7,7,7,7,7,7,7,7,7,7,7,7,7,7,7,7,8,8,8,8,8,8,8,8,8,8,8,8,8,8,8,8,8,8,8,8,8,8,8,8,8,8,8,8,8,8,8,8,8,8,8,8,8,8,8,8,8,8,8,8,8,8,8,8,8,8,8,8,8,8,8,8,8,8,8,8,8,8,8,8,8,8,8,8,8,8,8,8,8,8,8,8,8,8,8,8,8,8,8,8,8,8,8,8,8,8,8,8,8,8,8,8,8,8,8,8,8,8,8,8,8,8,8,8,8,8,8,8,8,8,8,8,8,8,8,8,8,8,8,8,8,8,8,8]))) (.int .u8 (x:Nat))=some (.int .u8 (iQ x:Nat)):=by
 have h1:lR.size=256:=by decide +kernel
 have h2:∀ i:Fin 256,(lR[i.val]?.getD 0).toNat=iQ i.val:=by decide +kernel
 rw [SV2.2.2.2.2.2.2.2.2]
 have h3:=h2 ⟨x,hx⟩
 change (if 0 ≤ (x:Int)∧(x:Int) < lR.size then some (AV.int .u8 (lR[(x:Int).toNat]?.getD 0).toNat) else none)=_
 rw [if_pos ⟨by omega,by rw [h1]; omega⟩,Int.toNat_natCast]
 simp only at h3
 rw [h3]
theorem lL {x s k:Nat} (hk:k=iQ (x / 2 ^ s)) (h:0 < x / 2 ^ s):x < 2 ^ (k + s)∧2 ^ (k + s) ≤ 2 * x:=by
 subst hk
 have h1:=xU (x / 2 ^ s)
 have h2:=t8 h
 have hp:0 < 2 ^ s:=Nat.pow_pos (by omega)
 rw [Nat.pow_add]
 constructor
 ·have:=(Nat.div_lt_iff_lt_mul hp).1 h1
  exact this
 ·calc 2 ^ iQ (x / 2 ^ s) * 2 ^ s ≤ 2 * (x / 2 ^ s) * 2 ^ s:=Nat.mul_le_mul_right _ h2
    _=2 * (x / 2 ^ s * 2 ^ s):=by rw [Nat.mul_assoc]
    _ ≤ 2 * x:=Nat.mul_le_mul_left _ (Nat.div_mul_le_self x (2 ^ s))
theorem fN {x:Nat} (hx:x < 256):iQ x ≤ 8:=by
 rcases Nat.eq_zero_or_pos x with e | e
 ·subst e; decide
 ·have h:=t8 e
  rcases Nat.lt_or_ge 8 (iQ x) with h1 | h1
  ·have:=Nat.pow_le_pow_right (n:=2) (by omega) h1
   omega
  ·exact h1
theorem eY {x:Int} (h:0 ≤ x) (h2:x < 18446744073709551616):IntKind.wrap .u64 x=x:=by
 simp only [IntKind.bits,IntKind.wrap,IntKind.signed]; simp; omega
theorem ng {x:Int} (h:0 ≤ x) (h2:x < 256):IntKind.wrap .u8 x=x:=by
 simp only [IntKind.bits,IntKind.wrap,IntKind.signed]; simp; omega
def xr (a b:Int):Int:=IntKind.wrap .u64 (BitVec.ofInt 64 a ^^^ BitVec.ofInt 64 b).toNat
def zN (a:Int):Int:=IntKind.wrap .u64 (a * 2 ^ 13)
def An (a:Int):Int:=IntKind.wrap .u64 (a * 2 ^ 17)
def sr7 (a:Int):Int:=a.fdiv (2 ^ 7)
theorem SX:(∀ a b:Int,aX .xor false false (.int .u64 a) (.int .u64 b)=some (.int .u64 (xr a b)))∧(∀ a:Int,aX .shl false false (.int .u64 a) (.int .u64 13)=some (.int .u64 (zN a))) ∧
    (∀ a:Int,aX .shl false false (.int .u64 a) (.int .u64 17)=some (.int .u64 (An a)))∧(∀ a:Int,aX .shr false false (.int .u64 a) (.int .u64 7)=some (.int .u64 (sr7 a))) :=
 ⟨fun _ _=>rfl,fun _=>rfl,fun _=>rfl,fun _=>rfl⟩
attribute [irreducible] xr zN An sr7
attribute [local irreducible] aB ai aW aN aG aH ay aJ aO ba Go.Abs.Fn aM Go.Abs.Pure ar aE Yl
theorem y4 {H:Hp} {c nx:Nat} {s:Int} (hcc:H c=some [.int .u64 s]):Abs.Fn Try.prog 113 [.ptr c 1 0] H nx fun r H' nx'=>nx'=nx∧∃ s':Int,r=.int .u64 s'∧H'=aq H c [.int .u64 s']:=by
 refine Abs.Fn.of_c2 follows AU (Nat.le_of_ble_eq_true rfl) ?_
 simp only [zP,cO,cG,cN,cM,cD,cF,cB,aA,aR]
 have ls:∀ x y:AV,bo [x] 0 [y]=[y]:=fun _ _=>rfl
 simp only [bo,List.length_cons,List.length_nil,Nat.zero_add] at ls
 (have zz:=aI @hcc (aI @SV3 (aI @SX @ls)); repeat' (first|refine zW ?_|apply a_n|refine zO ?_|refine vZ ?_|refine stZ ?_|refine ak rfl ?_|refine r1Z ?_|fail)) <;> (try clear zz)
 exact ⟨rfl,_,rfl,by rw [aK,aK]; rfl⟩
set_option maxRecDepth 100000 in
theorem xS {H:Hp} {nx x:Nat} (hx:0 < x) (h2:x < 4294967296):Abs.Fn Try.prog 107 [.int .u64 x] H nx fun r H' nx'=>nx'=nx∧H'=H∧∃ k:Nat,r=.int .i64 k∧x < 2 ^ k∧2 ^ k ≤ 2 * x:=by
 refine Abs.Fn.of_c2 follows yk (Nat.le_of_ble_eq_true rfl) ?_
 delta y7 cO cG cN cM cD cF cB aA aR
 generalize hT:AV.str (ByteArray.mk (Array.mk [0,1,2,2,3,3,3,3,4,4,4,4,4,4,4,4,5,5,5,5,5,5,5,5,5,5,5,5,5,5,5,5,6,6,6,6,6,6,6,6,6,6,6,6,6,6,6,6,6,6,6,6,6,6,6,6,6,6,6,6,6,6,6,6,7,7,7,7,7,7,7,7,7,7,7,7,7,7,7,7,7,7,7,7,7,7,7,7,7,7,7,7,7,7,7,7,7,7,7,7,7,7,7,7,7,7,7,7,7,7,7,7,7,7,7,7,7,7,7,7,7,7,7,7,7,7,7,7,8,8,8,8,8,8,8,8,8,8,8,8,8,8,8,8,8,8,8,8,8,8,8,8,8,8,8,8,8,8,8,8,8,8,8,8,8,8,8,8,8,8,8,8,8,8,8,8,8,8,8,8,8,8,8,8,8,8,8,8,8,8,8,8,8,8,8,8,8,8,8,8,8,8,8,8,8,8,8,8,8,8,8,8,8,8,8,8,8,8,8,8,8,8,8,8,8,8,8,8,8,8,8,8,8,8,8,8,8,8,8,8,8,8,8,8,8,8,8,8,8,8,8,8,8,8,8,8]))=tb
 have htab:∀ x:Nat,x < 256→iB tb (.int .u8 (x:Nat))=some (.int .u8 (iQ x:Nat)):=fun x hx=>by rw [← hT]; exact rl hx
 clear hT
 have s16:∀ z:Nat,aX .shr false false (.int .u64 (z:Nat)) (.int .u64 16)=some (.int .u64 ((z / 2 ^ 16:Nat):Int)):=fun z=>pm (b:=16) (k:=.u64) (k':=.u64) (by decide)
 have s8:∀ z:Nat,aX .shr false false (.int .u64 (z:Nat)) (.int .u64 8)=some (.int .u64 ((z / 2 ^ 8:Nat):Int)):=fun z=>pm (b:=8) (k:=.u64) (k':=.u64) (by decide)
 by_cases h16:65536 ≤ x
 ·obtain ⟨y,hy⟩:∃ y,x / 2 ^ 16=y:=⟨_,rfl⟩
  have hy1:0 < y:=by omega
  have hy2:y < 65536:=by omega
  by_cases h8:256 ≤ y
  ·obtain ⟨z,hz⟩:∃ z,y / 2 ^ 8=z:=⟨_,rfl⟩
   have hz1:0 < z:=by omega
   have hz2:z < 256:=by omega
   have hl:=fN hz2
   have w8:IntKind.wrap .u8 (z:Int)=z:=ng (by omega) (by omega)
   have ht:=htab z hz2
   (have zz:=aI @s16 (aI @s8 (aI @hy (aI @hz (aI @w8 @ht)))); repeat' (first|refine zW ?_|apply a_n|refine zO ?_|refine vZ ?_|(refine zGZ ?_ ?_ <;> (intro _hg; try (exfalso; omega)))|refine ak rfl ?_|refine r1Z ?_|fail)) <;> (try clear zz)
   have e:x / 2 ^ 24=z:=by rw [← hz,← hy,Nat.div_div_eq_div_mul]
   exact ⟨rfl,rfl,iQ z + 24,by congr 1; omega,lL (by rw [e]) (by omega)⟩
  ·have hl:=fN (x:=y) (by omega)
   have w8:IntKind.wrap .u8 (y:Int)=y:=ng (by omega) (by omega)
   have ht:=htab y (by omega)
   (have zz:=aI @s16 (aI @s8 (aI @hy (aI @w8 @ht))); repeat' (first|refine zW ?_|apply a_n|refine zO ?_|refine vZ ?_|(refine zGZ ?_ ?_ <;> (intro _hg; try (exfalso; omega)))|refine ak rfl ?_|refine r1Z ?_|fail)) <;> (try clear zz)
   exact ⟨rfl,rfl,iQ y + 16,by congr 1; omega,lL (by rw [hy]) (by omega)⟩
 ·by_cases h8:256 ≤ x
  ·obtain ⟨z,hz⟩:∃ z,x / 2 ^ 8=z:=⟨_,rfl⟩
   have hz1:0 < z:=by omega
   have hz2:z < 256:=by omega
   have hl:=fN hz2
   have w8:IntKind.wrap .u8 (z:Int)=z:=ng (by omega) (by omega)
   have ht:=htab z hz2
   (have zz:=aI @s16 (aI @s8 (aI @hz (aI @w8 @ht))); repeat' (first|refine zW ?_|apply a_n|refine zO ?_|refine vZ ?_|(refine zGZ ?_ ?_ <;> (intro _hg; try (exfalso; omega)))|refine ak rfl ?_|refine r1Z ?_|fail)) <;> (try clear zz)
   exact ⟨rfl,rfl,iQ z + 8,by congr 1; omega,lL (by rw [hz]) (by omega)⟩
  ·have hl:=fN (x:=x) (by omega)
   have w8:IntKind.wrap .u8 (x:Int)=x:=ng (by omega) (by omega)
   have ht:=htab x (by omega)
   (have zz:=aI @w8 @ht; repeat' (first|refine zW ?_|apply a_n|refine zO ?_|refine vZ ?_|(refine zGZ ?_ ?_ <;> (intro _hg; try (exfalso; omega)))|refine ak rfl ?_|refine r1Z ?_|fail)) <;> (try clear zz)
   exact ⟨rfl,rfl,iQ x + 0,by congr 1; omega,lL (s:=0) (by simp) (by simpa using hx)⟩
theorem yt {H:Hp} {nx x:Nat} (hx:0 < x) (h2:x < 4294967296):Abs.Fn Try.prog 90 [.int .u64 x] H nx fun r H' nx'=>nx'=nx∧H'=H∧∃ k:Nat,r=.int .i64 k∧x < 2 ^ k∧2 ^ k ≤ 2 * x:=by
 refine Abs.Fn.of_c2 follows Az (Nat.le_of_ble_eq_true rfl) ?_
 simp only [b90,cO,cG,cN,cM,cD,cF,cB,aA,aR]
 (have zz:=and_self; repeat' (first|refine zW ?_|apply a_n|refine zO ?_|refine vZ ?_|refine cFZ ?_|fail)) <;> (try clear zz)
 refine aV ev0 ev0 (xS hx h2) ?_
 rintro _ _ _ ⟨rfl,rfl,k,rfl,h3,h4⟩
 (have zz:=and_self; repeat' (first|apply a_n|refine zO ?_|refine vZ ?_|refine ak rfl ?_|refine r1Z ?_|fail)) <;> (try clear zz)
 exact ⟨rfl,rfl,k,rfl,h3,h4⟩
theorem yS {H:Hp} {nx x:Nat} (hx:0 < x) (h2:x ≤ 1000000000):Abs.Fn Try.prog 112 [.int .i64 x] H nx fun r H' nx'=>nx'=nx∧H'=H∧∃ k:Nat,r=.int .u64 ((2 ^ k:Nat):Int)∧x < 2 ^ k∧2 ^ k ≤ 2 * x:=by
 have w:IntKind.wrap .u64 (x:Int)=x:=eY (by omega) (by omega)
 refine Abs.Fn.of_c2 follows Af (Nat.le_of_ble_eq_true rfl) ?_
 simp only [Aa,cO,cG,cN,cM,cD,cF,cB,aA,aR]
 (have zz:=@w; repeat' (first|refine zW ?_|apply a_n|refine zO ?_|refine vZ ?_|fail)) <;> (try clear zz)
 refine aV ev0 (have zz:=@w; evZ) (yt hx (by omega)) ?_
 rintro _ _ _ ⟨rfl,rfl,k,rfl,h3,h4⟩
 have hk:k ≤ 62:=by
  rcases Nat.lt_or_ge 62 k with h | h
  ·have:=Nat.pow_le_pow_right (n:=2) (by omega) h
   omega
  ·exact h
 have sh:aX .shl false false (.int .u64 1) (.int .i64 (k:Int))=some (.int .u64 ((2 ^ k:Nat):Int)):=by
  have h:=xD (k:=.u64) (k':=.i64) (a:=1) (b:=k) (tb:=false) (tf:=false) (by show k ≤ 64; omega) (by show 1 * 2 ^ k < 2 ^ 63; omega)
  rw [Nat.one_mul] at h
  exact h
 (have zz:=@sh; repeat' (first|apply a_n|refine zO ?_|refine vZ ?_|refine ak rfl ?_|refine r1Z ?_|fail)) <;> (try clear zz)
 exact ⟨rfl,rfl,k,rfl,h3,h4⟩
end Go.Proofs.Ytfcenbapjhecfaa
namespace Go.Proofs.Ytfcenbapjhecfaa
open Go Go.Abs
open Nat (reduceEqDiff reduceAdd reduceLeDiff)
theorem w7 {a:Int} {m:Nat} (hm:m < 18446744073709551616):∃ r:Nat,aX .and false false (.int .u64 a) (.int .u64 (m:Nat))=some (.int .u64 (r:Nat))∧r ≤ m:=by
 refine ⟨(BitVec.ofInt 64 a).toNat &&& m,?_,Nat.and_le_right⟩
 show (if (IntKind.u64=IntKind.u64) then cJ .and .u64 a m else none)=_
 rw [if_pos rfl]
 have h:(BitVec.ofInt 64 a &&& BitVec.ofInt 64 (m:Int)).toNat=(BitVec.ofInt 64 a).toNat &&& m:=by
  rw [BitVec.toNat_and]
  congr 1
  simp [BitVec.toNat_ofInt]
  omega
 have h2:(BitVec.ofInt 64 a).toNat &&& m ≤ m:=Nat.and_le_right
 show some (AV.int .u64 (IntKind.wrap .u64 ((BitVec.ofInt 64 a &&& BitVec.ofInt 64 (m:Int)).toNat:Int)))=_
 rw [h,eY (by omega) (by omega)]
section
variable {α:Type} [Inhabited α] {f:α→AV} {K:α→α→Int} {G:α→Prop} {g:Nat} {caps:List AV}
attribute [local irreducible] aB ai aW aN aG aH ay aJ aO ba Go.Abs.Fn aM Go.Abs.Pure ar aE Yl
theorem xF (hc:Cmp Try.prog f K G g caps) {L:List α} {H:Hp} {b nx n a e:Nat} (hH:H b=some (L.map f)) (hbx:b < nx) (hn:L.length=n) (hae:a + 8 ≤ e) (hen:e ≤ n) (hn2:n ≤ 1000000000) :
    Abs.Fn Try.prog 100 [.msl b n 1 0 n,.int .i64 a,.int .i64 e,.func g caps] H nx fun r H' nx'=>nx'=nx + 1∧∃ L',H' b=some (L'.map f)∧(∀ i,i < nx→i ≠ b→H' i=H i)∧PermR a e L L':=by
 obtain ⟨l,rfl⟩:∃ l,e=a + l:=⟨e - a,by omega⟩
 have te:((a + l:Nat):Int) - (a:Int)=(l:Int):=by omega
 obtain ⟨w,hw⟩:∃ w,a + l / 4 * 2 - 1=w:=⟨_,rfl⟩
 have tq:aX .quo false false (.int .i64 (l:Int)) (.int .i64 4)=some (.int .i64 ((l / 4:Nat):Int)):=by
  rw [jm (by omega) (by omega) (by omega)]
  congr 2
 have w1:(a:Int) + ((l / 4:Nat):Int) * 2 - 1=(w:Int):=by omega
 have w2:(a:Int) + ((l / 4:Nat):Int) * 2 + 1=((w + 2:Nat):Int):=by omega
 have hbn:b ≠ nx:=by omega
 have wl:IntKind.wrap .u64 (l:Int)=l:=eY (by omega) (by omega)
 refine Abs.Fn.of_c2 follows Ac (Nat.le_of_ble_eq_true rfl) ?_
 simp only [Ae,cO,cG,cN,cM,cD,cF,cB,aA,aR]
 have ls:∀ x y:AV,bo [x] 0 [y]=[y]:=fun _ _=>rfl
 simp only [bo,List.length_cons,List.length_nil,Nat.zero_add] at ls
 (have zz:=aI @te (aI @wl @ls); repeat' (first|refine zW ?_|apply a_n|refine zO ?_|refine vZ ?_|refine alZ ?_|refine stZ ?_|(refine zGZ ?_ ?_ <;> (intro _hg; try (exfalso; omega)))|fail)) <;> (try clear zz)
 refine aV ev0 ev0 (yS (x:=l) (by omega) (by omega)) ?_
 rintro _ _ _ ⟨rfl,rfl,k,rfl,hk1,hk2⟩
 obtain ⟨p,hp⟩:∃ p,2 ^ k=p + 1:=⟨2 ^ k - 1,by omega⟩
 rw [hp] at hk1 hk2 ⊢
 (have zz:=aI @te (aI @tq @w1); repeat' (first|refine zW ?_|apply a_n|refine zO ?_|refine vZ ?_|fail)) <;> (try clear zz)
 have wm:IntKind.wrap .u64 (((p + 1:Nat):Int) - 1)=(p:Int):=by rw [eY (by omega) (by omega)]; omega
 refine bd (X:=Nat × List α) (fun x=>[(0,.msl b n 1 0 n),(1,.int .i64 a),(8,.int .i64 l),(9,.ptr nx 1 0),(10,.int .u64 ((p + 1:Nat):Int)),(11,.int .i64 (x.1:Nat))]) (fun x H' nxx=>w ≤ x.1∧x.1 ≤ w + 3∧H' b=some (x.2.map f)∧(∃ s,H' nx=some [.int .u64 s])∧(∀ i,i < nx→i ≠ b→H' i=H i)∧nxx=nx + 1∧PermR a (a + l) L x.2) (fun x=>w + 3 - x.1) (w,L) ⟨Nat.le_refl _,by dsimp only; omega,by dsimp only; rw [af hbn]; first | exact hH | (rw [af hbn]; exact hH),⟨_,ah⟩,fun i h1 h2=>by rw [af (by omega)]; first | rfl | exact af (by omega),rfl,.refl⟩ (by simp (disch:=omega) only [agr,ZG,reduceEqDiff,↓reduceIte,List.length_cons,List.length_nil,Nat.zero_add,true_and]) ?_
 rintro ⟨i,M⟩ H1 nxx ⟨h1,h2,hb1,⟨s,hs⟩,hfr,rfl,hp1⟩
 dsimp only at *
 have hl:M.length=n:=by rw [hp1.len,hn]
 by_cases hi:i=w + 3
 ·subst hi
  (have zz:=aI @tq @w2; repeat' (first|refine zW ?_|apply a_n|apply a_x|refine zO ?_|refine vZ ?_|(refine zGZ ?_ ?_ <;> (intro _hg; try (exfalso; omega)))|refine ak rfl ?_|fail)) <;> (try clear zz)
  exact ⟨rfl,M,hb1,hfr,hp1⟩
 have ti:((i:Nat):Int) + 1=((i + 1:Nat):Int):=by omega
 (have zz:=aI @tq @w2; repeat' (first|refine zW ?_|apply a_n|refine zO ?_|refine vZ ?_|(refine zGZ ?_ ?_ <;> (intro _hg; try (exfalso; omega)))|fail)) <;> (try clear zz)
 refine aV ev0 ev0 (y4 hs) ?_
 rintro _ _ _ ⟨rfl,s1,rfl,rfl⟩
 obtain ⟨r,hr1,hr2⟩:=w7 (a:=s1) (m:=p) (by omega)
 obtain ⟨H2,hH2⟩:∃ H2,aq H1 nx [.int .u64 s1]=H2:=⟨_,rfl⟩
 have hb2:H2 b=some (M.map f):=by rw [← hH2,af hbn]; exact hb1
 have hs2:H2 nx=some [.int .u64 s1]:=by rw [← hH2]; exact ah
 have hfr2:∀ i,i < nx→i ≠ b→H2 i=H i:=fun i k1 k2=>by rw [← hH2,af (by omega)]; exact hfr i k1 k2
 rw [hH2]
 clear hH2 hb1 hs hfr
 obtain ⟨z,hz,hzl⟩:∃ z:Nat,(if l ≤ r then (r:Int) - l else (r:Int))=(z:Int)∧z < l:=by
  split
  ·exact ⟨r - l,by omega,by omega⟩
  ·exact ⟨r,rfl,by omega⟩
 obtain ⟨M1,hl1,lm1,lm2⟩:=ca (f:=f) (M:=M) (i:=i) (j:=a + z) (by omega) (by omega)
 have lm3:=lm2
 simp only [bo,List.length_cons,List.length_nil,Nat.zero_add] at lm1 lm2
 by_cases hrl:l ≤ r
 ·rw [if_pos hrl] at hz
  (have zz:=aI @wm (aI @hr1 (aI @hz (aI @hb2 (aI @ti (aI @dR (aI hc.cells (aI hc.one (aI @lm1 @lm2)))))))); repeat' (first|refine zW ?_|apply a_n|refine zO ?_|refine vZ ?_|refine stZ ?_|(refine zGZ ?_ ?_ <;> (intro _hg; try (exfalso; omega)))|fail)) <;> (try clear zz)
  exact ⟨(i + 1,swp M i (a + z)),by dsimp only; omega,⟨by dsimp only; omega,by dsimp only; omega,by dsimp only; rw [aK,lm3,ah],⟨s1,by rw [aK,af (Ne.symm hbn)]; exact hs2⟩,fun i k1 k2=>by rw [aK,af k2]; exact hfr2 i k1 k2,rfl,hp1.trans (PermR.swap (by omega) (by omega) (by omega))⟩,ag0⟩
 ·rw [if_neg hrl] at hz
  have hz':r=z:=by omega
  subst hz'
  (have zz:=aI @wm (aI @hr1 (aI @hb2 (aI @ti (aI @dR (aI hc.cells (aI hc.one (aI @lm1 @lm2))))))); repeat' (first|refine zW ?_|apply a_n|refine zO ?_|refine vZ ?_|refine stZ ?_|(refine zGZ ?_ ?_ <;> (intro _hg; try (exfalso; omega)))|fail)) <;> (try clear zz)
  exact ⟨(i + 1,swp M i (a + r)),by dsimp only; omega,⟨by dsimp only; omega,by dsimp only; omega,by dsimp only; rw [aK,lm3,ah],⟨s1,by rw [aK,af (Ne.symm hbn)]; exact hs2⟩,fun i k1 k2=>by rw [aK,af k2]; exact hfr2 i k1 k2,rfl,hp1.trans (PermR.swap (by omega) (by omega) (by omega))⟩,ag0⟩
end
end Go.Proofs.Ytfcenbapjhecfaa
namespace Go.Proofs.Ytfcenbapjhecfaa
open Go Go.Abs
structure PS (H H1:Hp) (nx n1 b:Nat) (cs:List AV):Prop where
 at_:H1 b=some cs
 fr:∀ i,i < nx→i ≠ b→H1 i=H i
 le:nx ≤ n1
section
variable {H H1 H2:Hp} {nx n1 n2 b:Nat} {cs cs':List AV}
theorem PS.upd (h:PS H H1 nx n1 b cs):PS H (aq H1 b cs') nx n1 b cs':=⟨ah,fun i k1 k2=>by rw [af k2]; exact h.fr i k1 k2,h.le⟩
theorem PS.new {v:List AV} (hb:b < nx) (h:PS H H1 nx n1 b cs):PS H (aq H1 n1 v) nx (n1 + 1) b cs :=
 have h1:=h.le
 ⟨by rw [af (by omega)]; exact h.at_,fun i k1 k2=>by rw [af (by omega)]; exact h.fr i k1 k2,by omega⟩
theorem PS.rec_ (h:PS H H1 nx n1 b cs) (h1:H2 b=some cs') (h2:∀ i,i < n1→i ≠ b→H2 i=H1 i) (h3:n1 ≤ n2):PS H H2 nx n2 b cs' :=
 have h4:=h.le
 ⟨h1,fun i k1 k2=>by rw [h2 i (by omega) k2]; exact h.fr i k1 k2,by omega⟩
end
section
variable {α:Type} [Inhabited α] {f:α→AV} {K:α→α→Int} {G:α→Prop} {g:Nat} {caps:List AV}
structure PI {α:Type} [Inhabited α] (K:α→α→Int) (a e:Nat) (L:List α) (a1 e1:Nat) (M:List α):Prop where
 lo:a ≤ a1
 mid:a1 ≤ e1
 hi:e1 ≤ e
 len:e ≤ L.length
 perm:PermR a e L M
 low:n5 K a1 e1 M
 close:∀ N,PermR a1 e1 M N→aZ K a1 e1 N→aZ K a e N
variable {a e a1 e1:Nat} {L M N:List α}
theorem PI.mlen (h:PI K a e L a1 e1 M):e1 ≤ M.length:=by rw [h.perm.len]; exact Nat.le_trans h.hi h.len
theorem PI.start (h1:a ≤ e) (h2:e ≤ L.length) (h3:n5 K a e L):PI K a e L a e L:=⟨Nat.le_refl _,h1,Nat.le_refl _,h2,.refl,h3,fun _ _ h=>h⟩
theorem PI.swap (h:PI K a e L a1 e1 M) (hp:PermR a1 e1 M N):PI K a e L a1 e1 N :=
 ⟨h.lo,h.mid,h.hi,h.len,h.perm.trans (hp.mono h.lo h.hi),h.low.perm hp h.mid h.mlen,fun N' k1 k2=>h.close N' (hp.trans k1) k2⟩
theorem PI.done (h:PI K a e L a1 e1 M) (hp:PermR a1 e1 M N) (hs:aZ K a1 e1 N):PermR a e L N∧aZ K a e N:=⟨h.perm.trans (hp.mono h.lo h.hi),h.close N hp hs⟩
theorem PI.equal {v:α} {m:Nat} (hK:Ord K) (h:PI K a e L a1 e1 M) (hp:PermR a1 e1 M N) (hv:¬ K (M.getD (a1 - 1) default) v < 0) (ha:0 < a1) (hm:a1 < m∧m ≤ e1) (h1:∀ p,a1 ≤ p→p < m→¬ K v (N.getD p default) < 0) (h2:∀ q,m ≤ q→q < e1→K v (N.getD q default) < 0):PI K a e L m e1 N:=by
 have hN:=h.swap hp
 have hlow:=hN.low
 have ho:N.getD (a1 - 1) default=M.getD (a1 - 1) default:=hp.out _ (.inl (by omega))
 refine ⟨by have:=h.lo; omega,hm.2,h.hi,h.len,hN.perm,fun q k0 k1 k2=>hK.negtr _ _ _ (h1 (m - 1) (by omega) (by omega)) (hK.asym _ _ (h2 q k1 k2)),fun N' k1 k2=>hN.close N' (k1.mono (by omega) (Nat.le_refl _)) (fun p q c1 c2 c3=>?_)⟩
 by_cases e1':m ≤ p
 ·exact k2 p q e1' c2 c3
 ·rw [k1.out p (.inl (by omega))]
  refine hK.negtr _ _ _ (h1 p c1 (by omega)) ?_
  by_cases e2:m ≤ q
  ·exact hK.asym _ _ (k1.all (p:=fun x=>K v x < 0) hm.2 hN.mlen h2 q e2 c3)
  ·rw [k1.out q (.inl (by omega))]
   exact hK.negtr _ _ _ hv (by rw [← ho]; exact hlow q ha (by omega) c3)
theorem aZ.glue {m:Nat} (hK:Ord K) (h1:aZ K a1 m N) (h2:aZ K (m + 1) e1 N) (h3:∀ p,a1 ≤ p→p < m→¬ K (N.getD m default) (N.getD p default) < 0) (h4:∀ q,m < q→q < e1→¬ K (N.getD q default) (N.getD m default) < 0):aZ K a1 e1 N:=fun p q k1 k2 k3=>by
 by_cases c1:q < m
 ·exact h1 p q k1 k2 c1
 ·by_cases c2:m < p
  ·exact h2 p q c2 k2 k3
  ·by_cases c3:p=m
   ·subst c3; exact h4 q (by omega) k3
   ·by_cases c4:q=m
    ·subst c4; exact h3 p k1 k2
    ·exact hK.negtr _ _ _ (h3 p k1 (by omega)) (h4 q (by omega) k3)
structure TwoS {α:Type} [Inhabited α] (K:α→α→Int) (a1 e1 m:Nat) (N:List α):Prop where
 mid:a1 ≤ m∧m < e1
 lt:∀ p,a1 ≤ p→p < m→¬ K (N.getD m default) (N.getD p default) < 0
 ge:∀ q,m < q→q < e1→¬ K (N.getD q default) (N.getD m default) < 0
theorem TwoS.left {m:Nat} {N':List α} (h:TwoS K a1 e1 m N) (hp:PermR a1 m N N') (hl:e1 ≤ N.length):TwoS K a1 e1 m N' :=
 have hm:=h.mid
 ⟨hm,by
  rw [hp.out m (.inr (Nat.le_refl _))]
  exact hp.all (p:=fun x=>¬ K (N.getD m default) x < 0) hm.1 (by omega) h.lt,fun q k1 k2=>by rw [hp.out m (.inr (Nat.le_refl _)),hp.out q (.inr (by omega))]; exact h.ge q k1 k2⟩
theorem TwoS.right {m:Nat} {N':List α} (h:TwoS K a1 e1 m N) (hp:PermR (m + 1) e1 N N') (hl:e1 ≤ N.length):TwoS K a1 e1 m N' :=
 have hm:=h.mid
 ⟨hm,fun p k1 k2=>by rw [hp.out m (.inl (by omega)),hp.out p (.inl (by omega))]; exact h.lt p k1 k2,by
  rw [hp.out m (.inl (by omega))]
  exact fun q k1 k2=>hp.all (p:=fun x=>¬ K x (N.getD m default) < 0) (by omega) hl (fun i c1 c2=>h.ge i (by omega) c2) q (by omega) k2⟩
theorem PI.left {m:Nat} (hK:Ord K) (h:PI K a e L a1 e1 M) (ht:TwoS K a1 e1 m M) (hp:PermR a1 m M N) (hs:aZ K a1 m N):PI K a e L (m + 1) e1 N:=by
 have hm:=ht.mid
 have hN:=h.swap (hp.mono (Nat.le_refl _) (by omega))
 have htN:=ht.left hp h.mlen
 refine ⟨by have:=h.lo; omega,by omega,h.hi,h.len,hN.perm,fun q k0 k1 k2=>by rw [Nat.add_sub_cancel]; exact htN.ge q k1 k2,fun N' k1 k2=>hN.close N' (k1.mono (by omega) (Nat.le_refl _)) ?_⟩
 have ht':=htN.right k1 hN.mlen
 exact aZ.glue hK (fun p q c1 c2 c3=>by rw [k1.out p (.inl (by omega)),k1.out q (.inl (by omega))]; exact hs p q c1 c2 c3) k2 ht'.lt ht'.ge
theorem PI.right {m:Nat} (hK:Ord K) (h:PI K a e L a1 e1 M) (ht:TwoS K a1 e1 m M) (hp:PermR (m + 1) e1 M N) (hs:aZ K (m + 1) e1 N):PI K a e L a1 m N:=by
 have hm:=ht.mid
 have hN:=h.swap (hp.mono (by omega) (Nat.le_refl _))
 have htN:=ht.right hp h.mlen
 refine ⟨h.lo,hm.1,by have:=h.hi; omega,h.len,hN.perm,fun q k0 k1 k2=>hN.low q k0 k1 (by omega),fun N' k1 k2=>hN.close N' (k1.mono (Nat.le_refl _) (by omega)) ?_⟩
 have ht':=htN.left k1 hN.mlen
 exact aZ.glue hK k2 (fun p q c1 c2 c3=>by rw [k1.out p (.inr (by omega)),k1.out q (.inr (by omega))]; exact hs p q c1 c2 c3) ht'.lt ht'.ge
theorem n5.sub {a e a' e':Nat} {M:List α} (h:n5 K a e M) (ha:a'=a) (he:e' ≤ e):n5 K a' e' M:=fun q k0 k1 k2=>by subst ha; exact h q k0 k1 (by omega)
end
end Go.Proofs.Ytfcenbapjhecfaa
namespace Go.Proofs.Ytfcenbapjhecfaa
open Go Go.Abs
section
variable {α:Type} [Inhabited α] {f:α→AV} {K:α→α→Int} {G:α→Prop} {g:Nat} {caps:List AV}
attribute [local irreducible] aB ai aW aN aG aH ay aJ aO ba Go.Abs.Fn aM Go.Abs.Pure ar aE Yl
theorem AI (hc:Cmp Try.prog f K G g caps) {b n:Nat} (hn2:n ≤ 1000000000):∀ (sz a e lim:Nat) (L:List α) (H:Hp) (nx:Nat),e - a < sz→H b=some (L.map f)→b < nx→L.length=n→(∀ x ∈ L,G x)→a ≤ e→e ≤ n→lim ≤ 64→n5 K a e L →
    Abs.Fn Try.prog 89 [.msl b n 1 0 n,.int .i64 a,.int .i64 e,.int .i64 lim,.func g caps] H nx fun r H' nx'=>∃ L',PS H H' nx nx' b (L'.map f)∧PermR a e L L'∧aZ K a e L':=by
 intro sz
 induction sz with
 | zero=>intro a e lim L H nx h; omega
 | succ sz ih =>
 intro a e lim L H nx hsz hH hbx hn hG hae hen hlim hlow
 have dcap:=hc.dcaps
 refine Abs.Fn.of_c2 follows Aj (Nat.le_of_ble_eq_true rfl) ?_
 simp only [b89,cO,cG,cN,cM,cD,cF,cB,aA,aR]
 (have zz:=and_self; repeat' (first|refine zW ?_|apply a_n|refine zO ?_|refine vZ ?_|fail)) <;> (try clear zz)
 refine bd (X:=Nat × Nat × Nat × Bool × Bool × List α) (fun x=>[(0,.msl b n 1 0 n),(1,.int .i64 (x.1:Nat)),(2,.int .i64 (x.2.1:Nat)),(3,.int .i64 (x.2.2.1:Nat)),(4,.func g caps),(10,.bool x.2.2.2.1),(11,.bool x.2.2.2.2.1)]) (fun x H' nxx=>PI K a e L x.1 x.2.1 x.2.2.2.2.2∧PS H H' nx nxx b (x.2.2.2.2.2.map f)∧x.2.2.1 ≤ 64) (fun x=>x.2.1 - x.1) (a,e,lim,true,true,L) ⟨.start hae (by rw [hn]; exact hen) hlow,⟨hH,fun _ _ _=>rfl,Nat.le_refl _⟩,hlim⟩ ag0 ?_
 clear hlim hlow lim
 rintro ⟨a1,e1,lim,wb,wp,M⟩ H1 n1 ⟨hpi,hps,hlim⟩
 dsimp only at *
 have hlo:=hpi.lo; have hmid:=hpi.mid; have hhi:=hpi.hi
 obtain ⟨l,hl0⟩:∃ l,e1 - a1=l:=⟨_,rfl⟩
 rw [hl0]
 have te:(e1:Int) - (a1:Int)=(l:Int):=by omega
 have hlen:∀ M:List α,PI K a e L a1 e1 M→M.length=n:=fun M h=>by rw [h.perm.len,hn]
 have hGA:∀ M:List α,PI K a e L a1 e1 M→∀ x ∈ M,G x:=fun M h=>h.perm.mem hG
 have hbn:∀ (M:List α) (H1:Hp) (n1:Nat),PS H H1 nx n1 b (M.map f)→b < n1:=fun M H1 n1 h=>by have:=h.le; omega
 obtain ⟨T,hT,t0,t1,t2,t3,t4,t10,t11⟩:∃ T,tl [(0,.msl b n 1 0 n),(1,.int .i64 (a1:Nat)),(2,.int .i64 (e1:Nat)),(3,.int .i64 (lim:Nat)),(4,.func g caps),(10,.bool wb),(11,.bool wp)]=T∧T 0=.msl b n 1 0 n∧T 1=.int .i64 (a1:Nat)∧T 2=.int .i64 (e1:Nat)∧T 3=.int .i64 (lim:Nat)∧T 4=.func g caps∧T 10=.bool wb∧T 11=.bool wp:=⟨_,rfl,rfl,rfl,rfl,rfl,rfl,rfl,rfl⟩
 rw [hT]
 clear hT
 refine fP ?_
 refine bv (fun T H'' nx''=>T 0=.msl b n 1 0 n∧T 1=.int .i64 (a1:Nat)∧T 2=.int .i64 (e1:Nat)∧T 3=.int .i64 (lim:Nat)∧T 4=.func g caps∧T 10=.bool wb∧T 11=.bool wp∧T 12=.int .i64 (l:Nat)∧H1=H''∧n1=nx'') ?_ ?_
 ·(have zz:=aI @t0 (aI @t1 (aI @t2 (aI @t3 (aI @t4 (aI @t10 (aI @t11 @te)))))); repeat' (first|apply a_n|refine zO ?_|refine vZ ?_|fail)) <;> (try clear zz)
  exact ⟨(have zz:=@t0; evZ),(have zz:=@t1; evZ),(have zz:=@t2; evZ),(have zz:=@t3; evZ),(have zz:=@t4; evZ),(have zz:=@t10; evZ),(have zz:=@t11; evZ),ev0,rfl,rfl⟩
 clear t0 t1 t2 t3 t4 t10 t11
 rintro T _ _ ⟨t0,t1,t2,t3,t4,t10,t11,t12,rfl,rfl⟩
 refine bv (fun T H'' nx''=>T 0=.msl b n 1 0 n∧T 1=.int .i64 (a1:Nat)∧T 2=.int .i64 (e1:Nat)∧T 3=.int .i64 (lim:Nat)∧T 4=.func g caps∧T 10=.bool wb∧T 11=.bool wp∧T 12=.int .i64 (l:Nat)∧13 ≤ l∧H1=H''∧n1=nx'') ?_ ?_
 ·by_cases h12:l ≤ 12
  ·(have zz:=aI @t0 (aI @t1 (aI @t2 (aI @t3 (aI @t4 (aI @t10 (aI @t11 @t12)))))); repeat' (first|refine zW ?_|apply a_n|refine zO ?_|refine vZ ?_|(refine zGZ ?_ ?_ <;> (intro _hg; try (exfalso; omega)))|fail)) <;> (try clear zz)
   refine aV ev0 (have zz:=aI @t0 (aI @t1 (aI @t2 (aI @t3 (aI @t4 (aI @t10 (aI @t11 @t12)))))); evZ) (Ai hc (b:=b) hps.at_ (hlen _ hpi) (hGA _ hpi) (a:=a1) (e:=e1) hmid (by omega) hn2) ?_
   rintro _ _ _ ⟨rfl,N,rfl,hpN,hsN⟩
   (have zz:=and_self; repeat' (first|apply a_n|apply a_r|refine zO ?_|refine ak rfl ?_|fail)) <;> (try clear zz)
   exact ⟨N,hps.upd,hpi.done hpN hsN⟩
  ·(have zz:=aI @t0 (aI @t1 (aI @t2 (aI @t3 (aI @t4 (aI @t10 (aI @t11 @t12)))))); repeat' (first|refine zW ?_|apply a_n|refine zO ?_|refine vZ ?_|(refine zGZ ?_ ?_ <;> (intro _hg; try (exfalso; omega)))|fail)) <;> (try clear zz)
   exact ⟨(have zz:=@t0; evZ),(have zz:=@t1; evZ),(have zz:=@t2; evZ),(have zz:=@t3; evZ),(have zz:=@t4; evZ),(have zz:=@t10; evZ),(have zz:=@t11; evZ),(have zz:=@t12; evZ),by omega,rfl,rfl⟩
 clear t0 t1 t2 t3 t4 t10 t11 t12
 rintro T _ _ ⟨t0,t1,t2,t3,t4,t10,t11,t12,h13,rfl,rfl⟩
 refine bv (fun T H'' nx''=>T 0=.msl b n 1 0 n∧T 1=.int .i64 (a1:Nat)∧T 2=.int .i64 (e1:Nat)∧T 3=.int .i64 (lim:Nat)∧T 4=.func g caps∧T 10=.bool wb∧T 11=.bool wp∧T 12=.int .i64 (l:Nat)∧0 < lim∧H1=H''∧n1=nx'') ?_ ?_
 ·by_cases h12:lim=0
  ·subst h12
   have tz:decide (((0:Nat):Int)=0)=true:=rfl
   (have zz:=aI @t0 (aI @t1 (aI @t2 (aI @t3 (aI @t4 (aI @t10 (aI @t11 (aI @t12 @tz))))))); repeat' (first|refine zW ?_|apply a_n|refine zO ?_|refine vZ ?_|refine cTZ ?_|fail)) <;> (try clear zz)
   refine aV ev0 (have zz:=aI @t0 (aI @t1 (aI @t2 (aI @t3 (aI @t4 (aI @t10 (aI @t11 @t12)))))); evZ) (yL hc (b:=b) hps.at_ (hlen _ hpi) (hGA _ hpi) (a:=a1) (e:=e1) hmid (by omega) hn2) ?_
   rintro _ _ _ ⟨rfl,N,rfl,hpN,hsN⟩
   (have zz:=and_self; repeat' (first|apply a_n|apply a_r|refine zO ?_|refine ak rfl ?_|fail)) <;> (try clear zz)
   exact ⟨N,hps.upd,hpi.done hpN hsN⟩
  ·have tz:decide ((lim:Int)=0)=false:=decide_eq_false (by omega)
   (have zz:=aI @t0 (aI @t1 (aI @t2 (aI @t3 (aI @t4 (aI @t10 (aI @t11 (aI @t12 @tz))))))); repeat' (first|refine zW ?_|apply a_n|refine zO ?_|refine vZ ?_|refine cFZ ?_|fail)) <;> (try clear zz)
   exact ⟨(have zz:=@t0; evZ),(have zz:=@t1; evZ),(have zz:=@t2; evZ),(have zz:=@t3; evZ),(have zz:=@t4; evZ),(have zz:=@t10; evZ),(have zz:=@t11; evZ),(have zz:=@t12; evZ),by omega,rfl,rfl⟩
 clear t0 t1 t2 t3 t4 t10 t11 t12
 rintro T _ _ ⟨t0,t1,t2,t3,t4,t10,t11,t12,hlim1,rfl,rfl⟩
 refine bv (fun T H'' nx''=>∃ (lim:Nat) (M:List α),lim ≤ 64∧PI K a e L a1 e1 M∧PS H H'' nx nx'' b (M.map f)∧T 0=.msl b n 1 0 n∧T 1=.int .i64 (a1:Nat)∧T 2=.int .i64 (e1:Nat)∧T 3=.int .i64 (lim:Nat)∧T 4=.func g caps∧T 10=.bool wb∧T 11=.bool wp∧T 12=.int .i64 (l:Nat)) ?_ ?_
 ·cases wb
  ·obtain ⟨k,rfl⟩:∃ k,lim=k + 1:=⟨lim - 1,by omega⟩
   have tk:((k + 1:Nat):Int) - 1=(k:Int):=by omega
   (have zz:=aI @t0 (aI @t1 (aI @t2 (aI @t3 (aI @t4 (aI @t10 (aI @t11 @t12)))))); repeat' (first|refine zW ?_|apply a_n|refine zO ?_|refine vZ ?_|refine cTZ ?_|fail)) <;> (try clear zz)
   refine aV ev0 (have zz:=aI @t0 (aI @t1 (aI @t2 (aI @t3 (aI @t4 (aI @t10 (aI @t11 @t12)))))); evZ) (xF hc (b:=b) hps.at_ (hbn _ _ _ hps) (hlen _ hpi) (a:=a1) (e:=e1) (by omega) (by omega) hn2) ?_
   rintro _ _ _ ⟨rfl,N,hN1,hN2,hpN⟩
   (have zz:=aI @t0 (aI @t1 (aI @t2 (aI @t3 (aI @t4 (aI @t10 (aI @t11 (aI @t12 @tk))))))); repeat' (first|apply a_n|refine zO ?_|refine vZ ?_|fail)) <;> (try clear zz)
   exact ⟨k,N,by omega,hpi.swap hpN,hps.rec_ hN1 hN2 (Nat.le_succ _),(have zz:=@t0; evZ),(have zz:=@t1; evZ),(have zz:=@t2; evZ),(have zz:=@t3; evZ),(have zz:=@t4; evZ),(have zz:=@t10; evZ),(have zz:=@t11; evZ),(have zz:=@t12; evZ)⟩
  ·(have zz:=aI @t0 (aI @t1 (aI @t2 (aI @t3 (aI @t4 (aI @t10 (aI @t11 @t12)))))); repeat' (first|refine zW ?_|apply a_n|refine zO ?_|refine vZ ?_|refine cFZ ?_|fail)) <;> (try clear zz)
   exact ⟨lim,M,hlim,hpi,hps,(have zz:=@t0; evZ),(have zz:=@t1; evZ),(have zz:=@t2; evZ),(have zz:=@t3; evZ),(have zz:=@t4; evZ),(have zz:=@t10; evZ),(have zz:=@t11; evZ),(have zz:=@t12; evZ)⟩
 clear t0 t1 t2 t3 t4 t10 t11 t12 hpi hps hlim hlim1
 rintro T H1 n1 ⟨lim,M,hlim,hpi,hps,t0,t1,t2,t3,t4,t10,t11,t12⟩
 refine bv (fun T H'' nx''=>∃ (p:Nat) (hint:Int),a1 ≤ p∧p < e1∧PS H H'' nx nx'' b (M.map f)∧T 0=.msl b n 1 0 n∧T 1=.int .i64 (a1:Nat)∧T 2=.int .i64 (e1:Nat)∧T 3=.int .i64 (lim:Nat)∧T 4=.func g caps∧T 10=.bool wb∧T 11=.bool wp∧T 12=.int .i64 (l:Nat)∧T 13=.int .i64 (p:Nat)∧T 14=.int .i64 hint) ?_ ?_
 ·(have zz:=aI @t0 (aI @t1 (aI @t2 (aI @t3 (aI @t4 (aI @t10 (aI @t11 @t12)))))); repeat' (first|apply a_n|refine zO ?_|refine vZ ?_|fail)) <;> (try clear zz)
  refine aV ev0 (have zz:=aI @t0 (aI @t1 (aI @t2 (aI @t3 (aI @t4 (aI @t10 (aI @t11 @t12)))))); evZ) (v6 hc (b:=b) hps.at_ (hbn _ _ _ hps) (hlen _ hpi) (hGA _ hpi) (a:=a1) (e:=e1) (by omega) (by omega) hn2) ?_
  rintro _ _ _ ⟨rfl,p,hint,v,rfl,hp1,hp2,rfl⟩
  (have zz:=aI @t0 (aI @t1 (aI @t2 (aI @t3 (aI @t4 (aI @t10 (aI @t11 @t12)))))); repeat' (first|apply a_n|refine zO ?_|refine vZ ?_|fail)) <;> (try clear zz)
  exact ⟨p,hint,hp1,hp2,hps.new hbx,(have zz:=@t0; evZ),(have zz:=@t1; evZ),(have zz:=@t2; evZ),(have zz:=@t3; evZ),(have zz:=@t4; evZ),(have zz:=@t10; evZ),(have zz:=@t11; evZ),(have zz:=@t12; evZ),ev0,ev0⟩
 clear t0 t1 t2 t3 t4 t10 t11 t12 hps
 rintro T H1 n1 ⟨p,hint,hp1,hp2,hps,t0,t1,t2,t3,t4,t10,t11,t12,t13,t14⟩
 refine bv (fun T H'' nx''=>∃ (p:Nat) (hint:Int) (M:List α),a1 ≤ p∧p < e1∧PI K a e L a1 e1 M∧PS H H'' nx nx'' b (M.map f)∧T 0=.msl b n 1 0 n∧T 1=.int .i64 (a1:Nat)∧T 2=.int .i64 (e1:Nat)∧T 3=.int .i64 (lim:Nat)∧T 4=.func g caps∧T 10=.bool wb∧T 11=.bool wp∧T 12=.int .i64 (l:Nat)∧T 13=.int .i64 (p:Nat)∧T 14=.int .i64 hint) ?_ ?_
 ·by_cases h2:hint=2
  ·subst h2
   obtain ⟨p2,hp3⟩:∃ p2,e1 - 1 - (p - a1)=p2:=⟨_,rfl⟩
   have tp:(e1:Int) - 1 - ((p:Int) - (a1:Int))=(p2:Int):=by omega
   have tz:decide ((2:Int)=2)=true:=rfl
   (have zz:=aI @t0 (aI @t1 (aI @t2 (aI @t3 (aI @t4 (aI @t10 (aI @t11 (aI @t12 (aI @t13 (aI @t14 @tz))))))))); repeat' (first|refine zW ?_|apply a_n|refine zO ?_|refine vZ ?_|(refine zGZ ?_ ?_ <;> (intro _hg; try (exfalso; omega)))|fail)) <;> (try clear zz)
   refine aV ev0 (have zz:=aI @t0 (aI @t1 (aI @t2 (aI @t3 (aI @t4 (aI @t10 (aI @t11 @t12)))))); evZ) (zV hc (b:=b) hps.at_ (hlen _ hpi) (a:=a1) (e:=e1) (by omega) (by omega) hn2) ?_
   rintro _ _ _ ⟨rfl,N,rfl,hpN⟩
   (have zz:=aI @t0 (aI @t1 (aI @t2 (aI @t3 (aI @t4 (aI @t10 (aI @t11 (aI @t12 (aI @t13 (aI @t14 @tp))))))))); repeat' (first|refine zW ?_|apply a_n|refine zO ?_|refine vZ ?_|fail)) <;> (try clear zz)
   exact ⟨p2,1,N,by omega,by omega,hpi.swap hpN,hps.upd,(have zz:=@t0; evZ),(have zz:=@t1; evZ),(have zz:=@t2; evZ),(have zz:=@t3; evZ),(have zz:=@t4; evZ),(have zz:=@t10; evZ),(have zz:=@t11; evZ),(have zz:=@t12; evZ),ev0,ev0⟩
  ·have tz:decide (hint=2)=false:=decide_eq_false h2
   (have zz:=aI @t0 (aI @t1 (aI @t2 (aI @t3 (aI @t4 (aI @t10 (aI @t11 (aI @t12 (aI @t13 (aI @t14 @tz))))))))); repeat' (first|refine zW ?_|apply a_n|refine zO ?_|refine vZ ?_|refine cFZ ?_|fail)) <;> (try clear zz)
   exact ⟨p,hint,M,hp1,hp2,hpi,hps,(have zz:=@t0; evZ),(have zz:=@t1; evZ),(have zz:=@t2; evZ),(have zz:=@t3; evZ),(have zz:=@t4; evZ),(have zz:=@t10; evZ),(have zz:=@t11; evZ),(have zz:=@t12; evZ),(have zz:=@t13; evZ),(have zz:=@t14; evZ)⟩
 clear t0 t1 t2 t3 t4 t10 t11 t12 t13 t14 hps hpi hp1 hp2
 rintro T H1 n1 ⟨p,hint,M,hp1,hp2,hpi,hps,t0,t1,t2,t3,t4,t10,t11,t12,t13,t14⟩
 refine bv (fun T H'' nx''=>∃ (M:List α),PI K a e L a1 e1 M∧PS H H'' nx nx'' b (M.map f)∧T 0=.msl b n 1 0 n∧T 1=.int .i64 (a1:Nat)∧T 2=.int .i64 (e1:Nat)∧T 3=.int .i64 (lim:Nat)∧T 4=.func g caps∧T 10=.bool wb∧T 11=.bool wp∧T 12=.int .i64 (l:Nat)∧T 13=.int .i64 (p:Nat)) ?_ ?_
 ·cases wb
  ·cases wp
   ·(have zz:=aI @t0 (aI @t1 (aI @t2 (aI @t3 (aI @t4 (aI @t10 (aI @t11 (aI @t12 (aI @t13 @t14)))))))); repeat' (first|refine zW ?_|apply a_n|refine zO ?_|refine vZ ?_|refine gFZ ?_|refine cFZ ?_|fail)) <;> (try clear zz)
    exact ⟨M,hpi,hps,(have zz:=@t0; evZ),(have zz:=@t1; evZ),(have zz:=@t2; evZ),(have zz:=@t3; evZ),(have zz:=@t4; evZ),(have zz:=@t10; evZ),(have zz:=@t11; evZ),(have zz:=@t12; evZ),(have zz:=@t13; evZ)⟩
   ·(have zz:=aI @t0 (aI @t1 (aI @t2 (aI @t3 (aI @t4 (aI @t10 (aI @t11 (aI @t12 (aI @t13 @t14)))))))); repeat' (first|refine zW ?_|apply a_n|refine zO ?_|refine vZ ?_|refine gFZ ?_|refine cFZ ?_|fail)) <;> (try clear zz)
    exact ⟨M,hpi,hps,(have zz:=@t0; evZ),(have zz:=@t1; evZ),(have zz:=@t2; evZ),(have zz:=@t3; evZ),(have zz:=@t4; evZ),(have zz:=@t10; evZ),(have zz:=@t11; evZ),(have zz:=@t12; evZ),(have zz:=@t13; evZ)⟩
  ·cases wp
   ·(have zz:=aI @t0 (aI @t1 (aI @t2 (aI @t3 (aI @t4 (aI @t10 (aI @t11 (aI @t12 (aI @t13 @t14)))))))); repeat' (first|refine zW ?_|apply a_n|refine zO ?_|refine vZ ?_|refine gTZ ?_|refine gFZ ?_|refine cFZ ?_|fail)) <;> (try clear zz)
    exact ⟨M,hpi,hps,(have zz:=@t0; evZ),(have zz:=@t1; evZ),(have zz:=@t2; evZ),(have zz:=@t3; evZ),(have zz:=@t4; evZ),(have zz:=@t10; evZ),(have zz:=@t11; evZ),(have zz:=@t12; evZ),(have zz:=@t13; evZ)⟩
   ·by_cases h1:hint=1
    ·subst h1
     have tz:decide ((1:Int)=1)=true:=rfl
     (have zz:=aI @t0 (aI @t1 (aI @t2 (aI @t3 (aI @t4 (aI @t10 (aI @t11 (aI @t12 (aI @t13 (aI @t14 @tz))))))))); repeat' (first|refine zW ?_|apply a_n|refine zO ?_|refine vZ ?_|refine gTZ ?_|(refine zGZ ?_ ?_ <;> (intro _hg; try (exfalso; omega)))|fail)) <;> (try clear zz)
     refine aV ev0 (have zz:=aI @t0 (aI @t1 (aI @t2 (aI @t3 (aI @t4 (aI @t10 (aI @t11 @t12)))))); evZ) (va hc (b:=b) hps.at_ (hlen _ hpi) (hGA _ hpi) (a:=a1) (e:=e1) (by omega) (by omega) hn2 hpi.low) ?_
     rintro _ _ _ ⟨rfl,N,t,rfl,rfl,hpN,hsN⟩
     cases t
     ·(have zz:=aI @t0 (aI @t1 (aI @t2 (aI @t3 (aI @t4 (aI @t10 (aI @t11 (aI @t12 (aI @t13 @t14)))))))); repeat' (first|apply a_n|refine zO ?_|refine cFZ ?_|fail)) <;> (try clear zz)
      exact ⟨N,hpi.swap hpN,hps.upd,(have zz:=@t0; evZ),(have zz:=@t1; evZ),(have zz:=@t2; evZ),(have zz:=@t3; evZ),(have zz:=@t4; evZ),(have zz:=@t10; evZ),(have zz:=@t11; evZ),(have zz:=@t12; evZ),(have zz:=@t13; evZ)⟩
     ·(have zz:=aI @t0 (aI @t1 (aI @t2 (aI @t3 (aI @t4 (aI @t10 (aI @t11 (aI @t12 (aI @t13 @t14)))))))); repeat' (first|apply a_n|apply a_r|refine zO ?_|refine cTZ ?_|refine ak rfl ?_|fail)) <;> (try clear zz)
      exact ⟨N,hps.upd,hpi.done hpN (hsN rfl)⟩
    ·have tz:decide (hint=1)=false:=decide_eq_false h1
     (have zz:=aI @t0 (aI @t1 (aI @t2 (aI @t3 (aI @t4 (aI @t10 (aI @t11 (aI @t12 (aI @t13 (aI @t14 @tz))))))))); repeat' (first|refine zW ?_|apply a_n|refine zO ?_|refine vZ ?_|refine gTZ ?_|refine cFZ ?_|fail)) <;> (try clear zz)
     exact ⟨M,hpi,hps,(have zz:=@t0; evZ),(have zz:=@t1; evZ),(have zz:=@t2; evZ),(have zz:=@t3; evZ),(have zz:=@t4; evZ),(have zz:=@t10; evZ),(have zz:=@t11; evZ),(have zz:=@t12; evZ),(have zz:=@t13; evZ)⟩
 clear t0 t1 t2 t3 t4 t10 t11 t12 t13 t14 hps hpi hint
 rintro T H1 n1 ⟨M,hpi,hps,t0,t1,t2,t3,t4,t10,t11,t12,t13⟩
 have hbb:=hps.at_
 have hl:=hlen _ hpi
 have hGM:=hGA _ hpi
 refine bv (fun T H'' nx''=>T 0=.msl b n 1 0 n∧T 1=.int .i64 (a1:Nat)∧T 2=.int .i64 (e1:Nat)∧T 3=.int .i64 (lim:Nat)∧T 4=.func g caps∧T 10=.bool wb∧T 11=.bool wp∧T 12=.int .i64 (l:Nat)∧T 13=.int .i64 (p:Nat)∧H1=H''∧n1=nx'') ?_ ?_
 ·by_cases ha0:a1=0
  ·have tz:decide ((0:Int) < (a1:Int))=false:=decide_eq_false (by omega)
   (have zz:=aI @t0 (aI @t1 (aI @t2 (aI @t3 (aI @t4 (aI @t10 (aI @t11 (aI @t12 (aI @t13 @tz)))))))); repeat' (first|refine zW ?_|refine zM ?_|apply a_n|refine zO ?_|refine vZ ?_|refine gFZ ?_|refine cFZ ?_|fail)) <;> (try clear zz)
   exact ⟨(have zz:=@t0; evZ),(have zz:=@t1; evZ),(have zz:=@t2; evZ),(have zz:=@t3; evZ),(have zz:=@t4; evZ),(have zz:=@t10; evZ),(have zz:=@t11; evZ),(have zz:=@t12; evZ),(have zz:=@t13; evZ),rfl,rfl⟩
  have tz:decide ((0:Int) < (a1:Int))=true:=decide_eq_true (by omega)
  obtain ⟨k,hk⟩:∃ k,a1 - 1=k:=⟨_,rfl⟩
  have tk:(a1:Int) - 1=(k:Int):=by omega
  have lc:=hc.run (M.getD k default) (M.getD p default) (hGM _ (aL (by omega))) (hGM _ (aL (by omega)))
  have d1:=hc.dat (M.getD k default)
  have d2:=hc.dat (M.getD p default)
  generalize hKK:K (M.getD k default) (M.getD p default)=kk at lc
  by_cases hlt:kk < 0
  ·(have zz:=aI @t0 (aI @t1 (aI @t2 (aI @t3 (aI @t4 (aI @t10 (aI @t11 (aI @t12 (aI @t13 (aI @tz (aI @tk (aI @hbb (aI @Int.toNat_natCast (aI hc.cells hc.one))))))))))))); repeat' (first|refine zW ?_|refine zM ?_|apply a_n|refine zO ?_|refine vZ ?_|refine cZ ?_ (hp:=lc) (hs:=by (first | refine ab ?_ rfl | apply ac); (repeat' (first | exact aa | apply am | apply ae | exact d1 | exact d2 | exact aQ dcap)); first | done | fail)|refine gTZ ?_|(refine zGZ ?_ ?_ <;> (intro _hg; try (exfalso; omega)))|fail)) <;> (try clear zz)
   exact ⟨(have zz:=@t0; evZ),(have zz:=@t1; evZ),(have zz:=@t2; evZ),(have zz:=@t3; evZ),(have zz:=@t4; evZ),(have zz:=@t10; evZ),(have zz:=@t11; evZ),(have zz:=@t12; evZ),(have zz:=@t13; evZ),rfl,rfl⟩
  ·(have zz:=aI @t0 (aI @t1 (aI @t2 (aI @t3 (aI @t4 (aI @t10 (aI @t11 (aI @t12 (aI @t13 (aI @tz (aI @tk (aI @hbb (aI @Int.toNat_natCast (aI hc.cells hc.one))))))))))))); repeat' (first|refine zW ?_|refine zM ?_|apply a_n|refine zO ?_|refine vZ ?_|refine cZ ?_ (hp:=lc) (hs:=by (first | refine ab ?_ rfl | apply ac); (repeat' (first | exact aa | apply am | apply ae | exact d1 | exact d2 | exact aQ dcap)); first | done | fail)|refine gTZ ?_|(refine zGZ ?_ ?_ <;> (intro _hg; try (exfalso; omega)))|fail)) <;> (try clear zz)
   refine aV ev0 (have zz:=aI @t0 (aI @t1 (aI @t2 (aI @t3 (aI @t4 (aI @t10 (aI @t11 (aI @t12 @t13))))))); evZ) (wU hc (b:=b) hps.at_ (hlen _ hpi) (hGA _ hpi) (a:=a1) (e:=e1) (pv:=p) (by omega) (by omega) hn2 ⟨hp1,hp2⟩) ?_
   rintro _ _ _ ⟨rfl,N,m,rfl,hm1,hm2,rfl,hpN,q1,q2⟩
   (have zz:=aI @t0 (aI @t1 (aI @t2 (aI @t3 (aI @t4 (aI @t10 (aI @t11 (aI @t12 @t13))))))); repeat' (first|refine zW ?_|apply a_n|apply a_x|refine zO ?_|refine vZ ?_|fail)) <;> (try clear zz)
   exact ⟨(m,e1,lim,wb,wp,N),by dsimp only; omega,⟨hpi.equal hc.ord hpN (by rw [hk,hKK]; exact hlt) (by omega) ⟨hm1,hm2⟩ q1 q2,hps.upd,hlim⟩,(have zz:=aI @t0 (aI @t1 (aI @t2 (aI @t3 (aI @t4 (aI @t10 (aI @t11 @t12)))))); agZ)⟩
 clear t0 t1 t2 t3 t4 t10 t11 t12 t13
 rintro T _ _ ⟨t0,t1,t2,t3,t4,t10,t11,t12,t13,rfl,rfl⟩
 refine bv (fun T H'' nx''=>∃ (M:List α) (m:Nat) (t:Bool),PI K a e L a1 e1 M∧TwoS K a1 e1 m M∧PS H H'' nx nx'' b (M.map f)∧T 0=.msl b n 1 0 n∧T 1=.int .i64 (a1:Nat)∧T 2=.int .i64 (e1:Nat)∧T 3=.int .i64 (lim:Nat)∧T 4=.func g caps∧T 10=.bool wb∧T 11=.bool wp∧T 12=.int .i64 (l:Nat)∧T 16=.int .i64 (m:Nat)∧T 17=.bool t) ?_ ?_
 ·(have zz:=aI @t0 (aI @t1 (aI @t2 (aI @t3 (aI @t4 (aI @t10 (aI @t11 (aI @t12 @t13))))))); repeat' (first|apply a_n|refine zO ?_|refine vZ ?_|fail)) <;> (try clear zz)
  refine aV ev0 (have zz:=aI @t0 (aI @t1 (aI @t2 (aI @t3 (aI @t4 (aI @t10 (aI @t11 (aI @t12 @t13))))))); evZ) (zg hc (b:=b) hps.at_ (hlen _ hpi) (hGA _ hpi) (a:=a1) (e:=e1) (pv:=p) (by omega) (by omega) hn2 ⟨hp1,hp2⟩) ?_
  rintro _ _ _ ⟨rfl,N,m,t,rfl,hm1,hm2,rfl,hpN,q1,q2⟩
  (have zz:=aI @t0 (aI @t1 (aI @t2 (aI @t3 (aI @t4 (aI @t10 (aI @t11 (aI @t12 @t13))))))); repeat' (first|apply a_n|refine zO ?_|refine vZ ?_|fail)) <;> (try clear zz)
  exact ⟨N,m,t,hpi.swap hpN,⟨⟨hm1,hm2⟩,fun p k1 k2=>hc.ord.asym _ _ (q1 p k1 k2),q2⟩,hps.upd,(have zz:=@t0; evZ),(have zz:=@t1; evZ),(have zz:=@t2; evZ),(have zz:=@t3; evZ),(have zz:=@t4; evZ),(have zz:=@t10; evZ),(have zz:=@t11; evZ),(have zz:=@t12; evZ),ev0,ev0⟩
 clear t0 t1 t2 t3 t4 t10 t11 t12 t13 hbb hl hGM hpi hps hp1 hp2 p
 rintro T H1 n1 ⟨M,m,t,hpi,hts,hps,t0,t1,t2,t3,t4,t10,t11,t12,t16,t17⟩
 have hm:=hts.mid
 have hl:=hlen _ hpi
 have tq:aX .quo false false (.int .i64 (l:Int)) (.int .i64 8)=some (.int .i64 ((l / 8:Nat):Int)):=by
  rw [jm (by omega) (by omega) (by omega)]
  congr 2
 have tm:(m:Int) + 1=((m + 1:Nat):Int):=by omega
 by_cases hlr:(m:Int) - (a1:Int) < (e1:Int) - (m:Int)
 ·have tz:decide ((m:Int) - (a1:Int) < (e1:Int) - (m:Int))=true:=decide_eq_true hlr
  (have zz:=aI @t0 (aI @t1 (aI @t2 (aI @t3 (aI @t4 (aI @t10 (aI @t11 (aI @t12 (aI @t16 (aI @t17 (aI @tq @tz)))))))))); repeat' (first|refine zW ?_|apply a_n|refine zO ?_|refine vZ ?_|refine cTZ ?_|fail)) <;> (try clear zz)
  refine aV ev0 (have zz:=aI @t0 (aI @t1 (aI @t2 (aI @t3 (aI @t4 (aI @t10 (aI @t11 (aI @t12 (aI @t16 @t17)))))))); evZ) (ih a1 m lim M H1 n1 (by omega) hps.at_ (hbn _ _ _ hps) hl (hGA _ hpi) (by omega) (by omega) hlim (hpi.low.sub rfl (by omega))) ?_
  rintro _ H2 n2 ⟨N,hps2,hpN,hsN⟩
  (have zz:=aI @t0 (aI @t1 (aI @t2 (aI @t3 (aI @t4 (aI @t10 (aI @t11 (aI @t12 (aI @t16 (aI @t17 @tm))))))))); repeat' (first|apply a_n|refine zO ?_|refine vZ ?_|fail)) <;> (try clear zz)
  exact ⟨(m + 1,e1,lim,decide (((l / 8:Nat):Int) ≤ (m:Int) - (a1:Int)),t,N),by dsimp only; omega,⟨hpi.left hc.ord hts hpN hsN,hps.rec_ hps2.at_ hps2.fr hps2.le,hlim⟩,(have zz:=aI @t0 (aI @t1 (aI @t2 (aI @t3 (aI @t4 (aI @t10 (aI @t11 (aI @t12 (aI @t16 @t17)))))))); agZ)⟩
 ·have tz:decide ((m:Int) - (a1:Int) < (e1:Int) - (m:Int))=false:=decide_eq_false hlr
  (have zz:=aI @t0 (aI @t1 (aI @t2 (aI @t3 (aI @t4 (aI @t10 (aI @t11 (aI @t12 (aI @t16 (aI @t17 (aI @tq (aI @tz @tm))))))))))); repeat' (first|refine zW ?_|apply a_n|refine zO ?_|refine vZ ?_|refine cFZ ?_|fail)) <;> (try clear zz)
  refine aV ev0 (have zz:=aI @t0 (aI @t1 (aI @t2 (aI @t3 (aI @t4 (aI @t10 (aI @t11 (aI @t12 (aI @t16 @t17)))))))); evZ) (ih (m + 1) e1 lim M H1 n1 (by omega) hps.at_ (hbn _ _ _ hps) hl (hGA _ hpi) (by omega) (by omega) hlim (fun q k0 k1 k2=>by rw [Nat.add_sub_cancel]; exact hts.ge q k1 k2)) ?_
  rintro _ H2 n2 ⟨N,hps2,hpN,hsN⟩
  (have zz:=aI @t0 (aI @t1 (aI @t2 (aI @t3 (aI @t4 (aI @t10 (aI @t11 (aI @t12 (aI @t16 @t17)))))))); repeat' (first|apply a_n|refine zO ?_|refine vZ ?_|fail)) <;> (try clear zz)
  exact ⟨(a1,m,lim,decide (((l / 8:Nat):Int) ≤ (e1:Int) - (m:Int)),t,N),by dsimp only; omega,⟨hpi.right hc.ord hts hpN hsN,hps.rec_ hps2.at_ hps2.fr hps2.le,hlim⟩,(have zz:=aI @t0 (aI @t1 (aI @t2 (aI @t3 (aI @t4 (aI @t10 (aI @t11 (aI @t12 (aI @t16 @t17)))))))); agZ)⟩
end
end Go.Proofs.Ytfcenbapjhecfaa
namespace Go.Proofs.Ytfcenbapjhecfaa
open Go Go.Abs
open Nat (reduceEqDiff reduceAdd reduceLeDiff)
section
variable {α:Type} [Inhabited α] {f:α→AV} {K:α→α→Int} {G:α→Prop} {g:Nat} {caps:List AV}
attribute [local irreducible] aB ai aW aN aG aH ay aJ aO ba Go.Abs.Fn aM Go.Abs.Pure ar aE Yl
set_option maxRecDepth 100000 in
theorem xm {H:Hp} {nx:Nat}:Abs.Fn Try.prog 107 [.int .u64 0] H nx fun r H' nx'=>nx'=nx∧H'=H∧r=.int .i64 0:=by
 refine Abs.Fn.of_c2 follows yk (Nat.le_of_ble_eq_true rfl) ?_
 delta y7 cO cG cN cM cD cF cB aA aR
 generalize hT:AV.str (ByteArray.mk (Array.mk [0,1,2,2,3,3,3,3,4,4,4,4,4,4,4,4,5,5,5,5,5,5,5,5,5,5,5,5,5,5,5,5,6,6,6,6,6,6,6,6,6,6,6,6,6,6,6,6,6,6,6,6,6,6,6,6,6,6,6,6,6,6,6,6,7,7,7,7,7,7,7,7,7,7,7,7,7,7,7,7,7,7,7,7,7,7,7,7,7,7,7,7,7,7,7,7,7,7,7,7,7,7,7,7,7,7,7,7,7,7,7,7,7,7,7,7,7,7,7,7,7,7,7,7,7,7,7,7,8,8,8,8,8,8,8,8,8,8,8,8,8,8,8,8,8,8,8,8,8,8,8,8,8,8,8,8,8,8,8,8,8,8,8,8,8,8,8,8,8,8,8,8,8,8,8,8,8,8,8,8,8,8,8,8,8,8,8,8,8,8,8,8,8,8,8,8,8,8,8,8,8,8,8,8,8,8,8,8,8,8,8,8,8,8,8,8,8,8,8,8,8,8,8,8,8,8,8,8,8,8,8,8,8,8,8,8,8,8,8,8,8,8,8,8,8,8,8,8,8,8,8,8,8,8,8,8]))=tb
 have ht:iB tb (.int .u8 0)=some (.int .u8 0):=by rw [← hT]; exact rl (x:=0) (by decide)
 clear hT
 have w8:IntKind.wrap .u8 0=0:=by decide
 (have zz:=aI @w8 @ht; repeat' (first|refine zW ?_|apply a_n|refine zO ?_|refine vZ ?_|(refine zGZ ?_ ?_ <;> (intro _hg; try (exfalso; omega)))|refine ak rfl ?_|refine r1Z ?_|fail)) <;> (try clear zz)
 exact ⟨rfl,rfl,by congr 1⟩
theorem zB {H:Hp} {nx:Nat}:Abs.Fn Try.prog 90 [.int .u64 0] H nx fun r H' nx'=>nx'=nx∧H'=H∧r=.int .i64 0:=by
 refine Abs.Fn.of_c2 follows Az (Nat.le_of_ble_eq_true rfl) ?_
 simp only [b90,cO,cG,cN,cM,cD,cF,cB,aA,aR]
 (have zz:=and_self; repeat' (first|refine zW ?_|apply a_n|refine zO ?_|refine vZ ?_|refine cFZ ?_|fail)) <;> (try clear zz)
 refine aV ev0 ev0 xm ?_
 rintro _ _ _ ⟨rfl,rfl,rfl⟩
 (have zz:=and_self; repeat' (first|apply a_n|refine zO ?_|refine vZ ?_|refine ak rfl ?_|refine r1Z ?_|fail)) <;> (try clear zz)
 exact ⟨rfl,rfl,rfl⟩
theorem tC (hc:Cmp Try.prog f K G g caps) {L:List α} {H:Hp} {b nx n:Nat} (hH:H b=some (L.map f)) (hbx:b < nx) (hn:L.length=n) (hn0:0 < n) (hG:∀ x ∈ L,G x) (hn2:n ≤ 1000000000) :
    Abs.Fn Try.prog 73 [.msl b n 1 0 n,.func g caps] H nx fun r H' nx'=>∃ L',PS H H' nx nx' b (L'.map f)∧L'.Perm L∧aZ K 0 n L':=by
 refine Abs.Fn.of_c2 follows z9 (Nat.le_of_ble_eq_true rfl) ?_
 simp only [b73,cO,cG,cN,cM,cD,cF,cB,aA,aR]
 have w:IntKind.wrap .u64 (n:Int)=n:=eY (by omega) (by omega)
 (have zz:=@w; repeat' (first|refine zW ?_|apply a_n|refine zO ?_|refine vZ ?_|fail)) <;> (try clear zz)
 refine aV ev0 (have zz:=@w; evZ) (yt hn0 (by omega)) ?_
 rintro _ _ _ ⟨rfl,rfl,k,rfl,h3,h4⟩
 have hk:k ≤ 62:=by
  rcases Nat.lt_or_ge 62 k with h | h
  ·have:=Nat.pow_le_pow_right (n:=2) (by omega) h
   omega
  ·exact h
 (have zz:=and_self; repeat' (first|apply a_n|refine zO ?_|refine vZ ?_|fail)) <;> (try clear zz)
 refine aV ev0 (have zz:=@Int.natCast_zero; evZ) (AI hc hn2 (n + 1) 0 n k L _ _ (by omega) hH hbx hn hG (by omega) (Nat.le_refl _) (by omega) (fun q h=>by omega)) ?_
 rintro _ _ _ ⟨N,hps,hp,hs⟩
 (have zz:=and_self; repeat' (first|apply a_n|refine zO ?_|refine ak rfl ?_|fail)) <;> (try clear zz)
 exact ⟨N,hps,hp.perm,hs⟩
end
end Go.Proofs.Ytfcenbapjhecfaa
namespace Go.Proofs.Ytfcenbapjhecfaa
open Go Go.Abs
def _root_.List.c2 {α:Type} (l:List α) (f:α→AV):List AV:=l.flatMap fun x=>(f x).cells
structure Cmp2 {α:Type} (P:Program) (f:α→AV) (K:α→α→Int) (G:α→Prop) (g:Nat) (caps:List AV):Prop where
 len:∀ x,(f x).cells.length=2
 agg:∀ x,AV.agg (f x).cells=f x
 ones:∀ x,AV.ones (f x).cells=true
 dat:∀ x,Dat (f x)
 dcaps:∀ x ∈ caps,Dat x
 run:∀ x y,G x→G y→Go.Abs.Pure P g (f x :: f y :: caps) (.int .i64 (K x y))
 ord:Ord K
section
variable {α:Type} {f:α→AV} (h:∀ x,(f x).cells.length=2)
include h
end
section
variable {α:Type} [Inhabited α] {f:α→AV} {K:α→α→Int} {G:α→Prop} {g:Nat} {caps:List AV}
attribute [local irreducible] aB ai aW aN aG aH ay aJ aO ba Go.Abs.Fn aM Go.Abs.Pure ar aE Yl
end
end Go.Proofs.Ytfcenbapjhecfaa
namespace Go.Proofs.Ytfcenbapjhecfaa
open Go Go.Abs
section
variable {α:Type} [Inhabited α] {f:α→AV} {K:α→α→Int} {G:α→Prop} {g:Nat} {caps:List AV}
attribute [local irreducible] aB ai aW aN aG aH ay aJ aO ba Go.Abs.Fn aM Go.Abs.Pure ar aE Yl
end
end Go.Proofs.Ytfcenbapjhecfaa
namespace Go.Proofs.Ytfcenbapjhecfaa
open Go Go.Abs
section
variable {α:Type} [Inhabited α] {f:α→AV} {K:α→α→Int} {G:α→Prop} {g:Nat} {caps:List AV}
attribute [local irreducible] aB ai aW aN aG aH ay aJ aO ba Go.Abs.Fn aM Go.Abs.Pure ar aE Yl
end
end Go.Proofs.Ytfcenbapjhecfaa
namespace Go.Proofs.Ytfcenbapjhecfaa
open Go Go.Abs
section
variable {α:Type} [Inhabited α] {f:α→AV} {K:α→α→Int} {G:α→Prop} {g:Nat} {caps:List AV}
attribute [local irreducible] aB ai aW aN aG aH ay aJ aO ba Go.Abs.Fn aM Go.Abs.Pure ar aE Yl
end
end Go.Proofs.Ytfcenbapjhecfaa
namespace Go.Proofs.Ytfcenbapjhecfaa
open Go Go.Abs
section
variable {α:Type} [Inhabited α] {f:α→AV} {K:α→α→Int} {G:α→Prop} {g:Nat} {caps:List AV}
attribute [local irreducible] aB ai aW aN aG aH ay aJ aO ba Go.Abs.Fn aM Go.Abs.Pure ar aE Yl
end
end Go.Proofs.Ytfcenbapjhecfaa
namespace Go.Proofs.Ytfcenbapjhecfaa
open Go Go.Abs
section
variable {α:Type} [Inhabited α] {f:α→AV} {K:α→α→Int} {G:α→Prop} {g:Nat} {caps:List AV}
attribute [local irreducible] aB ai aW aN aG aH ay aJ aO ba Go.Abs.Fn aM Go.Abs.Pure ar aE Yl
end
end Go.Proofs.Ytfcenbapjhecfaa
namespace Go.Proofs.Ytfcenbapjhecfaa
open Go Go.Abs
section
variable {α:Type} [Inhabited α] {f:α→AV} {K:α→α→Int} {G:α→Prop} {g:Nat} {caps:List AV}
attribute [local irreducible] aB ai aW aN aG aH ay aJ aO ba Go.Abs.Fn aM Go.Abs.Pure ar aE Yl
end
end Go.Proofs.Ytfcenbapjhecfaa
namespace Go.Proofs.Ytfcenbapjhecfaa
open Go Go.Abs
section
variable {α:Type} [Inhabited α] {f:α→AV} {K:α→α→Int} {G:α→Prop} {g:Nat} {caps:List AV}
attribute [local irreducible] aB ai aW aN aG aH ay aJ aO ba Go.Abs.Fn aM Go.Abs.Pure ar aE Yl
end
end Go.Proofs.Ytfcenbapjhecfaa
namespace Go.Proofs.Ytfcenbapjhecfaa
open Go Go.Abs
section
variable {α:Type} [Inhabited α] {f:α→AV} {K:α→α→Int} {G:α→Prop} {g:Nat} {caps:List AV}
attribute [local irreducible] aB ai aW aN aG aH ay aJ aO ba Go.Abs.Fn aM Go.Abs.Pure ar aE Yl
end
end Go.Proofs.Ytfcenbapjhecfaa
namespace Go.Proofs.Ytfcenbapjhecfaa
open Go Go.Abs
section
variable {α:Type} [Inhabited α] {f:α→AV} {K:α→α→Int} {G:α→Prop} {g:Nat} {caps:List AV}
attribute [local irreducible] aB ai aW aN aG aH ay aJ aO ba Go.Abs.Fn aM Go.Abs.Pure ar aE Yl
end
end Go.Proofs.Ytfcenbapjhecfaa
namespace Go.Proofs.Ytfcenbapjhecfaa
open Go Go.Abs
theorem r7 {B n len k:Nat} (h:k ≤ len) (hn:n ≠ 0):hU 2 (.msl B n 2 0 len) none (some (.int .i64 k)) none=some (.msl B n 2 0 k):=by
 simp only [hU,a9,Int.natCast_nonneg,if_true,Int.toNat_natCast]
 rw [if_pos ⟨trivial,by omega,h,hn⟩,if_pos (.inl trivial),Nat.zero_mul,Nat.sub_zero]
theorem uh {H:Hp} {B:Nat} {cs:List AV} (hH:H B=some cs):H=aq H B cs:=by
 funext b
 by_cases e:b=B
 ·subst e; rw [ah]; exact hH
 ·rw [af e]
attribute [local irreducible] aB ai aW aN aG aH ay aJ aO ba Go.Abs.Fn aM Go.Abs.Pure ar aE Yl
end Go.Proofs.Ytfcenbapjhecfaa
namespace Go.Proofs.Ytfcenbapjhecfaa
open Go Go.Abs
theorem yC (a b:Vtx):jA (.st [.int,.int]) (bP a) (bP b)=some (decide (a=b)):=by
 show bM [.int,.int] [.int .i64 a.color,.int .i64 a.label] [.int .i64 b.color,.int .i64 b.label]=_
 rw [sP,p8]
theorem vE (v:Vtx) (ks:List Vtx):bE (.st [.int,.int]) (bP v) (ks.map bP)=some (if v ∈ ks then some (ks.idxOf v) else none):=ki _ bP yC v ks
theorem v5 (v:Vtx):eC (.st [.int,.int]) (bP v)=true:=rfl
def hZ (l:List Spx) (i:Nat) (v:Vtx):List Nat:=(List.range i).filter fun k=>decide (v ∈ l.getD k default)
def jo (l:List Spx) (i j:Nat) (v:Vtx):List Nat:=hZ l i v ++ if v ∈ (l.getD i default).take j then [i] else []
theorem uf {l:List Spx} {i:Nat} {v:Vtx}:hZ l (i + 1) v=jo l i (l.getD i default).length v:=by
 unfold hZ jo
 rw [List.range_succ,List.filter_append,List.take_length]
 congr 1
 by_cases h:v ∈ l.getD i default
 ·rw [if_pos h]; simp only [List.filter,h,decide_true]
 ·rw [if_neg h]; simp only [List.filter,h,decide_false]
theorem uC {l:List Spx} {i:Nat} {v:Vtx}:jo l i 0 v=hZ l i v:=by unfold jo; simp
theorem vb {l:List Spx} {i j:Nat} {v:Vtx} (hj:j < (l.getD i default).length) (ha:bi bt (l.getD i default)):jo l i (j + 1) v=if v=(l.getD i default).getD j default then jo l i j v ++ [i] else jo l i j v:=by
 unfold jo
 generalize l.getD i default=s at *
 rw [cC hj]
 by_cases h:v=s.getD j default
 ·have hn:v ∉ s.take j:=fun hm=>by
    obtain ⟨k,hk,e⟩:=List.getElem_of_mem hm
    rw [List.length_take] at hk
    rw [List.getElem_take] at e
    have:=bV ha (i:=k) (j:=j) (by omega) hj
    rw [← h,← e] at this
    have e2:s.getD k default=s[k]:=by simp [List.getD,show k < s.length by omega]
    rw [e2] at this
    exact sQ.ord.irr _ this
  rw [if_pos h,if_neg hn,if_pos (by rw [List.mem_append,h]; simp)]
  simp
 ·rw [if_neg h]
  congr 1
  have e:v ∈ s.take j ++ [s.getD j default] ↔ v ∈ s.take j:=by rw [List.mem_append,List.mem_singleton]; exact ⟨fun h'=>h'.resolve_right h,.inl⟩
  by_cases h2:v ∈ s.take j
  ·rw [if_pos (e.2 h2),if_pos h2]
  ·rw [if_neg (fun h=>h2 (e.1 h)),if_neg h2]
def rV (i:Nat):AV:=.int .i64 (i:Int)
structure IncOk (H:Hp) (b lo hi:Nat) (F:Vtx→List Nat) (ks:List Vtx) (vs:List AV):Prop where
 box:H b=some [.omap (ks.map bP) vs]
 len:vs.length=ks.length
 nodup:ks.Nodup
 dom:∀ v,v ∈ ks ↔ F v ≠ []
 row:∀ j,j < ks.length→Row H 1 (vs.getD j .undef) ((F (ks.getD j default)).map rV)
 bnd:∀ j B,j < ks.length→cr (vs.getD j .undef)=some B→lo ≤ B∧B < hi∧B ≠ b
 apart:∀ i j B,i < ks.length→j < ks.length→i ≠ j→cr (vs.getD i .undef)=some B→cr (vs.getD j .undef) ≠ some B
 lt:b < hi
theorem kL {l:List AV} {i j:Nat} {x:AV} (h:i < l.length):(l.set i x).getD j .undef=if i=j then x else l.getD j .undef:=by
 simp only [List.getD,List.getElem?_set]
 split
 ·rename_i e; subst e; simp [h]
 ·rfl
theorem qt {α:Type} {l m:List α} {j:Nat} {d:α} (h:j < l.length):(l ++ m).getD j d=l.getD j d:=by
 simp [List.getD,List.getElem?_append_left h]
theorem oJ {α:Type} {l:List α} {x d:α}:(l ++ [x]).getD l.length d=x:=by simp [List.getD]
theorem pP {l:List Vtx} {v:Vtx} (h:v ∈ l):l.idxOf v < l.length∧l.getD (l.idxOf v) default=v:=by
 have h1:=List.idxOf_lt_length_iff.2 h
 exact ⟨h1,by simp [List.getD,h1]⟩
theorem uL {l:List Vtx} (h:l.Nodup) {i j:Nat} (hi:i < l.length) (hj:j < l.length) (e:l.getD i default=l.getD j default):i=j:=by
 have hp:=List.pairwise_iff_getElem.1 (List.nodup_iff_pairwise_ne.1 h)
 rw [show l.getD i default=l[i] by simp [List.getD,hi],show l.getD j default=l[j] by simp [List.getD,hj]] at e
 rcases Nat.lt_trichotomy i j with c | c | c
 ·exact absurd e (hp i j hi hj c)
 ·exact c
 ·exact absurd e.symm (hp j i hj hi c)
theorem IncOk.same {H H':Hp} {b lo hi hi':Nat} {F:Vtx→List Nat} {ks:List Vtx} {vs:List AV} (h:IncOk H b lo hi F ks vs) (hb:H' b=H b) (hs:∀ x,lo ≤ x→x < hi→x ≠ b→H' x=H x) (hh:hi ≤ hi'):IncOk H' b lo hi' F ks vs :=
 ⟨hb.trans h.box,h.len,h.nodup,h.dom,fun j hj=>(h.row j hj).same fun B hB=>by have:=h.bnd j B hj hB; exact hs B this.1 this.2.1 this.2.2,fun j B hj hB=>by have:=h.bnd j B hj hB; exact ⟨this.1,by omega,this.2.2⟩,h.apart,by have:=h.lt; omega⟩
theorem IncOk.put {H H':Hp} {b lo hi hi' i:Nat} {F G:Vtx→List Nat} {ks:List Vtx} {vs:List AV} {w:Vtx} {sv:AV} (h:IncOk H b lo hi F ks vs) (hw:w ∈ ks) (hG:∀ v,G v=if v=w then F v ++ [i] else F v) (hrow:Row H' 1 sv ((F w ++ [i]).map rV)) (hB:∀ B,cr sv=some B→cr (vs.getD (ks.idxOf w) .undef)=some B ∨ hi ≤ B∧B < hi'∧B ≠ b) (hb:H' b=some [.omap (ks.map bP) (vs.set (ks.idxOf w) sv)])
    (hs:∀ x,lo ≤ x→x < hi→x ≠ b→cr (vs.getD (ks.idxOf w) .undef) ≠ some x→H' x=H x) (hh:hi ≤ hi') (hlo:lo ≤ hi):IncOk H' b lo hi' G ks (vs.set (ks.idxOf w) sv):=by
 obtain ⟨k1,k2⟩:=pP hw
 have hl:=h.len
 have hg:∀ j,(vs.set (ks.idxOf w) sv).getD j .undef=if ks.idxOf w=j then sv else vs.getD j .undef:=fun j=>kL (by omega)
 have hne:∀ j,j < ks.length→ks.idxOf w ≠ j→ks.getD j default ≠ w:=fun j hj hn e=>hn (uL h.nodup k1 hj (by rw [k2,e]))
 refine ⟨hb,by simp [hl],h.nodup,fun v=>?_,fun j hj=>?_,fun j B hj=>?_,fun p q B hp hq hpq=>?_,by have:=h.lt; omega⟩
 ·rw [hG,h.dom]
  by_cases e:v=w
  ·subst e
   rw [if_pos rfl]
   exact ⟨fun _=>by simp,fun _=>(h.dom v).1 hw⟩
  ·rw [if_neg e]
 ·rw [hg,hG]
  by_cases e:ks.idxOf w=j
  ·rw [if_pos e,if_pos (by rw [← e]; exact k2),← e,k2]; exact hrow
  ·rw [if_neg e,if_neg (hne j hj e)]
   exact (h.row j hj).same fun B hB'=>by
    have:=h.bnd j B hj hB'
    exact hs B this.1 this.2.1 this.2.2 fun h'=>h.apart (ks.idxOf w) j B k1 hj e h' hB'
 ·rw [hg]
  by_cases e:ks.idxOf w=j
  ·rw [if_pos e]
   intro hB'
   rcases hB B hB' with h' | h'
   ·have:=h.bnd _ B k1 h'; exact ⟨this.1,by omega,this.2.2⟩
   ·exact ⟨by omega,h'.2⟩
  ·rw [if_neg e]
   intro hB'
   have:=h.bnd j B hj hB'
   exact ⟨this.1,by omega,this.2.2⟩
 ·rw [hg,hg]
  by_cases e1:ks.idxOf w=p
  ·rw [if_pos e1,if_neg (by omega)]
   intro h1 h2
   rcases hB B h1 with h' | h'
   ·exact h.apart (ks.idxOf w) q B k1 hq (by omega) h' h2
   ·have:=h.bnd q B hq h2; omega
  ·rw [if_neg e1]
   by_cases e2:ks.idxOf w=q
   ·rw [if_pos e2]
    intro h1 h2
    rcases hB B h2 with h' | h'
    ·exact h.apart p (ks.idxOf w) B hp k1 (by omega) h1 h'
    ·have:=h.bnd p B hp h1; omega
   ·rw [if_neg e2]; exact h.apart p q B hp hq hpq
theorem IncOk.new {H H':Hp} {b lo hi hi' i:Nat} {F G:Vtx→List Nat} {ks:List Vtx} {vs:List AV} {w:Vtx} {sv:AV} (h:IncOk H b lo hi F ks vs) (hw:w ∉ ks) (hG:∀ v,G v=if v=w then F v ++ [i] else F v) (hrow:Row H' 1 sv ([i].map rV)) (hB:∀ B,cr sv=some B→hi ≤ B∧B < hi'∧B ≠ b) (hb:H' b=some [.omap ((ks ++ [w]).map bP) (vs ++ [sv])])
    (hs:∀ x,lo ≤ x→x < hi→x ≠ b→H' x=H x) (hh:hi ≤ hi') (hlo:lo ≤ hi):IncOk H' b lo hi' G (ks ++ [w]) (vs ++ [sv]):=by
 have hl:=h.len
 have hF:F w=[]:=by
  cases hf:F w with
  | nil=>rfl
  | cons a r=>exact absurd ((h.dom w).2 (by rw [hf]; simp)) hw
 have g1:∀ j,j < ks.length→(ks ++ [w]).getD j default=ks.getD j default∧(vs ++ [sv]).getD j .undef=vs.getD j .undef:=fun j hj=>⟨qt hj,qt (by omega)⟩
 have g2:(ks ++ [w]).getD ks.length default=w∧(vs ++ [sv]).getD ks.length .undef=sv:=⟨oJ,by rw [← hl]; exact oJ⟩
 refine ⟨hb,by simp [hl],?_,fun v=>?_,fun j hj=>?_,fun j B hj=>?_,fun p q B hp hq hpq=>?_,by have:=h.lt; omega⟩
 ·rw [List.nodup_append]
  exact ⟨h.nodup,by simp,fun a ha c hc e=>by rw [List.mem_singleton] at hc; exact hw (by rw [← hc,← e]; exact ha)⟩
 ·rw [hG,List.mem_append,List.mem_singleton]
  by_cases e:v=w
  ·subst e; rw [if_pos rfl]; simp
  ·rw [if_neg e,← h.dom]; simp [e]
 ·rw [List.length_append,List.length_singleton] at hj
  by_cases e:j=ks.length
  ·subst e
   rw [g2.1,g2.2,hG,if_pos rfl,hF]; exact hrow
  ·obtain ⟨e1,e2⟩:=g1 j (by omega)
   have hne:ks.getD j default ≠ w:=fun e'=>hw (e' ▸ aP (by omega))
   rw [e1,e2,hG,if_neg hne]
   exact (h.row j (by omega)).same fun B hB'=>by have:=h.bnd j B (by omega) hB'; exact hs B this.1 this.2.1 this.2.2
 ·rw [List.length_append,List.length_singleton] at hj
  by_cases e:j=ks.length
  ·subst e
   rw [g2.2]; intro hB'
   have:=hB B hB'; exact ⟨by omega,this.2⟩
  ·rw [(g1 j (by omega)).2]; intro hB'
   have:=h.bnd j B (by omega) hB'; exact ⟨this.1,by omega,this.2.2⟩
 ·rw [List.length_append,List.length_singleton] at hp hq
  by_cases e1:p=ks.length
  ·subst e1
   rw [g2.2,(g1 q (by omega)).2]
   intro h1 h2
   have:=hB B h1
   have:=h.bnd q B (by omega) h2
   omega
  ·rw [(g1 p (by omega)).2]
   by_cases e2:q=ks.length
   ·subst e2
    rw [g2.2]
    intro h1 h2
    have:=hB B h2
    have:=h.bnd p B (by omega) h1
    omega
   ·rw [(g1 q (by omega)).2]; exact h.apart p q B (by omega) (by omega) hpq
end Go.Proofs.Ytfcenbapjhecfaa
namespace Go.Proofs.Ytfcenbapjhecfaa
open Go Go.Abs
theorem b6 {H:Hp} {d:Nat} {x:AV}:db 1 (aq H d [x]) (.msl d 1 1 0 1)=some (1,[x]):=gF (n:=1) (len:=1) (off:=0) (cs:=[x]) ah rfl (by simp)
theorem p9 {l:List Spx} {i:Nat} {v:Vtx}:(hZ l i v).length ≤ i:=by
 unfold hZ
 have:=List.length_filter_le (fun k=>decide (v ∈ l.getD k default)) (List.range i)
 rwa [List.length_range] at this
theorem wN {l:List Spx} {i j:Nat} {v:Vtx}:(jo l i j v).length ≤ i + 1:=by
 unfold jo
 have:=p9 (l:=l) (i:=i) (v:=v)
 rw [List.length_append]
 split <;> simp <;> omega
attribute [local irreducible] aB ai aW aN aG aH ay aJ aO ba Go.Abs.Fn aM Go.Abs.Pure ar aE Yl
set_option maxHeartbeats 2000000 in
theorem rz (l:List Spx) (hl:l.length ≤ 100000) (hs:∀ s ∈ l,bi bt s∧s.length ≤ 1000000) (H:Hp) (nx:Nat):Abs.Fn Try.prog 76 [au l] H nx fun r H' nx'=>∃ ks vs,r=.mp nx∧IncOk H' nx nx nx' (hZ l l.length) ks vs∧(∀ x,x < nx→H' x=H x)∧nx < nx':=by
 refine Abs.Fn.of_c2 follows BB (Nat.le_of_ble_eq_true rfl) ?_
 simp only [b76,cO,cG,cN,cM,cD,cF,cB,aA,aR]
 refine dE ?_
 (have zz:=and_self; repeat' (first|apply a_n|refine zO ?_|refine vZ ?_|fail)) <;> (try clear zz)
 refine dE ?_
 (have zz:=and_self; repeat' (first|apply a_n|refine zO ?_|fail)) <;> (try clear zz)
 refine yf ?_
 (have zz:=@ag; repeat' (first|refine zW ?_|apply a_n|refine zO ?_|refine vY ?_|fail)) <;> (try clear zz)
 refine bd (X:=Nat × List Vtx × List AV) (fun x=>[(3,.mp nx),(9,au l),(10,.int .i64 l.length),(11,.int .i64 x.1)]) (fun x H' nx'=>x.1 ≤ l.length∧IncOk H' nx nx nx' (hZ l x.1) x.2.1 x.2.2∧(∀ y,y < nx→H' y=H y)∧nx < nx') (fun x=>l.length - x.1) (0,[],[]) ⟨Nat.zero_le _,⟨ah,rfl,List.nodup_nil,fun v=>by simp [hZ],fun j h=>absurd h (by simp),fun j B h=>absurd h (by simp),fun i j B h=>absurd h (by simp),by omega⟩,fun y hy=>af (by omega),by omega⟩ ag0 ?_
 rintro ⟨i,ks,vs⟩ H1 nx1 ⟨h1,h2,h3,h4⟩
 dsimp only at h1 h2 ⊢
 by_cases hi:i < l.length
 rotate_left
 ·obtain rfl:i=l.length:=by omega
  (have zz:=and_self; repeat' (first|refine zW ?_|apply a_n|apply a_x|refine zO ?_|refine vY ?_|(refine zGY ?_ ?_ <;> (intro _hg; try (exfalso; omega)))|refine ak rfl ?_|refine r1Y ?_|fail)) <;> (try clear zz)
  exact ⟨ks,vs,rfl,h2,h3,h4⟩
 have ix:=dH hi
 obtain ⟨hsa,hsl⟩:=hs _ (aP hi)
 have hstep:=fun j v hj=>vb (l:=l) (i:=i) (j:=j) (v:=v) hj hsa
 have hend:=fun v=>uf (l:=l) (i:=i) (v:=v)
 have hlen:=fun j v=>wN (l:=l) (i:=i) (j:=j) (v:=v)
 have h20:IncOk H1 nx nx nx1 (jo l i 0) ks vs:=by rw [show jo l i 0=hZ l i from funext fun v=>uC]; exact h2
 have hend':hZ l (i + 1)=jo l i (l.getD i default).length:=funext hend
 clear h2
 generalize l.getD i default=s at *
 (have zz:=aI @ix @ap; repeat' (first|refine zW ?_|apply a_n|refine zO ?_|refine vY ?_|(refine zGY ?_ ?_ <;> (intro _hg; try (exfalso; omega)))|fail)) <;> (try clear zz)
 refine bd (X:=Nat × List Vtx × List AV) (fun x=>[(3,.mp nx),(9,au l),(10,.int .i64 l.length),(11,.int .i64 i),(4,.int .i64 i),(5,av s),(16,av s),(17,.int .i64 s.length),(18,.int .i64 x.1)]) (fun x H' nx'=>x.1 ≤ s.length∧IncOk H' nx nx nx' (jo l i x.1) x.2.1 x.2.2∧(∀ y,y < nx→H' y=H y)∧nx < nx') (fun x=>s.length - x.1) (0,ks,vs) ⟨Nat.zero_le _,h20,h3,h4⟩ ag0 ?_
 clear h20 h3 h4
 rintro ⟨j,ks,vs⟩ H2 nx2 ⟨k1,k2,k3,k4⟩
 dsimp only at k1 k2 ⊢
 by_cases hj:j < s.length
 rotate_left
 ·obtain rfl:j=s.length:=by omega
  (have zz:=and_self; repeat' (first|refine zW ?_|apply a_n|apply a_x|refine zO ?_|refine vY ?_|(refine zGY ?_ ?_ <;> (intro _hg; try (exfalso; omega)))|fail)) <;> (try clear zz)
  exact ⟨(i + 1,ks,vs),by dsimp only; omega,⟨by dsimp only; omega,by dsimp only; rw [hend']; exact k2,k3,k4⟩,ag0⟩
 have iy:=ix2 hj
 have hG:=fun v=>hstep j v hj
 have hcl:=hlen j (s.getD j default)
 generalize s.getD j default=w at *
 (have zz:=@iy; repeat' (first|refine zW ?_|apply a_n|refine zO ?_|refine vY ?_|refine alY ?_|refine stY ?_|refine blY ?_|(refine zGY ?_ ?_ <;> (intro _hg; try (exfalso; omega)))|fail)) <;> (try clear zz)
 have g3:∀ x,x < nx2→aq (aq (aq H2 nx2 [.int .i64 0,.int .i64 0]) nx2 (bo [.int .i64 0,.int .i64 0] 0 [.int .i64 w.color,.int .i64 w.label])) (nx2 + 1) [.int .i64 i] x=H2 x:=fun x hx=>by rw [af (by omega),af (by omega),af (by omega)]
 have g4:aq (aq (aq H2 nx2 [.int .i64 0,.int .i64 0]) nx2 (bo [.int .i64 0,.int .i64 0] 0 [.int .i64 w.color,.int .i64 w.label])) (nx2 + 1) [.int .i64 i] (nx2 + 1)=some [.int .i64 i]:=ah
 generalize aq (aq (aq H2 nx2 [.int .i64 0,.int .i64 0]) nx2 (bo [.int .i64 0,.int .i64 0] 0 [.int .i64 w.color,.int .i64 w.label])) (nx2 + 1) [.int .i64 i]=H3 at *
 have hmf:=vE w ks
 have hkl:(ks.map bP).length=ks.length:=List.length_map ..
 by_cases hw:w ∈ ks
 ·rw [if_pos hw] at hmf
  obtain ⟨m1,m2⟩:=pP hw
  have hr:=k2.row (ks.idxOf w) m1
  rw [m2] at hr
  refine wH ev0 ((g3 nx (by omega)).trans k2.box) ev0 (v5 w) hmf ?_
  have g5:∀ x,x < nx2→x ≠ nx→aq H3 nx [.omap (bw (bP w) (some (ks.idxOf w)) (ks.map bP)) (gl .esl (some (ks.idxOf w)) vs)] x=H2 x:=fun x hx hn=>by rw [af hn,g3 x hx]
  have g6:aq H3 nx [.omap (bw (bP w) (some (ks.idxOf w)) (ks.map bP)) (gl .esl (some (ks.idxOf w)) vs)] nx=some [.omap (ks.map bP) vs]:=ah
  have g7:aq H3 nx [.omap (bw (bP w) (some (ks.idxOf w)) (ks.map bP)) (gl .esl (some (ks.idxOf w)) vs)] (nx2 + 1)=some [.int .i64 i]:=by rw [af (by omega)]; exact g4
  generalize aq H3 nx [.omap (bw (bP w) (some (ks.idxOf w)) (ks.map bP)) (gl .esl (some (ks.idxOf w)) vs)]=H4 at *
  rw [show rQ .esl (some (ks.idxOf w)) vs=vs.getD (ks.idxOf w) .undef from rfl,show qA (some (ks.idxOf w)) (ks.map bP)=ks.idxOf w from rfl]
  (have zz:=and_self; repeat' (first|apply a_n|refine zO ?_|refine vY ?_|fail)) <;> (try clear zz)
  refine fo (k:=1) (new:=[.int .i64 i]) rfl ev0 (hr.same fun B hB=>?_) ev0 (gF (n:=1) (len:=1) (off:=0) g7 rfl (by omega)) rfl rfl Nat.one_pos (by rw [List.length_map]; omega) (by rw [List.length_map]; omega) ?_
  ·have:=k2.bnd _ B m1 hB
   exact g5 B this.2.1 this.2.2
  rintro s2 H5 nx5 hr5 i1 i2 i3 i4
  (have zz:=and_self; repeat' (first|apply a_n|refine zO ?_|refine vY ?_|fail)) <;> (try clear zz)
  refine vT ev0 ((i3 nx (by omega) (fun h=>(k2.bnd _ nx m1 h).2.2 rfl)).trans g6) ev0 (by rw [hkl]; exact m1) ev0 ?_
  (have zz:=and_self; repeat' (first|apply a_n|refine zO ?_|refine vY ?_|fail)) <;> (try clear zz)
  refine ⟨(j + 1,ks,vs.set (ks.idxOf w) s2),by dsimp only; omega,⟨by dsimp only; omega,IncOk.put k2 hw hG ?_ (fun B hB=>?_) ah (fun x hx hx2 hxn hxr=>?_) (by omega) (by omega),fun y hy=>?_,by omega⟩,ag0⟩
  ·rw [List.map_append]
   exact hr5.same fun B hB=>af fun e=>by
    rcases i4 B hB with h | h
    ·exact (k2.bnd _ B m1 h).2.2 e
    ·omega
  ·rcases i4 B hB with h | h
   ·exact .inl h
   ·exact .inr (by omega)
  ·rw [af hxn,i3 x (by omega) hxr,g5 x hx2 hxn]
  ·rw [af (by omega),i3 y (by omega) (fun h=>by have:=k2.bnd _ y m1 h; omega),g5 y (by omega) (by omega)]; exact k3 y hy
 ·rw [if_neg hw] at hmf
  refine wH ev0 ((g3 nx (by omega)).trans k2.box) ev0 (v5 w) hmf ?_
  have g5:∀ x,x < nx2→x ≠ nx→aq H3 nx [.omap (bw (bP w) none (ks.map bP)) (gl .esl none vs)] x=H2 x:=fun x hx hn=>by rw [af hn,g3 x hx]
  have g6:aq H3 nx [.omap (bw (bP w) none (ks.map bP)) (gl .esl none vs)] nx=some [.omap (ks.map bP ++ [bP w]) (vs ++ [.esl])]:=ah
  have g7:aq H3 nx [.omap (bw (bP w) none (ks.map bP)) (gl .esl none vs)] (nx2 + 1)=some [.int .i64 i]:=by rw [af (by omega)]; exact g4
  generalize aq H3 nx [.omap (bw (bP w) none (ks.map bP)) (gl .esl none vs)]=H4 at *
  rw [show rQ .esl none vs=.esl from rfl,show qA none (ks.map bP)=ks.length from hkl]
  (have zz:=and_self; repeat' (first|apply a_n|refine zO ?_|refine vY ?_|fail)) <;> (try clear zz)
  refine fo (k:=1) (new:=[.int .i64 i]) (cs:=[]) rfl ev0 Row.nil ev0 (gF (n:=1) (len:=1) (off:=0) g7 rfl (by omega)) rfl rfl Nat.one_pos (by simp) (by simp) ?_
  rintro s2 H5 nx5 hr5 i1 i2 i3 i4
  have i4':∀ B,cr s2=some B→B=nx2 + 1 + 1∧nx5=nx2 + 1 + 1 + 1:=fun B hB=>(i4 B hB).elim (fun h=>by cases h) id
  (have zz:=and_self; repeat' (first|apply a_n|refine zO ?_|refine vY ?_|fail)) <;> (try clear zz)
  refine vT (i:=ks.length) ev0 ((i3 nx (by omega) (fun h=>by cases h)).trans g6) ev0 (by rw [List.length_append,hkl]; simp) ev0 ?_
  have hset:(vs ++ [AV.esl]).set ks.length s2=vs ++ [s2]:=by rw [← k2.len]; simp
  rw [hset]
  (have zz:=and_self; repeat' (first|apply a_n|refine zO ?_|refine vY ?_|fail)) <;> (try clear zz)
  refine ⟨(j + 1,ks ++ [w],vs ++ [s2]),by dsimp only; omega,⟨by dsimp only; omega,IncOk.new k2 hw hG ?_ (fun B hB=>?_) (by rw [List.map_append]; exact ah) (fun x hx hx2 hxn=>?_) (by omega) (by omega),fun y hy=>?_,by omega⟩,ag0⟩
  ·exact hr5.same fun B hB=>af (by have:=i4' B hB; omega)
  ·have:=i4' B hB; omega
  ·rw [af hxn,i3 x (by omega) (fun h=>by cases h),g5 x hx2 hxn]
  ·rw [af (by omega),i3 y (by omega) (fun h=>by cases h),g5 y (by omega) (by omega)]; exact k3 y hy
end Go.Proofs.Ytfcenbapjhecfaa
namespace Go.Proofs.Ytfcenbapjhecfaa
open Go Go.Abs
def bL (l:List Spx) (s:Spx):Bool:=l.any fun t=>decide (s.length < t.length) && cQ s t
def jY (c:List Spx) (k:Nat):Int:=if be (c.getD k default) ≠ 0 then be (c.getD k default) else if 0 < k∧0 ≤ aS (c.getD (k - 1) default) (c.getD k default) then 14 else 0
def a5 (c:List Spx):Int:=if 4096 < c.length then 5 else if bH (jY c) c.length ≠ 0 then bH (jY c) c.length else if c.any (bL c)=true then 7 else 0
theorem dw {a b:Spx}:cQ a b=true ↔ ∀ v ∈ a,v ∈ b:=by
 unfold cQ; rw [List.all_eq_true]
 exact ⟨fun h v hv=>of_decide_eq_true (h v hv),fun h v hv=>decide_eq_true (h v hv)⟩
theorem jk {l:List Spx} {s:Spx}:bL l s=true ↔ ∃ t ∈ l,s.length < t.length∧∀ v ∈ s,v ∈ t:=by
 unfold bL; rw [List.any_eq_true]
 constructor
 ·rintro ⟨t,ht,h⟩
  rw [Bool.and_eq_true,decide_eq_true_iff,dw] at h
  exact ⟨t,ht,h⟩
 ·rintro ⟨t,ht,h⟩
  exact ⟨t,ht,by rw [Bool.and_eq_true,decide_eq_true_iff,dw]; exact h⟩
theorem yA {a b:Spx} (ha:bi bt a) (hb:bi bt b) (h:∀ v ∈ a,v ∈ b) (hne:a ≠ b):a.length < b.length:=by
 have h1:a.length ≤ b.length:=List.Nodup.length_le_of_subset (ha.nodup sQ) h
 rcases Nat.lt_or_ge a.length b.length with h2 | h2
 ·exact h2
 ·exfalso
  refine hne (kM sQ ha hb fun x=>⟨h x,fun hx=>Decidable.byContradiction fun hn=>?_⟩)
  have h3:(x :: a).length ≤ b.length:=List.Nodup.length_le_of_subset (List.nodup_cons.2 ⟨hn,ha.nodup sQ⟩) fun y hy=>by
   rcases List.mem_cons.1 hy with rfl | hy
   ·exact hx
   ·exact h y hy
  rw [List.length_cons] at h3
  omega
theorem sM {c:List Spx} (h:bH (jY c) c.length=0):(∀ s ∈ c,be s=0)∧bi aS c:=by
 have hz:=dK h
 have h3:∀ k,k < c.length→be (c.getD k default)=0∧(0 < k→aS (c.getD (k - 1) default) (c.getD k default) < 0):=fun k hk=>by
  have:=hz k hk
  unfold jY at this
  split at this
  ·exact absurd this ‹_›
  rename_i g1
  split at this
  ·exact absurd this (by decide)
  rename_i g2
  exact ⟨Decidable.of_not_not g1,fun h0=>by omega⟩
 constructor
 ·intro s hs
  obtain ⟨i,hi,rfl⟩:=List.getElem_of_mem hs
  have:=(h3 i hi).1
  rwa [show c.getD i default=c[i] by simp [List.getD,hi]] at this
 ·have step:∀ j i,i < j→j < c.length→aS (c.getD i default) (c.getD j default) < 0:=by
    intro j
    induction j with
    | zero=>intro i h; omega
    | succ j ih =>
     intro i hi hj
     have hs:=(h3 (j + 1) hj).2 (by omega)
     rw [Nat.add_sub_cancel] at hs
     by_cases e:i=j
     ·subst e; exact hs
     ·exact fm.trans (ih i (by omega) (by omega)) hs
  unfold bi
  rw [List.pairwise_iff_getElem]
  intro i j hi hj hij
  have:=step j i hij hj
  simpa [List.getD,hi,hj] using this
theorem iz {c:List Spx} (h:a5 c=0):c.length ≤ 4096∧(∀ s ∈ c,be s=0)∧bi aS c∧∀ s ∈ c,bL c s=false:=by
 unfold a5 at h
 split at h
 ·exact absurd h (by decide)
 split at h
 ·exact absurd h ‹_›
 split at h
 ·exact absurd h (by decide)
 rename_i h1 h2 h3
 have:=sM (Decidable.of_not_not h2)
 refine ⟨by omega,this.1,this.2,fun s hs=>?_⟩
 cases hc:bL c s
 ·rfl
 ·exact absurd (List.any_eq_true.2 ⟨s,hs,hc⟩) h3
theorem xI {l:List Spx} {s:Spx} {p:Spx→Bool} (h0:0 < s.length) (hp:∀ t,p t=true→s.getD 0 default ∈ t):((hZ l l.length (s.getD 0 default)).map fun (n:Nat)=>(n:Int)).any (fun i=>p (l.getD i.toNat default))=l.any p:=by
 rw [Bool.eq_iff_iff,List.any_eq_true,List.any_eq_true]
 constructor
 ·rintro ⟨x,hx,h⟩
  obtain ⟨n,hn,rfl⟩:=List.mem_map.1 hx
  unfold hZ at hn
  obtain ⟨h1,_⟩:=List.mem_filter.1 hn
  rw [Int.toNat_natCast] at h
  exact ⟨_,aP (List.mem_range.1 h1),h⟩
 ·rintro ⟨t,ht,h⟩
  obtain ⟨i,hi,rfl⟩:=List.getElem_of_mem ht
  have e:l.getD i default=l[i]:=by simp [List.getD,hi]
  refine ⟨(i:Int),List.mem_map.2 ⟨i,List.mem_filter.2 ⟨List.mem_range.2 hi,decide_eq_true ?_⟩,rfl⟩,?_⟩
  ·rw [e]; exact hp _ h
  ·rw [Int.toNat_natCast,e]; exact h
attribute [local irreducible] aB ai aW aN aG aH ay aJ aO ba Go.Abs.Fn aM Go.Abs.Pure ar aE Yl
theorem uK (l:List Int) (p:Int→Bool) (g:Nat) (caps:List AV) (hd:∀ x ∈ caps,Dat x) (hg:∀ x ∈ l,Pure Try.prog g (.int .i64 x :: caps) (.bool (p x))) (hl:Shn l):Pure Try.prog 108 [bc l,.func g caps] (.int .i64 (if l.any p then (l.findIdx p:Nat) else -1)):=by
 refine Pure.of_c2 follows AX (Nat.le_of_ble_eq_true rfl) ?_
 simp only [zI,cO,cG,cN,cM,cD,cF,cB,aA,aR]
 have hl':l.length ≤ 17592186044416:=hl
 (have zz:=and_self; repeat' (first|refine zW ?_|apply a_n|refine zO ?_|refine vZ ?_|fail)) <;> (try clear zz)
 refine bd (X:=Nat) (fun k=>[(0,bc l),(1,.func g caps),(6,bc l),(7,.int .i64 l.length),(8,.int .i64 k)]) (fun k H nx=>k ≤ l.length∧∀ i,i < k→p (l.getD i default)=false) (fun k=>l.length - k) 0 ⟨Nat.zero_le _,fun i h=>absurd h (by omega)⟩ ag0 ?_
 rintro k H nx ⟨hk,hz⟩
 by_cases hk2:k < l.length
 rotate_left
 ·rw [kN fun i hi=>hz i (by omega),if_neg (by decide)]
  (have zz:=and_self; repeat' (first|refine zW ?_|apply a_n|apply a_x|refine zO ?_|refine vY ?_|(refine zGY ?_ ?_ <;> (intro _hg; try (exfalso; omega)))|refine ak rfl ?_|refine r1Y ?_|fail)) <;> (try clear zz)
  exact co rfl
 have hc:=hg _ (aL hk2)
 cases hp:p (l.getD k default)
 ·rw [hp] at hc
  (have zz:=and_self; repeat' (first|refine zW ?_|apply a_n|refine zO ?_|refine vY ?_|(refine zGY ?_ ?_ <;> (intro _hg; try (exfalso; omega)))|fail)) <;> (try clear zz)
  refine bO ev0 ev0 hc (ac (an (.int _ _) (aQ hd))) ?_
  (have zz:=and_self; repeat' (first|apply a_n|refine zO ?_|refine vY ?_|refine cFY ?_|fail)) <;> (try clear zz)
  exact ⟨k + 1,by omega,⟨by omega,fun i hi=>by
   rcases Nat.lt_succ_iff_lt_or_eq.1 hi with h | rfl
   ·exact hz i h
   ·exact hp⟩,ag0⟩
 ·rw [hp] at hc
  obtain ⟨e1,e2⟩:=qm hk2 hz hp
  rw [e1,e2,if_pos rfl]
  (have zz:=and_self; repeat' (first|refine zW ?_|apply a_n|refine zO ?_|refine vY ?_|(refine zGY ?_ ?_ <;> (intro _hg; try (exfalso; omega)))|fail)) <;> (try clear zz)
  refine bO ev0 ev0 hc (ac (an (.int _ _) (aQ hd))) ?_
  (have zz:=and_self; repeat' (first|refine zW ?_|apply a_n|apply a_r|refine zO ?_|refine vY ?_|refine cTY ?_|refine ak rfl ?_|refine r1Y ?_|fail)) <;> (try clear zz)
  exact .int _ _
theorem pV (l:List Int) (p:Int→Bool) (g:Nat) (caps:List AV) (hd:∀ x ∈ caps,Dat x) (hg:∀ x ∈ l,Pure Try.prog g (.int .i64 x :: caps) (.bool (p x))) (hl:Shn l):Pure Try.prog 91 [bc l,.func g caps] (.bool (l.any p)):=by
 refine Pure.of_c2 follows BN (Nat.le_of_ble_eq_true rfl) ?_
 simp only [b91,cO,cG,cN,cM,cD,cF,cB,aA,aR]
 have h:=uK l p g caps hd hg hl
 (have zz:=and_self; repeat' (first|refine zW ?_|apply a_n|refine zO ?_|refine vZ ?_|refine cZ ?_ (hp:=h) (hs:=by (first | refine ab ?_ rfl | apply ac); (repeat' (first | exact aa | apply am | apply ae | exact bW _ | exact Dat.func hd)); first | done | fail)|refine ak rfl ?_|refine r1Z ?_|fail)) <;> (try clear zz)
 cases hA:l.any p
 ·exact bn (by simp)
 ·exact bn (by simp)
def OkS (l:List Spx):Prop:=l.length ≤ 100000∧∀ s ∈ l,bi bt s∧s.length ≤ 1000
theorem sy (l:List Spx) (s:Spx) (i:Nat) (hl:OkS l) (hs:bi bt s∧s.length ≤ 1000) (hi:i < l.length):Pure Try.prog 92 [.int .i64 i,.iptr [au l] 0,.iptr [av s] 0] (.bool (decide (s.length < (l.getD i default).length) && cQ s (l.getD i default))):=by
 refine Pure.of_c2 follows BQ (Nat.le_of_ble_eq_true rfl) ?_
 simp only [b92,cO,cG,cN,cM,cD,cF,cB,aA,aR]
 have ix:=dH hi
 obtain ⟨t1,t2⟩:=hl.2 _ (aP hi)
 have hf:=zi s (l.getD i default) hs.1 t1 (by omega) (by omega)
 generalize l.getD i default=t at *
 by_cases h:s.length < t.length
 ·have z:decide ((s.length:Int) < t.length)=true:=decide_eq_true (by omega)
  rw [decide_eq_true h,Bool.true_and]
  (have zz:=aI @ap (aI @ix @z); repeat' (first|refine zW ?_|refine zM ?_|apply a_n|refine zO ?_|refine vZ ?_|refine cZ ?_ (hp:=hf) (hs:=by (first | refine ab ?_ rfl | apply ac); (repeat' (first | exact aa | apply am | apply ae | exact ax _)); first | done | fail)|refine gTZ ?_|refine ak rfl ?_|refine r1Z ?_|fail)) <;> (try clear zz)
  exact .bool _
 ·have z:decide ((s.length:Int) < t.length)=false:=decide_eq_false (by omega)
  rw [decide_eq_false h,Bool.false_and]
  (have zz:=aI @ap (aI @ix @z); repeat' (first|refine zW ?_|refine zM ?_|apply a_n|refine zO ?_|refine vZ ?_|refine gFZ ?_|refine ak rfl ?_|refine r1Z ?_|fail)) <;> (try clear zz)
  exact .bool _
theorem uH (l:List Spx) (s:Spx) (hl:OkS l) (hs:bi bt s∧s.length ≤ 1000) (h0:0 < s.length):Pure Try.prog 77 [au l,bc ((hZ l l.length (s.getD 0 default)).map fun (n:Nat)=>(n:Int)),av s] (.bool (bL l s)):=by
 refine Pure.of_c2 follows BI (Nat.le_of_ble_eq_true rfl) ?_
 simp only [b77,cO,cG,cN,cM,cD,cF,cB,aA,aR]
 have hll:=hl.1
 have h:=pV ((hZ l l.length (s.getD 0 default)).map fun (n:Nat)=>(n:Int)) (fun i=>decide (s.length < (l.getD i.toNat default).length) && cQ s (l.getD i.toNat default)) 92 [.iptr [au l] 0,.iptr [av s] 0] (DatL.cons (Dat.iptr (DatL.cons (aC _) DatL.nil)) (DatL.cons (Dat.iptr (DatL.cons (ax _) DatL.nil)) DatL.nil)) (fun x hx=>by
  obtain ⟨n,hn,rfl⟩:=List.mem_map.1 hx
  have hn2:n < l.length:=List.mem_range.1 (List.mem_filter.1 hn).1
  rw [Int.toNat_natCast]
  exact sy l s n hl hs hn2) (by rw [Shn,List.length_map]; have:=p9 (l:=l) (i:=l.length) (v:=s.getD 0 default); omega)
 rw [xI (p:=fun t=>decide (s.length < t.length) && cQ s t) h0 (fun t ht=>by
  rw [Bool.and_eq_true,dw] at ht
  exact ht.2 _ (aP h0))] at h
 (have zz:=aI @ao (aI @aj (aI @az @aw)); repeat' (first|refine zW ?_|apply a_n|refine zO ?_|refine vZ ?_|refine bxZ ?_|fail)) <;> (try clear zz)
 refine bO (have zz:=aI @ao (aI @aj (aI @az @aw)); evZ) (have zz:=aI @ao (aI @aj (aI @az @aw)); evZ) h (ab (an (bW _ _) (an (uJ (an (qE rfl rfl (an (aC _ _) aa)) (an (qE rfl rfl (an (ax _ _) aa)) aa))) aa)) rfl) ?_
 (have zz:=and_self; repeat' (first|apply a_n|refine zO ?_|refine vZ ?_|refine ak rfl ?_|refine r1Z ?_|fail)) <;> (try clear zz)
 exact .bool _
end Go.Proofs.Ytfcenbapjhecfaa
namespace Go.Proofs.Ytfcenbapjhecfaa
open Go Go.Abs
theorem wn {H:Hp} {sv:AV} {F:List Nat} (h:Row H 1 sv (F.map rV)):Snap H sv (bc (F.map fun (n:Nat)=>(n:Int))):=by
 refine Row.snapI ?_
 rw [List.map_map]; exact h
theorem nw {c:List Spx} {k:Nat}:jY c k=if be (c.getD k default) ≠ 0 then be (c.getD k default) else if 0 < k∧0 ≤ aS (c.getD (k - 1) default) (c.getD k default) then 14 else 0:=rfl
theorem wy {c:List Spx} (h1:c.length ≤ 4096) (h:∀ s ∈ c,be s=0):OkS c:=⟨by omega,fun s hs=>by
 obtain ⟨a1,a2,a3,a4⟩:=cL (h s hs)
 exact ⟨a3,by omega⟩⟩
theorem iT {H:Hp} {b:Nat} {cs:List AV} (h:H b=some cs):Sub (only b cs) H:=fun x c hx=>by
 unfold only at hx
 split at hx
 ·rename_i e; rw [e,h]; exact hx
 ·cases hx
def on2 (b1:Nat) (c1:List AV) (b2:Nat) (c2:List AV):Hp:=fun x=>if x=b1 then some c1 else if x=b2 then some c2 else none
theorem yg {b1 b2:Nat} {c1 c2:List AV}:on2 b1 c1 b2 c2 b1=some c1:=if_pos rfl
theorem yi {b1 b2:Nat} {c1 c2:List AV} (h:b2 ≠ b1):on2 b1 c1 b2 c2 b2=some c2:=by unfold on2; rw [if_neg h,if_pos rfl]
theorem pk {b1 b2:Nat} {c1 c2:List AV} {H:Hp} (h1:H b1=some c1) (h2:H b2=some c2):Sub (on2 b1 c1 b2 c2) H:=fun x cs h=>by
 unfold on2 at h
 split at h
 ·rename_i e; rw [e,h1]; exact h
 ·split at h
  ·rename_i e; rw [e,h2]; exact h
  ·cases h
theorem ph {P:Program} {T:Tm} {H:Hp} {nx:Nat} (b1 b2:Nat) {c1 c2:List AV} {K:CP} {m:Nat} {l:List Op2} {C:List (Nat × Nat)} (h1:H b1=some c1) (h2:H b2=some c2) (hne:b2 ≠ b1) (k:∀ S:Hp,S b1=some c1→S b2=some c2→(∀ H':Hp,H' b1=some c1→H' b2=some c2→Sub S H')→a7 P S (C.map fun k=>(l.getD k.1 ⟨none,none,.dead⟩,k.2)) T H nx fun T H nx=>K .normal T H nx):aB P (.mixS m l C) T H nx K :=
 sk (on2 b1 c1 b2 c2) rfl (pk h1 h2) (k _ yg (yi hne) fun _ a b=>pk a b)
theorem mF {P:Program} {T:Tm} {H:Hp} {nx:Nat} (b:Nat) {c:List AV} {K:CP} {m:Nat} {l:List Op2} {C:List (Nat × Nat)} (h:H b=some c) (k:∀ S:Hp,S b=some c→(∀ H':Hp,H' b=some c→Sub S H')→a7 P S (C.map fun k=>(l.getD k.1 ⟨none,none,.dead⟩,k.2)) T H nx fun T H nx=>K .normal T H nx):aB P (.mixS m l C) T H nx K :=
 sk (only b c) rfl (iT h) (k _ jI fun _ h=>iT h)
attribute [local irreducible] aB ai aW aN aG aH ay aJ aO ba Go.Abs.Fn aM Go.Abs.Pure ar aE Yl
set_option maxHeartbeats 2000000 in
theorem jH (c:List Spx) (hc:Shn c) (hs:∀ s ∈ c,Shn s):Pure Try.prog 49 [eS c] (.int .i64 (a5 c)):=by
 refine Pure.of_c2 follows BP (Nat.le_of_ble_eq_true rfl) ?_
 simp only [b49,cO,cG,cN,cM,cD,cF,cB,aA,aR]
 have hc':c.length ≤ 17592186044416:=hc
 by_cases h0:4096 < c.length
 ·rw [show a5 c=5 by unfold a5; rw [if_pos h0]]
  (have zz:=aI @ag (aI @ao @aj); repeat' (first|refine zW ?_|apply a_n|apply a_r|refine zO ?_|refine vZ ?_|refine bxZ ?_|(refine zGZ ?_ ?_ <;> (intro _hg; try (exfalso; omega)))|refine ak rfl ?_|refine r1Z ?_|fail)) <;> (try clear zz)
  all_goals exact co rfl
 rw [show a5 c=if bH (jY c) c.length ≠ 0 then bH (jY c) c.length else if c.any (bL c)=true then 7 else 0 by unfold a5; rw [if_neg h0]]
 refine dE ?_
 (have zz:=aI @ag (aI @ao @aj); repeat' (first|apply a_n|refine zO ?_|refine vZ ?_|refine bxZ ?_|fail)) <;> (try clear zz)
 refine dE (dE ?_)
 (have zz:=aI @ag (aI @ao @aj); repeat' (first|apply a_n|refine zO ?_|refine vZ ?_|(refine zGZ ?_ ?_ <;> (intro _hg; try (exfalso; omega)))|fail)) <;> (try clear zz)
 by_cases hz:bH (jY c) c.length ≠ 0
 ·rw [if_pos hz]
  (have zz:=aI @ag (aI @ao @aj); repeat' (first|refine zW ?_|apply a_n|refine zO ?_|refine vZ ?_|fail)) <;> (try clear zz)
  refine bd (X:=Nat) (fun k=>[(1,.ptr 0 1 0),(14,au c),(15,.int .i64 c.length),(16,.int .i64 k)]) (fun k H nx=>k ≤ c.length∧H 0=some [au c]∧∀ i,i < k→jY c i=0) (fun k=>c.length - k) 0 ⟨Nat.zero_le _,rfl,fun i h=>absurd h (by omega)⟩ (by (iterate 4 refine And.intro rfl ?_); trivial) ?_
  rintro k H nx ⟨h1,g0,h2⟩
  by_cases hk:k < c.length
  rotate_left
  ·exact absurd (bJ fun i hi=>h2 i (by omega)) hz
  have ix:=dH hk
  have hs1:=hs _ (aP hk)
  have hp:=jK (c.getD k default) hs1
  have hsp:=nw (c:=c) (k:=k)
  by_cases he:be (c.getD k default) ≠ 0
  ·rw [if_pos he] at hsp
   rw [bz hk h2 (by rw [hsp]; exact he),hsp]
   have z:decide (be (c.getD k default) ≠ 0)=true:=decide_eq_true he
   (have zz:=aI @ag (aI @ix @z); repeat' (first|refine zW ?_|apply a_n|apply a_r|refine zO ?_|refine vY ?_|refine cY ?_ (hp:=hp) (hs:=by (first | refine ab ?_ rfl | apply ac); (repeat' (first | exact aa | apply am | apply ae | exact ax _)); first | done | fail)|refine cTY ?_|(refine zGY ?_ ?_ <;> (intro _hg; try (exfalso; omega)))|refine ak rfl ?_|refine r1Y ?_|fail)) <;> (try clear zz)
   exact .int _ _
  rw [if_neg he] at hsp
  have he:=Decidable.of_not_not he
  rw [he] at hp
  have z:decide ((0:Int) ≠ 0)=false:=rfl
  by_cases hk0:0 < k
  rotate_left
  ·rw [if_neg (fun h=>hk0 h.1)] at hsp
   have zk:decide (0 < (k:Int))=false:=decide_eq_false (by omega)
   (have zz:=aI @ag (aI @ix (aI @z @zk)); repeat' (first|refine zW ?_|apply a_n|refine zO ?_|refine vY ?_|refine cY ?_ (hp:=hp) (hs:=by (first | refine ab ?_ rfl | apply ac); (repeat' (first | exact aa | apply am | apply ae | exact ax _)); first | done | fail)|refine gFY ?_|refine cFY ?_|(refine zGY ?_ ?_ <;> (intro _hg; try (exfalso; omega)))|fail)) <;> (try clear zz)
   exact ⟨k + 1,by omega,⟨by omega,g0,fun i hi=>by
    rcases Nat.lt_succ_iff_lt_or_eq.1 hi with h' | rfl
    ·exact h2 i h'
    ·exact hsp⟩,ag0⟩
  have zk:decide (0 < (k:Int))=true:=decide_eq_true (by omega)
  have iy:cS 1 (au c) (.int .i64 ((k:Int) - 1))=some (.iptr [av (c.getD (k - 1) default)] 0):=by
   have:=dH (l:=c) (k:=k - 1) (by omega)
   rwa [show ((k - 1:Nat):Int)=(k:Int) - 1 by omega] at this
  have hcm:=dP (c.getD (k - 1) default) (c.getD k default) (hs _ (aP (by omega))) hs1
  by_cases hv:0 ≤ aS (c.getD (k - 1) default) (c.getD k default)
  ·have z2:decide (0 ≤ aS (c.getD (k - 1) default) (c.getD k default))=true:=decide_eq_true hv
   rw [if_pos ⟨hk0,hv⟩] at hsp
   rw [bz hk h2 (by rw [hsp]; decide),hsp]
   (have zz:=aI @ag (aI @ix (aI @iy (aI @z (aI @zk (aI @z2 @g0))))); repeat' (first|refine zW ?_|apply a_n|apply a_r|refine zO ?_|refine vY ?_|refine cY ?_ (hp:=by first | exact hp | exact hcm) (hs:=by (first | refine ab ?_ rfl | apply ac); (repeat' (first | exact aa | apply am | apply ae | exact ax _)); first | done | fail)|refine gTY ?_|refine cTY ?_|refine cFY ?_|(refine zGY ?_ ?_ <;> (intro _hg; try (exfalso; omega)))|refine ak rfl ?_|refine r1Y ?_|fail)) <;> (try clear zz)
   exact .int _ _
  ·have z2:decide (0 ≤ aS (c.getD (k - 1) default) (c.getD k default))=false:=decide_eq_false hv
   rw [if_neg (fun h=>hv h.2)] at hsp
   (have zz:=aI @ag (aI @ix (aI @iy (aI @z (aI @zk (aI @z2 @g0))))); repeat' (first|refine zW ?_|apply a_n|refine zO ?_|refine vY ?_|refine cY ?_ (hp:=by first | exact hp | exact hcm) (hs:=by (first | refine ab ?_ rfl | apply ac); (repeat' (first | exact aa | apply am | apply ae | exact ax _)); first | done | fail)|refine gTY ?_|refine cFY ?_|(refine zGY ?_ ?_ <;> (intro _hg; try (exfalso; omega)))|fail)) <;> (try clear zz)
   exact ⟨k + 1,by omega,⟨by omega,g0,fun i hi=>by
    rcases Nat.lt_succ_iff_lt_or_eq.1 hi with h' | rfl
    ·exact h2 i h'
    ·exact hsp⟩,ag0⟩
 have hz:=Decidable.of_not_not hz
 rw [if_neg (fun h=>h hz)]
 obtain ⟨a1,a2⟩:=sM hz
 have hall:=dK hz
 have hok:=wy (by omega) a1
 refine bv (fun T H nx=>T 1=.ptr 0 1 0∧H 0=some [au c]∧1 ≤ nx) ?_ ?_
 ·(have zz:=aI @ag (aI @ao @aj); repeat' (first|refine zW ?_|apply a_n|refine zO ?_|refine vZ ?_|fail)) <;> (try clear zz)
  refine bd (X:=Nat) (fun k=>[(1,.ptr 0 1 0),(14,au c),(15,.int .i64 c.length),(16,.int .i64 k)]) (fun k H nx=>k ≤ c.length∧H 0=some [au c]∧1 ≤ nx) (fun k=>c.length - k) 0 ⟨Nat.zero_le _,rfl,by omega⟩ (by (iterate 4 refine And.intro rfl ?_); trivial) ?_
  rintro k H nx ⟨h1,g0,hnx⟩
  by_cases hk:k < c.length
  rotate_left
  ·(have zz:=and_self; repeat' (first|refine zW ?_|apply a_n|apply a_x|refine zO ?_|refine vY ?_|(refine zGY ?_ ?_ <;> (intro _hg; try (exfalso; omega)))|fail)) <;> (try clear zz)
   exact ⟨rfl,g0,hnx⟩
  have ix:=dH hk
  have hs1:=hs _ (aP hk)
  have hp:=jK (c.getD k default) hs1
  rw [a1 _ (aP hk)] at hp
  have z:decide ((0:Int) ≠ 0)=false:=rfl
  by_cases hk0:0 < k
  rotate_left
  ·have zk:decide (0 < (k:Int))=false:=decide_eq_false (by omega)
   (have zz:=aI @ag (aI @ix (aI @z @zk)); repeat' (first|refine zW ?_|apply a_n|refine zO ?_|refine vY ?_|refine cY ?_ (hp:=hp) (hs:=by (first | refine ab ?_ rfl | apply ac); (repeat' (first | exact aa | apply am | apply ae | exact ax _)); first | done | fail)|refine gFY ?_|refine cFY ?_|(refine zGY ?_ ?_ <;> (intro _hg; try (exfalso; omega)))|fail)) <;> (try clear zz)
   exact ⟨k + 1,by omega,⟨by omega,g0,hnx⟩,ag0⟩
  have zk:decide (0 < (k:Int))=true:=decide_eq_true (by omega)
  have iy:cS 1 (au c) (.int .i64 ((k:Int) - 1))=some (.iptr [av (c.getD (k - 1) default)] 0):=by
   have:=dH (l:=c) (k:=k - 1) (by omega)
   rwa [show ((k - 1:Nat):Int)=(k:Int) - 1 by omega] at this
  have hcm:=dP (c.getD (k - 1) default) (c.getD k default) (hs _ (aP (by omega))) hs1
  have z2:decide (0 ≤ aS (c.getD (k - 1) default) (c.getD k default))=false:=decide_eq_false (by have:=bV a2 (i:=k - 1) (j:=k) (by omega) hk; omega)
  (have zz:=aI @ag (aI @ix (aI @iy (aI @z (aI @zk (aI @z2 @g0))))); repeat' (first|refine zW ?_|apply a_n|refine zO ?_|refine vY ?_|refine cY ?_ (hp:=by first | exact hp | exact hcm) (hs:=by (first | refine ab ?_ rfl | apply ac); (repeat' (first | exact aa | apply am | apply ae | exact ax _)); first | done | fail)|refine gTY ?_|refine cFY ?_|(refine zGY ?_ ?_ <;> (intro _hg; try (exfalso; omega)))|fail)) <;> (try clear zz)
  exact ⟨k + 1,by omega,⟨by omega,g0,hnx⟩,ag0⟩
 rintro T H nx ⟨t1,g0,hnx⟩
 (have zz:=aI @t1 @g0; repeat' (first|refine zW ?_|apply a_n|refine zO ?_|refine vY ?_|fail)) <;> (try clear zz)
 refine aV ev0 (have zz:=@t1; evZ) (rz c hok.1 (fun s hs=>⟨(hok.2 s hs).1,by have:=(hok.2 s hs).2; omega⟩) _ _) ?_
 rintro _ H1 nx1 ⟨ks,vs,rfl,hinc,hsame,hlt⟩
 have g0':H1 0=some [au c]:=(hsame 0 (by omega)).trans g0
 (have zz:=aI @t1 (aI @g0' @ag); repeat' (first|refine zW ?_|apply a_n|refine zO ?_|refine vY ?_|fail)) <;> (try clear zz)
 refine bd (X:=Nat) (fun k=>[(1,.ptr 0 1 0),(6,.mp nx),(44,au c),(45,.int .i64 c.length),(46,.int .i64 k)]) (fun k H' nx'=>k ≤ c.length∧H'=H1∧nx'=nx1∧∀ i,i < k→bL c (c.getD i default)=false) (fun k=>c.length - k) 0 ⟨Nat.zero_le _,rfl,rfl,fun i h=>absurd h (by omega)⟩ (have zz:=@t1; agZ) ?_
 rintro k H' nx' ⟨h1,rfl,rfl,h2⟩
 by_cases hk:k < c.length
 rotate_left
 ·rw [kN fun i hi=>h2 i (by omega),if_neg (by decide)]
  (have zz:=and_self; repeat' (first|refine zW ?_|apply a_n|apply a_x|refine zO ?_|refine vY ?_|(refine zGY ?_ ?_ <;> (intro _hg; try (exfalso; omega)))|refine ak rfl ?_|refine r1Y ?_|fail)) <;> (try clear zz)
  exact .int _ _
 have ix:=dH hk
 obtain ⟨p1,p2,p3,p4⟩:=cL (a1 _ (aP hk))
 have hcv:=uH c (c.getD k default) hok (hok.2 _ (aP hk)) (by omega)
 have iy:=ix2 (l:=c.getD k default) (k:=0) (by omega)
 rw [show ((0:Nat):Int)=0 from rfl] at iy
 have hks:(c.getD k default).getD 0 default ∈ ks:=(hinc.dom _).2 fun e=>by
  have:k ∈ hZ c c.length ((c.getD k default).getD 0 default):=List.mem_filter.2 ⟨List.mem_range.2 hk,decide_eq_true (aP (by omega))⟩
  rw [e] at this; cases this
 have hmf:=vE ((c.getD k default).getD 0 default) ks
 rw [if_pos hks] at hmf
 obtain ⟨m1,m2⟩:=pP hks
 have hr:=hinc.row _ m1
 rw [m2] at hr
 have hcb:bL c (c.getD k default)=true→c.any (bL c)=true:=fun h=>List.any_eq_true.2 ⟨_,aP hk,h⟩
 generalize hsk:c.getD k default=s at *
 (have zz:=@ix; repeat' (first|refine zW ?_|apply a_n|refine zO ?_|refine vY ?_|(refine zGY ?_ ?_ <;> (intro _hg; try (exfalso; omega)))|fail)) <;> (try clear zz)
 refine mF 0 g0' fun S hS0 hsub'=>?_
 have hsub:=hsub' H' g0'
 (have zz:=aI @hS0 @iy; repeat' (first|apply a_n|refine zO ?_|refine nvY ?_|fail)) <;> (try clear zz)
 refine iC ?_
 refine sa ev0 hinc.box ev0 (v5 _) hmf ?_
 refine oH ⟨hsub,?_⟩
 rw [show mget .esl false (some (ks.idxOf (s.getD 0 default))) vs=vs.getD (ks.idxOf (s.getD 0 default)) .undef from rfl]
 refine kQ ?_
 cases hb:bL c s
 ·rw [hb] at hcv
  refine bO ev0 ev0 hcv (ab (an (aC _ _) (an (wn hr) (an (ax _ _) aa))) rfl) ?_
  (have zz:=and_self; repeat' (first|apply a_n|refine zO ?_|refine vY ?_|refine cFY ?_|fail)) <;> (try clear zz)
  exact ⟨k + 1,by omega,⟨by omega,rfl,rfl,fun i hi=>by
   rcases Nat.lt_succ_iff_lt_or_eq.1 hi with h' | rfl
   ·exact h2 i h'
   ·rw [hsk]; exact hb⟩,ag0⟩
 ·rw [hb] at hcv
  rw [hcb hb,if_pos rfl]
  refine bO ev0 ev0 hcv (ab (an (aC _ _) (an (wn hr) (an (ax _ _) aa))) rfl) ?_
  (have zz:=and_self; repeat' (first|refine zW ?_|apply a_n|apply a_r|refine zO ?_|refine vY ?_|refine cTY ?_|refine ak rfl ?_|refine r1Y ?_|fail)) <;> (try clear zz)
  exact .int _ _
end Go.Proofs.Ytfcenbapjhecfaa
namespace Go.Proofs.Ytfcenbapjhecfaa
open Go Go.Abs
theorem u9 {c:List Spx} (h1:∀ s ∈ c,bi bt s) (h2:bi aS c) {i k:Nat} (hi:i < c.length) (hk:k < c.length) (hik:i ≠ k) (h:cQ (c.getD i default) (c.getD k default)=true):bL c (c.getD i default)=true:=by
 refine jk.2 ⟨_,aP hk,yA (h1 _ (aP hi)) (h1 _ (aP hk)) (dw.1 h) fun e=>?_,dw.1 h⟩
 rcases Nat.lt_trichotomy i k with q | q | q
 ·have:=bV h2 q hk; rw [e] at this; exact fm.ord.irr _ this
 ·exact hik q
 ·have:=bV h2 q hi; rw [e] at this; exact fm.ord.irr _ this
theorem wC {c:List Spx} {i:Nat} (h:bL c (c.getD i default)=true):∃ k,k < c.length∧i ≠ k∧cQ (c.getD i default) (c.getD k default)=true:=by
 obtain ⟨t,ht,h1,h2⟩:=jk.1 h
 obtain ⟨k,hk,rfl⟩:=List.getElem_of_mem ht
 have e:c.getD k default=c[k]:=by simp [List.getD,hk]
 refine ⟨k,hk,fun hik=>?_,by rw [e]; exact dw.2 h2⟩
 subst hik
 rw [e] at h1; omega
attribute [local irreducible] aB ai aW aN aG aH ay aJ aO ba Go.Abs.Fn aM Go.Abs.Pure ar aE Yl
set_option maxHeartbeats 2000000 in
theorem xq (c:List Spx) (hc:Shn c) (hs:∀ s ∈ c,Shn s):Pure Try.prog 30 [eS c] (.int .i64 (a5 c)):=by
 refine Pure.of_c2 follows BJ (Nat.le_of_ble_eq_true rfl) ?_
 simp only [b30,cO,cG,cN,cM,cD,cF,cB,aA,aR]
 have hc':c.length ≤ 17592186044416:=hc
 by_cases h0:4096 < c.length
 ·rw [show a5 c=5 by unfold a5; rw [if_pos h0]]
  (have zz:=aI @ag (aI @ao @aj); repeat' (first|refine zW ?_|apply a_n|apply a_r|refine zO ?_|refine vZ ?_|refine bxZ ?_|(refine zGZ ?_ ?_ <;> (intro _hg; try (exfalso; omega)))|refine ak rfl ?_|refine r1Z ?_|fail)) <;> (try clear zz)
  all_goals exact co rfl
 rw [show a5 c=if bH (jY c) c.length ≠ 0 then bH (jY c) c.length else if c.any (bL c)=true then 7 else 0 by unfold a5; rw [if_neg h0]]
 refine dE ?_
 (have zz:=aI @ag (aI @ao @aj); repeat' (first|apply a_n|refine zO ?_|refine vZ ?_|refine bxZ ?_|fail)) <;> (try clear zz)
 refine dE ?_
 (have zz:=aI @ag (aI @ao @aj); repeat' (first|apply a_n|refine zO ?_|refine vZ ?_|fail)) <;> (try clear zz)
 refine dE (dE ?_)
 (have zz:=aI @ag (aI @ao @aj); repeat' (first|apply a_n|refine zO ?_|refine vZ ?_|(refine zGZ ?_ ?_ <;> (intro _hg; try (exfalso; omega)))|fail)) <;> (try clear zz)
 by_cases hz:bH (jY c) c.length ≠ 0
 ·rw [if_pos hz]
  (have zz:=aI @ag (aI @ao @aj); repeat' (first|refine zW ?_|apply a_n|refine zO ?_|refine vZ ?_|fail)) <;> (try clear zz)
  refine bd (X:=Nat) (fun k=>[(3,au c),(4,.int .i64 k)]) (fun k H nx=>k ≤ c.length∧∀ i,i < k→jY c i=0) (fun k=>c.length - k) 0 ⟨Nat.zero_le _,fun i h=>absurd h (by omega)⟩ ag0 ?_
  rintro k H nx ⟨h1,h2⟩
  by_cases hk:k < c.length
  rotate_left
  ·exact absurd (bJ fun i hi=>h2 i (by omega)) hz
  have ix:=dH hk
  have hs1:=hs _ (aP hk)
  have hp:=sZ (c.getD k default) hs1
  have hsp:=nw (c:=c) (k:=k)
  by_cases he:be (c.getD k default) ≠ 0
  ·rw [if_pos he] at hsp
   rw [bz hk h2 (by rw [hsp]; exact he),hsp]
   have z:decide (be (c.getD k default) ≠ 0)=true:=decide_eq_true he
   (have zz:=aI @ag (aI @ix @z); repeat' (first|refine zW ?_|apply a_n|apply a_r|refine zO ?_|refine vY ?_|refine cY ?_ (hp:=hp) (hs:=by (first | refine ab ?_ rfl | apply ac); (repeat' (first | exact aa | apply am | apply ae | exact ax _)); first | done | fail)|refine cTY ?_|(refine zGY ?_ ?_ <;> (intro _hg; try (exfalso; omega)))|refine ak rfl ?_|refine r1Y ?_|fail)) <;> (try clear zz)
   exact .int _ _
  rw [if_neg he] at hsp
  have he:=Decidable.of_not_not he
  rw [he] at hp
  have z:decide ((0:Int) ≠ 0)=false:=rfl
  by_cases hk0:0 < k
  rotate_left
  ·rw [if_neg (fun h=>hk0 h.1)] at hsp
   have zk:decide (0 < (k:Int))=false:=decide_eq_false (by omega)
   (have zz:=aI @ag (aI @ix (aI @z @zk)); repeat' (first|refine zW ?_|refine zM ?_|apply a_n|refine zO ?_|refine vY ?_|refine cY ?_ (hp:=hp) (hs:=by (first | refine ab ?_ rfl | apply ac); (repeat' (first | exact aa | apply am | apply ae | exact ax _)); first | done | fail)|refine gFY ?_|refine cFY ?_|(refine zGY ?_ ?_ <;> (intro _hg; try (exfalso; omega)))|fail)) <;> (try clear zz)
   exact ⟨k + 1,by omega,⟨by omega,fun i hi=>by
    rcases Nat.lt_succ_iff_lt_or_eq.1 hi with h' | rfl
    ·exact h2 i h'
    ·exact hsp⟩,ag0⟩
  have zk:decide (0 < (k:Int))=true:=decide_eq_true (by omega)
  have iy:cS 1 (au c) (.int .i64 ((k:Int) - 1))=some (.iptr [av (c.getD (k - 1) default)] 0):=by
   have:=dH (l:=c) (k:=k - 1) (by omega)
   rwa [show ((k - 1:Nat):Int)=(k:Int) - 1 by omega] at this
  have hcm:=iP (c.getD (k - 1) default) (c.getD k default) (hs _ (aP (by omega))) hs1
  by_cases hv:0 ≤ aS (c.getD (k - 1) default) (c.getD k default)
  ·have z2:decide (0 ≤ aS (c.getD (k - 1) default) (c.getD k default))=true:=decide_eq_true hv
   rw [if_pos ⟨hk0,hv⟩] at hsp
   rw [bz hk h2 (by rw [hsp]; decide),hsp]
   (have zz:=aI @ag (aI @ix (aI @iy (aI @z (aI @zk @z2)))); repeat' (first|refine zW ?_|refine zM ?_|apply a_n|apply a_r|refine zO ?_|refine vY ?_|refine cY ?_ (hp:=by first | exact hp | exact hcm) (hs:=by (first | refine ab ?_ rfl | apply ac); (repeat' (first | exact aa | apply am | apply ae | exact ax _)); first | done | fail)|refine gTY ?_|refine cTY ?_|refine cFY ?_|(refine zGY ?_ ?_ <;> (intro _hg; try (exfalso; omega)))|refine ak rfl ?_|refine r1Y ?_|fail)) <;> (try clear zz)
   exact .int _ _
  ·have z2:decide (0 ≤ aS (c.getD (k - 1) default) (c.getD k default))=false:=decide_eq_false hv
   rw [if_neg (fun h=>hv h.2)] at hsp
   (have zz:=aI @ag (aI @ix (aI @iy (aI @z (aI @zk @z2)))); repeat' (first|refine zW ?_|refine zM ?_|apply a_n|refine zO ?_|refine vY ?_|refine cY ?_ (hp:=by first | exact hp | exact hcm) (hs:=by (first | refine ab ?_ rfl | apply ac); (repeat' (first | exact aa | apply am | apply ae | exact ax _)); first | done | fail)|refine gTY ?_|refine cFY ?_|(refine zGY ?_ ?_ <;> (intro _hg; try (exfalso; omega)))|fail)) <;> (try clear zz)
   exact ⟨k + 1,by omega,⟨by omega,fun i hi=>by
    rcases Nat.lt_succ_iff_lt_or_eq.1 hi with h' | rfl
    ·exact h2 i h'
    ·exact hsp⟩,ag0⟩
 have hz:=Decidable.of_not_not hz
 rw [if_neg (fun h=>h hz)]
 obtain ⟨a1,a2⟩:=sM hz
 have hok:=wy (by omega) a1
 refine bv (fun T H nx=>T 3=au c) ?_ ?_
 ·(have zz:=aI @ag (aI @ao @aj); repeat' (first|refine zW ?_|apply a_n|refine zO ?_|refine vZ ?_|fail)) <;> (try clear zz)
  refine bd (X:=Nat) (fun k=>[(3,au c),(4,.int .i64 k)]) (fun k H nx=>k ≤ c.length) (fun k=>c.length - k) 0 (Nat.zero_le _) ag0 ?_
  rintro k H nx h1
  by_cases hk:k < c.length
  rotate_left
  ·(have zz:=@ag; repeat' (first|refine zW ?_|apply a_n|apply a_x|refine zO ?_|refine vY ?_|(refine zGY ?_ ?_ <;> (intro _hg; try (exfalso; omega)))|fail)) <;> (try clear zz)
   exact rfl
  have ix:=dH hk
  have hs1:=hs _ (aP hk)
  have hp:=sZ (c.getD k default) hs1
  rw [a1 _ (aP hk)] at hp
  have z:decide ((0:Int) ≠ 0)=false:=rfl
  by_cases hk0:0 < k
  rotate_left
  ·have zk:decide (0 < (k:Int))=false:=decide_eq_false (by omega)
   (have zz:=aI @ag (aI @ix (aI @z @zk)); repeat' (first|refine zW ?_|refine zM ?_|apply a_n|refine zO ?_|refine vY ?_|refine cY ?_ (hp:=hp) (hs:=by (first | refine ab ?_ rfl | apply ac); (repeat' (first | exact aa | apply am | apply ae | exact ax _)); first | done | fail)|refine gFY ?_|refine cFY ?_|(refine zGY ?_ ?_ <;> (intro _hg; try (exfalso; omega)))|fail)) <;> (try clear zz)
   exact ⟨k + 1,by omega,by omega,ag0⟩
  have zk:decide (0 < (k:Int))=true:=decide_eq_true (by omega)
  have iy:cS 1 (au c) (.int .i64 ((k:Int) - 1))=some (.iptr [av (c.getD (k - 1) default)] 0):=by
   have:=dH (l:=c) (k:=k - 1) (by omega)
   rwa [show ((k - 1:Nat):Int)=(k:Int) - 1 by omega] at this
  have hcm:=iP (c.getD (k - 1) default) (c.getD k default) (hs _ (aP (by omega))) hs1
  have z2:decide (0 ≤ aS (c.getD (k - 1) default) (c.getD k default))=false:=decide_eq_false (by have:=bV a2 (i:=k - 1) (j:=k) (by omega) hk; omega)
  (have zz:=aI @ag (aI @ix (aI @iy (aI @z (aI @zk @z2)))); repeat' (first|refine zW ?_|refine zM ?_|apply a_n|refine zO ?_|refine vY ?_|refine cY ?_ (hp:=by first | exact hp | exact hcm) (hs:=by (first | refine ab ?_ rfl | apply ac); (repeat' (first | exact aa | apply am | apply ae | exact ax _)); first | done | fail)|refine gTY ?_|refine cFY ?_|(refine zGY ?_ ?_ <;> (intro _hg; try (exfalso; omega)))|fail)) <;> (try clear zz)
  exact ⟨k + 1,by omega,by omega,ag0⟩
 rintro T H nx t3
 (have zz:=@t3; repeat' (first|refine zW ?_|apply a_n|refine zO ?_|refine vY ?_|fail)) <;> (try clear zz)
 refine bd (X:=Nat) (fun k=>[(3,au c),(6,.int .i64 k)]) (fun k H' nx'=>k ≤ c.length∧∀ i,i < k→bL c (c.getD i default)=false) (fun k=>c.length - k) 0 ⟨Nat.zero_le _,fun i h=>absurd h (by omega)⟩ (have zz:=@t3; agZ) ?_
 clear t3
 rintro i H1 nx1 ⟨h1,h2⟩
 by_cases hi:i < c.length
 rotate_left
 ·rw [kN fun i hi=>h2 i (by omega),if_neg (by decide)]
  (have zz:=@ag; repeat' (first|refine zW ?_|apply a_n|apply a_x|refine zO ?_|refine vY ?_|(refine zGY ?_ ?_ <;> (intro _hg; try (exfalso; omega)))|refine ak rfl ?_|refine r1Y ?_|fail)) <;> (try clear zz)
  exact .int _ _
 (have zz:=@ag; repeat' (first|refine zW ?_|apply a_n|refine zO ?_|refine vY ?_|(refine zGY ?_ ?_ <;> (intro _hg; try (exfalso; omega)))|fail)) <;> (try clear zz)
 refine bd (X:=Nat) (fun k=>[(3,au c),(6,.int .i64 i),(7,.int .i64 k)]) (fun k H' nx'=>k ≤ c.length∧∀ j,j < k→i ≠ j→cQ (c.getD i default) (c.getD j default)=false) (fun k=>c.length - k) 0 ⟨Nat.zero_le _,fun i h=>absurd h (by omega)⟩ ag0 ?_
 rintro k H2 nx2 ⟨k1,k2⟩
 by_cases hk:k < c.length
 rotate_left
 ·(have zz:=@ag; repeat' (first|refine zW ?_|apply a_n|apply a_x|refine zO ?_|refine vY ?_|(refine zGY ?_ ?_ <;> (intro _hg; try (exfalso; omega)))|fail)) <;> (try clear zz)
  refine ⟨i + 1,by omega,⟨by omega,fun j hj=>?_⟩,ag0⟩
  rcases Nat.lt_succ_iff_lt_or_eq.1 hj with h' | rfl
  ·exact h2 j h'
  ·cases hb:bL c (c.getD j default)
   ·rfl
   ·obtain ⟨q,q1,q2,q3⟩:=wC hb
    rw [k2 q (by omega) q2] at q3; cases q3
 have ix:=dH hi
 have iy:=dH hk
 by_cases hik:i=k
 ·have z:decide ((i:Int) ≠ (k:Int))=false:=decide_eq_false (by omega)
  (have zz:=aI @ag @z; repeat' (first|refine zW ?_|refine zM ?_|apply a_n|refine zO ?_|refine vY ?_|refine gFY ?_|refine cFY ?_|(refine zGY ?_ ?_ <;> (intro _hg; try (exfalso; omega)))|fail)) <;> (try clear zz)
  exact ⟨k + 1,by omega,⟨by omega,fun j hj hij=>k2 j (by omega) hij⟩,ag0⟩
 have z:decide ((i:Int) ≠ (k:Int))=true:=decide_eq_true (by omega)
 have hin:=vu (c.getD i default) (c.getD k default) (hs _ (aP hi)) (hs _ (aP hk))
 have ht:=u9 (fun s hs=>(hok.2 s hs).1) a2 hi hk hik
 cases hb:cQ (c.getD i default) (c.getD k default)
 ·rw [hb] at hin
  (have zz:=aI @ag (aI @ix (aI @iy @z)); repeat' (first|refine zW ?_|refine zM ?_|apply a_n|refine zO ?_|refine vY ?_|refine cY ?_ (hp:=hin) (hs:=by (first | refine ab ?_ rfl | apply ac); (repeat' (first | exact aa | apply am | apply ae | exact ax _)); first | done | fail)|refine gTY ?_|refine cFY ?_|(refine zGY ?_ ?_ <;> (intro _hg; try (exfalso; omega)))|fail)) <;> (try clear zz)
  exact ⟨k + 1,by omega,⟨by omega,fun j hj hij=>by
   rcases Nat.lt_succ_iff_lt_or_eq.1 hj with h' | rfl
   ·exact k2 j h' hij
   ·exact hb⟩,ag0⟩
 ·rw [hb] at hin
  rw [if_pos (List.any_eq_true.2 ⟨_,aP hi,ht hb⟩)]
  (have zz:=aI @ag (aI @ix (aI @iy @z)); repeat' (first|refine zW ?_|refine zM ?_|apply a_n|apply a_r|refine zO ?_|refine vY ?_|refine cY ?_ (hp:=hin) (hs:=by (first | refine ab ?_ rfl | apply ac); (repeat' (first | exact aa | apply am | apply ae | exact ax _)); first | done | fail)|refine gTY ?_|refine cTY ?_|(refine zGY ?_ ?_ <;> (intro _hg; try (exfalso; omega)))|refine ak rfl ?_|refine r1Y ?_|fail)) <;> (try clear zz)
  exact .int _ _
end Go.Proofs.Ytfcenbapjhecfaa
namespace Go.Proofs.Ytfcenbapjhecfaa
open Go Go.Abs
structure MapV where
 fr:Spx
 to:Spx
 deriving Inhabited,DecidableEq
abbrev AE (m:MapV):AV:=.agg [av m.fr,av m.to]
theorem wk (m:MapV):Dat (AE m):=Dat.agg (DatL.cons (ax _) (DatL.cons (ax _) DatL.nil))
instance datI_encM {m:MapV}:DatI (AE m):=⟨wk m⟩
attribute [local irreducible] aB ai aW aN aG aH ay aJ aO ba Go.Abs.Fn aM Go.Abs.Pure ar aE Yl
theorem wq {H:Hp} {a b:Bool} {e f:Int} (h1:a=b) (h2:e=f):Snap H (.tup [.bool a,.int .i64 e]) (.tup [.bool b,.int .i64 f]):=by
 subst h1 h2; exact eP (an (.bool _) (an (.int _ _) aa))
end Go.Proofs.Ytfcenbapjhecfaa
namespace Go.Proofs.Ytfcenbapjhecfaa
open Go Go.Abs
attribute [local irreducible] aB ai aW aN aG aH ay aJ aO ba Go.Abs.Fn aM Go.Abs.Pure ar aE Yl
end Go.Proofs.Ytfcenbapjhecfaa
namespace Go.Proofs.Ytfcenbapjhecfaa
open Go Go.Abs
attribute [local irreducible] aB ai aW aN aG aH ay aJ aO ba Go.Abs.Fn aM Go.Abs.Pure ar aE Yl
end Go.Proofs.Ytfcenbapjhecfaa
namespace Go.Proofs.Ytfcenbapjhecfaa
open Go Go.Abs
attribute [local irreducible] aB ai aW aN aG aH ay aJ aO ba Go.Abs.Fn aM Go.Abs.Pure ar aE Yl
end Go.Proofs.Ytfcenbapjhecfaa
namespace Go.Proofs.Ytfcenbapjhecfaa
open Go Go.Abs
theorem sc {c:List Spx}:gS c=true ↔ c.length ≤ 30∧∀ s ∈ c,s.length ≤ 10:=by
 unfold gS
 rw [Bool.and_eq_true,decide_eq_true_iff,List.all_eq_true]
 simp only [decide_eq_true_iff]
attribute [local irreducible] aB ai aW aN aG aH ay aJ aO ba Go.Abs.Fn aM Go.Abs.Pure ar aE Yl
end Go.Proofs.Ytfcenbapjhecfaa
namespace Go.Proofs.Ytfcenbapjhecfaa
open Go Go.Abs
def bB:Spx→Nat→List Spx
 | _,0=>[[]]
 | [],_ + 1=>[]
 | x :: l,k + 1=>(bB l k).map (x :: ·) ++ bB l (k + 1)
theorem kp {l:Spx}:bB l 0=[[]]:=by cases l <;> rfl
theorem rf {k:Nat}:bB [] (k + 1)=[]:=rfl
theorem eH {x:Vtx} {l:Spx} {k:Nat}:bB (x :: l) (k + 1)=(bB l k).map (x :: ·) ++ bB l (k + 1):=rfl
theorem di:∀ {l:Spx} {k:Nat} {s:Spx},s ∈ bB l k ↔ s.Sublist l∧s.length=k
 | l,0,s=>by
  rw [kp,List.mem_singleton]
  exact ⟨fun h=>by subst h; exact ⟨List.nil_sublist _,rfl⟩,fun h=>List.length_eq_zero_iff.1 h.2⟩
 | [],k + 1,s=>by
  rw [rf]
  refine ⟨fun h=>(by cases h),fun ⟨h1,h2⟩=>?_⟩
  rw [List.sublist_nil] at h1
  subst h1; simp at h2
 | x :: l,k + 1,s=>by
  rw [eH,List.mem_append,List.mem_map,di]
  constructor
  ·rintro (⟨t,ht,rfl⟩ | ⟨h1,h2⟩)
   ·have:=di.1 ht
    exact ⟨this.1.cons_cons x,by simp [this.2]⟩
   ·exact ⟨h1.cons x,h2⟩
  ·rintro ⟨h1,h2⟩
   cases h1 with
   | cons _ h=>exact .inr ⟨h,h2⟩
   | cons_cons _ h=>exact .inl ⟨_,di.2 ⟨h,by simpa using h2⟩,rfl⟩
theorem m9 {l:Spx} {k:Nat} (h:l.length < k):bB l k=[]:=by
 cases e:bB l k with
 | nil=>rfl
 | cons a r =>
  have:=di.1 (show a ∈ bB l k by rw [e]; exact List.mem_cons_self)
  have:=this.1.length_le
  omega
def chK:Nat→Nat→Nat
 | _,0=>1
 | 0,_ + 1=>0
 | n + 1,k + 1=>chK n k + chK n (k + 1)
theorem zS {n:Nat}:chK n 0=1:=by cases n <;> rfl
theorem nH:∀ {l:Spx} {k:Nat},(bB l k).length=chK l.length k
 | l,0=>by rw [kp,zS]; rfl
 | [],k + 1=>rfl
 | x :: l,k + 1=>by
  rw [eH,List.length_append,List.length_map,nH,nH]; rfl
theorem yM {n k:Nat} (hn:n ≤ 8):chK n k ≤ 70:=by
 by_cases hk:k ≤ 8
 ·have:∀ n,n < 9→∀ k,k < 9→chK n k ≤ 70:=by decide
  exact this n (by omega) k (by omega)
 ·have:∀ n k,n < k→chK n k=0:=by
    intro n
    induction n with
    | zero=>intro k h; match k,h with | k + 1,_=>rfl
    | succ n ih=>intro k h; match k,h with | k + 1,h=>show chK n k + chK n (k + 1)=0; rw [ih k (by omega),ih (k + 1) (by omega)]
  rw [this n k (by omega)]; omega
theorem pn {l:Spx} {k:Nat} (h:l.length ≤ 8):(bB l k).length ≤ 70:=by rw [nH]; exact yM h
theorem ud {l:Spx} {i k:Nat} (hi:i < l.length):bB (l.drop i) (k + 1)=(bB (l.drop (i + 1)) k).map (l.getD i default :: ·) ++ bB (l.drop (i + 1)) (k + 1):=by
 rw [List.drop_eq_getElem_cons hi,eH]
 simp [List.getD,hi]
theorem oe {v w:Vtx} {l m:Spx}:aS (v :: l) (w :: m)=if bt v w ≠ 0 then bt v w else aS l m:=rfl
theorem uj {v:Vtx} {l m:Spx}:aS (v :: l) (v :: m)=aS l m:=by
 rw [oe,if_neg (fun h=>h (eG.2 rfl))]
theorem gx:∀ {l:Spx} {k:Nat},bi bt l→bi aS (bB l k)
 | l,0,_=>by rw [kp]; exact List.pairwise_singleton _ _
 | [],k + 1,_=>List.Pairwise.nil
 | x :: l,k + 1,h=>by
  have h':=List.pairwise_cons.1 h
  rw [eH]
  unfold bi
  rw [List.pairwise_append]
  refine ⟨?_,gx h'.2,?_⟩
  ·rw [List.pairwise_map]
   exact List.Pairwise.imp (fun {a b} hab=>by rw [uj]; exact hab) (gx (k:=k) h'.2)
  ·intro a ha b hb
   obtain ⟨t,_,rfl⟩:=List.mem_map.1 ha
   have hb':=di.1 hb
   cases b with
   | nil=>simp at hb'
   | cons y r =>
    have hy:y ∈ l:=hb'.1.subset List.mem_cons_self
    have:=h'.1 y hy
    rw [oe,if_pos (by omega)]
    exact this
end Go.Proofs.Ytfcenbapjhecfaa
namespace Go.Proofs.Ytfcenbapjhecfaa
open Go Go.Abs
open Nat (reduceEqDiff reduceAdd reduceLeDiff)
attribute [local irreducible] aB ai aW aN aG aH ay aJ aO ba Go.Abs.Fn aM Go.Abs.Pure ar aE Yl
theorem vS (s:AV) (l:Spx) (hl:l.length ≤ 1000000) (h0:l ≠ []) (H:Hp) (nx:Nat) (hn:dJ s=some l.length) (hs:∀ H',(∀ x,x < nx→H' x=H x)→db 2 H' s=some (l.length,cX l)):Abs.Fn Try.prog 83 [s] H nx fun r H' nx'=>r=.msl nx (l.length * 2) 2 0 l.length∧H'=aq H nx (cX l)∧nx'=nx + 1:=by
 have hpos:=List.length_pos_iff.2 h0
 refine Abs.Fn.of_c2 follows As (Nat.le_of_ble_eq_true rfl) ?_
 simp only [b83,cO,cG,cN,cM,cD,cF,cB,aA,aR]
 (have zz:=and_self; repeat' (first|refine zW ?_|apply a_n|refine zO ?_|refine vY ?_|fail)) <;> (try clear zz)
 refine vQ (k:=l.length) (by ((try simp only [bQ,ZA,reduceEqDiff,↓reduceIte,reduceAdd,reduceLeDiff]); (try with_reducible rfl)); exact hn) (fun h=>?_) (fun h=>by omega) (fun h=>by omega)
 (have zz:=and_self; repeat' (first|refine zW ?_|apply a_n|refine zO ?_|refine vY ?_|refine b0Y ?_|refine cFY ?_|fail)) <;> (try clear zz)
 refine pF rfl ev0 ev0 (hs _ fun x _=>rfl) (gP _) (by omega) (by omega) ?_
 (have zz:=and_self; repeat' (first|apply a_n|refine zO ?_|refine vY ?_|refine ak rfl ?_|refine r1Y ?_|fail)) <;> (try clear zz)
 exact ⟨rfl,rfl,rfl⟩
theorem zu {y lo kb sb k N:Nat} {s:Spx} (hs:s.length ≤ 1000) (hk:k ≤ 1000) (I:List Spx→Hp→Nat→Prop)
    (hp:∀ S H nx,I S H nx→H kb=some [.int .i64 k]∧H sb=some [av s]∧lo + 3 ≤ nx∧kb < lo∧sb < lo)
    (stab:∀ S H H' nx nx',I S H nx→nx ≤ nx'→(∀ i,i < nx→¬ (lo ≤ i∧i < lo + 3)→H' i=H i)→I S H' nx')
    (rnd:∀ S f H nx,I S H nx→f.length=k→f ≠ []→S.length < N→Yl Try.prog y [.msl nx (k * 2) 2 0 k] (aq H nx (cX f)) (nx + 1) fun r H' nx'=>r=.bool true∧I (S ++ [f]) H' nx'∧nx ≤ nx'∧∀ i,lo ≤ i→i < lo + 3→H' i=H i) :
    ∀ (j:Nat) (ch:Spx) (at_:Nat) (S:List Spx) (H:Hp) (nx:Nat),0 < k→ch.length + j=k→S.length + (bB (s.drop at_) j).length ≤ N→at_ ≤ s.length→I S H nx→H lo=some [.yld y]→H (lo + 1)=some [.func 118 [.ptr kb 1 0,.ptr lo 1 0,.ptr sb 1 0,.ptr (lo + 1) 1 0]]→(∃ C,H (lo + 2)=some C∧C.length=k * 2∧C.take (ch.length * 2)=cX ch) →
     Abs.Fn Try.prog 118 [.int .i64 at_,.msl (lo + 2) (k * 2) 2 0 ch.length,.ptr kb 1 0,.ptr lo 1 0,.ptr sb 1 0,.ptr (lo + 1) 1 0] H nx fun r H' nx'=>r=.bool true∧I (S ++ (bB (s.drop at_) j).map (ch ++ ·)) H' nx'∧nx ≤ nx'∧H' lo=H lo∧H' (lo + 1)=H (lo + 1)∧∃ C,H' (lo + 2)=some C∧C.length=k * 2∧C.take (ch.length * 2)=cX ch:=by
 intro j
 induction j with
 | zero =>
  intro ch at_ S H nx hk0 hj hN hat hI h1 h2 ⟨C,h3,hc1,hc2⟩
  obtain ⟨g1,g2,g3,g4,g5⟩:=hp _ _ _ hI
  have hlen:ch.length=k:=by omega
  have hne:ch ≠ []:=fun e=>by rw [e] at hlen; simp at hlen; omega
  obtain rfl:C=cX ch:=by rw [← hc2,List.take_of_length_le (by omega)]
  refine Abs.Fn.of_c2 follows yu (Nat.le_of_ble_eq_true rfl) ?_
  simp only [yG,cO,cG,cN,cM,cD,cF,cB,aA,aR]
  have hcl:=vS (.msl (lo + 2) (k * 2) 2 0 k) ch (by omega) hne H nx (by rw [hlen]; rfl) (fun H' hH'=>by rw [hlen]; exact (gF (n:=k * 2) (off:=0) (len:=k) ((hH' (lo + 2) (by omega)).trans h3) hc1 (by omega)).trans (by rw [List.drop_zero,List.take_of_length_le (by omega)]))
  rw [hlen] at hcl
  rw [hlen]
  have z:decide ((k:Int)=k)=true:=decide_eq_true rfl
  (have zz:=aI @g1 (aI @g2 (aI @h1 (aI @h2 @z))); repeat' (first|refine zW ?_|apply a_n|refine zO ?_|refine vY ?_|(refine zGY ?_ ?_ <;> (intro _hg; try (exfalso; omega)))|fail)) <;> (try clear zz)
  refine mF lo h1 fun S0 hS hsub=>?_
  (have zz:=@hS; repeat' (first|apply a_n|refine zO ?_|refine nvY ?_|fail)) <;> (try clear zz)
  refine iC ?_
  refine aV ev0 ev0 hcl ?_
  rintro _ H2 nx2 ⟨rfl,rfl,rfl⟩
  refine oH ⟨hsub _ (by rw [af (by omega)]; exact h1),?_⟩
  refine kQ ?_
  refine tU ev0 ev0 (Yl.mono (rnd S ch H nx hI hlen hne (by rw [kp] at hN; exact hN)) ?_)
  rintro r H3 nx3 ⟨rfl,e1,e2,e3⟩
  (have zz:=and_self; repeat' (first|apply a_n|apply a_r|refine zO ?_|refine nvY ?_|refine ak rfl ?_|refine r1Y ?_|fail)) <;> (try clear zz)
  refine ⟨rfl,?_,e2,e3 _ (by omega) (by omega),e3 _ (by omega) (by omega),cX ch,(e3 _ (by omega) (by omega)).trans h3,hc1,by rw [← hlen]; exact hc2⟩
  rw [kp,List.map_cons,List.map_nil,List.append_nil]
  exact e1
 | succ j ih =>
  intro ch at_ S H nx hk0 hj hN hat hI h1 h2 ⟨C,h3,hc1,hc2⟩
  obtain ⟨g1,g2,g3,g4,g5⟩:=hp _ _ _ hI
  refine Abs.Fn.of_c2 follows yu (Nat.le_of_ble_eq_true rfl) ?_
  simp only [yG,cO,cG,cN,cM,cD,cF,cB,aA,aR]
  have z:decide ((ch.length:Int)=k)=false:=decide_eq_false (by omega)
  (have zz:=aI @g1 (aI @g2 (aI @h1 (aI @h2 @z))); repeat' (first|refine zW ?_|apply a_n|refine zO ?_|refine vY ?_|refine cFY ?_|fail)) <;> (try clear zz)
  refine bd (X:=Nat × List Spx) (fun x=>[(1,.msl (lo + 2) (k * 2) 2 0 ch.length),(4,.ptr sb 1 0),(5,.ptr (lo + 1) 1 0),(9,.int .i64 x.1)]) (fun x H' nx'=>x.1 ≤ s.length∧I x.2 H' nx'∧nx ≤ nx'∧H' lo=H lo∧H' (lo + 1)=H (lo + 1)∧(∃ C,H' (lo + 2)=some C∧C.length=k * 2∧C.take (ch.length * 2)=cX ch)∧x.2 ++ (bB (s.drop x.1) (j + 1)).map (ch ++ ·)=S ++ (bB (s.drop at_) (j + 1)).map (ch ++ ·)) (fun x=>s.length - x.1) (at_,S) ⟨hat,hI,Nat.le_refl _,rfl,rfl,⟨C,h3,hc1,hc2⟩,rfl⟩ ag0 ?_
  rintro ⟨i,S1⟩ H1 nx1 ⟨i1,hI1,i2,i3,i4,⟨C1,k3,d1,d2⟩,htot⟩
  dsimp only at i1 hI1 htot ⊢
  obtain ⟨q1,q2,q3,q4,q5⟩:=hp _ _ _ hI1
  have w1:=i3.trans h1
  have w2:=i4.trans h2
  by_cases hi:i < s.length
  rotate_left
  ·(have zz:=aI @q1 (aI @q2 @ap); repeat' (first|refine zW ?_|apply a_n|apply a_x|refine zO ?_|refine vY ?_|(refine zGY ?_ ?_ <;> (intro _hg; try (exfalso; omega)))|refine ak rfl ?_|refine r1Y ?_|fail)) <;> (try clear zz)
   rw [show s.drop i=[] from List.drop_eq_nil_of_le (by omega),rf,List.map_nil,List.append_nil] at htot
   exact ⟨rfl,by rw [← htot]; exact hI1,i2,i3,i4,C1,k3,d1,d2⟩
  have ix:=ix2 hi
  rw [ud hi,List.map_append,List.map_map,← List.append_assoc] at htot
  have hmm:(bB (s.drop (i + 1)) j).map ((fun x=>ch ++ x) ∘ fun x=>s.getD i default :: x)=(bB (s.drop (i + 1)) j).map ((ch ++ [s.getD i default]) ++ ·):=List.map_congr_left fun x _=>by simp
  rw [hmm] at htot
  generalize s.getD i default=v at *
  (have zz:=aI @q1 (aI @q2 @ap); repeat' (first|refine zW ?_|apply a_n|refine zO ?_|refine vY ?_|(refine zGY ?_ ?_ <;> (intro _hg; try (exfalso; omega)))|fail)) <;> (try clear zz)
  refine ph sb (lo + 1) q2 w2 (by omega) fun S0 hS1 hS2 hsub=>?_
  (have zz:=aI @hS1 (aI @hS2 @ix); repeat' (first|apply a_n|refine zO ?_|refine nvY ?_|fail)) <;> (try clear zz)
  refine iC ?_
  (have zz:=and_self; repeat' (first|apply a_n|refine zO ?_|refine blY ?_|fail)) <;> (try clear zz)
  refine ⟨hsub _ (by rw [af (by omega)]; exact q2) (by rw [af (by omega)]; exact w2),?_⟩
  refine iC ?_
  refine ss (b:=lo + 2) (m:=k * 2) (off:=0) (len:=ch.length) (n:=1) rfl ev0 (by rw [af (by omega)]; exact k3) ev0 oL rfl d1 (fun _=>by omega) (by omega) (by omega) ?_
  refine oH ⟨hsub _ (by rw [af (by omega),af (by omega)]; exact q2) (by rw [af (by omega),af (by omega)]; exact w2),?_⟩
  refine kQ ?_
  have hl1:(ch ++ [v]).length=ch.length + 1:=by simp
  have hcc:=fl ch
  have hput:(bo C1 (0 + ch.length * 2) [.int .i64 v.color,.int .i64 v.label]).length=k * 2∧(bo C1 (0 + ch.length * 2) [.int .i64 v.color,.int .i64 v.label]).take ((ch.length + 1) * 2)=cX (ch ++ [v]):=by
   rw [Nat.zero_add]
   simp only [bo]
   refine ⟨by simp [d1]; omega,?_⟩
   rw [d2,gN,yI,List.take_append_of_le_length (by simp [hcc]; omega),List.take_of_length_le (by simp [hcc]; omega)]
  have hN1:S1.length + (bB (s.drop (i + 1)) j).length ≤ N:=by
   have:=congrArg List.length htot
   simp only [List.length_append,List.length_map] at this
   omega
  have hih:=ih (ch ++ [v]) (i + 1) S1 (aq (aq H1 nx1 [.int .i64 v.color,.int .i64 v.label]) (lo + 2) (bo C1 (0 + ch.length * 2) [.int .i64 v.color,.int .i64 v.label])) (nx1 + 1) hk0 (by omega) hN1 (by omega) (stab _ _ _ _ _ hI1 (by omega) (fun x hx hn=>by rw [af (by omega),af (by omega)])) (by rw [af (by omega),af (by omega)]; exact w1) (by rw [af (by omega),af (by omega)]; exact w2) ⟨_,ah,hput.1,by rw [hl1]; exact hput.2⟩
  rw [hl1,show ((i + 1:Nat):Int)=(i:Int) + 1 by omega] at hih
  refine aV ev0 ev0 hih ?_
  rintro r H4 nx4 ⟨rfl,f1,f2,f3,f4,C4,f5,f6,f7⟩
  (have zz:=and_self; repeat' (first|apply a_n|refine zO ?_|refine vY ?_|refine nvY ?_|refine cFY ?_|fail)) <;> (try clear zz)
  refine ⟨(i + 1,S1 ++ (bB (s.drop (i + 1)) j).map ((ch ++ [v]) ++ ·)),by dsimp only; omega,⟨by dsimp only; omega,f1,by omega,f3.trans ?_,f4.trans ?_,⟨C4,f5,f6,?_⟩,htot⟩,ag0⟩
  ·rw [af (by omega),af (by omega)]; exact i3
  ·rw [af (by omega),af (by omega)]; exact i4
  ·have:=congrArg (List.take (ch.length * 2)) f7
   rw [List.take_take,Nat.min_eq_left (by omega),gN,List.take_append_of_le_length (by omega)] at this
   rw [this]
   exact List.take_of_length_le (by omega)
end Go.Proofs.Ytfcenbapjhecfaa
namespace Go.Proofs.Ytfcenbapjhecfaa
open Go Go.Abs
open Nat (reduceEqDiff reduceAdd reduceLeDiff)
attribute [local irreducible] aB ai aW aN aG aH ay aJ aO ba Go.Abs.Fn aM Go.Abs.Pure ar aE Yl
theorem v7 {y kb sb k:Nat} {s:Spx} {H:Hp} {nx:Nat} (hs:s.length ≤ 1000) (hk0:0 < k) (hk:k ≤ 1000) (I:List Spx→Hp→Nat→Prop)
    (hp:∀ S H nx',I S H nx'→H kb=some [.int .i64 k]∧H sb=some [av s]∧nx + 3 ≤ nx'∧kb < nx∧sb < nx)
    (stab:∀ S H H' nx1 nx',I S H nx1→nx1 ≤ nx'→(∀ i,i < nx1→¬ (nx ≤ i∧i < nx + 3)→H' i=H i)→I S H' nx')
    (rnd:∀ S f H nx1,I S H nx1→f.length=k→f ≠ []→S.length < (bB s k).length→Yl Try.prog y [.msl nx1 (k * 2) 2 0 k] (aq H nx1 (cX f)) (nx1 + 1) fun r H' nx'=>r=.bool true∧I (S ++ [f]) H' nx'∧nx1 ≤ nx'∧∀ i,nx ≤ i→i < nx + 3→H' i=H i)
    (gk:H kb=some [.int .i64 k]) (lk:kb < nx) (h0:∀ H',(∀ i,i < nx→H' i=H i)→I [] H' (nx + 3)) :
    Abs.Fn Try.prog 117 [.yld y,.ptr kb 1 0,.ptr sb 1 0] H nx fun _ H' nx'=>I (bB s k) H' nx':=by
 refine Abs.Fn.of_c2 follows Ap (Nat.le_of_ble_eq_true rfl) ?_
 simp only [AS,cO,cG,cN,cM,cD,cF,cB,aA,aR]
 (have zz:=@gk; repeat' (first|refine zW ?_|apply a_n|refine zO ?_|refine vY ?_|refine alY ?_|refine bxY ?_|refine stY ?_|fail)) <;> (try clear zz)
 generalize hH:aq (aq (aq H nx [.yld y]) (nx + 1) [.nilf]) (nx + 1) (bo [.nilf] 0 [.func 118 [.ptr kb 1 0,.ptr nx 1 0,.ptr sb 1 0,.ptr (nx + 1) 1 0]])=H1
 have hfn:H1 (nx + 1)=some [.func 118 [.ptr kb 1 0,.ptr nx 1 0,.ptr sb 1 0,.ptr (nx + 1) 1 0]]:=by rw [← hH,ah]; rfl
 have hfk:H1 kb=some [.int .i64 k]:=by rw [← hH,af (by omega),af (by omega),af (by omega)]; exact gk
 have hfy:H1 nx=some [.yld y]:=by rw [← hH,af (by omega),af (by omega),ah]
 have hfo:∀ i,i < nx→H1 i=H i:=fun i hi=>by rw [← hH,af (by omega),af (by omega),af (by omega)]
 clear hH
 refine ph kb (nx + 1) hfk hfn (by omega) fun S0 hS1 hS2 hsub=>?_
 (have zz:=aI @hS1 @hS2; repeat' (first|apply a_n|refine zO ?_|refine nvY ?_|fail)) <;> (try clear zz)
 refine iC ?_
 refine vv (k1:=.i64) (k2:=.i64) (n:=0) (m:=k) rfl ev0 ev0 (Int.le_refl _) (by omega) (by omega) (by omega) ?_
 refine oH ⟨hsub _ (by rw [af (by omega)]; exact hfk) (by rw [af (by omega)]; exact hfn),?_⟩
 refine kQ ?_
 have hz:(aY (AV.agg [AV.int .i64 0,AV.int .i64 0]) k).length=k * 2:=by simp [aY,AV.cells]
 have hih:=zu (y:=y) (N:=(bB s k).length) (lo:=nx) (kb:=kb) (sb:=sb) (k:=k) (s:=s) hs hk I hp stab rnd k [] 0 [] (aq H1 (nx + 2) (aY (AV.agg [AV.int .i64 0,AV.int .i64 0]) k)) (nx + 3) hk0 (by simp) (by simp) (Nat.zero_le _) (h0 _ (fun i hi=>by rw [af (by omega)]; exact hfo i hi)) (by rw [af (by omega)]; exact hfy) (by rw [af (by omega)]; exact hfn) ⟨_,ah,hz,rfl⟩
 refine aV ev0 (by ((try simp only [bQ,ZA,reduceEqDiff,↓reduceIte,reduceAdd,reduceLeDiff]); (try with_reducible rfl)); rfl) hih ?_
 rintro r H4 nx4 ⟨rfl,f1,-⟩
 (have zz:=and_self; repeat' (first|apply a_n|refine zO ?_|apply yb|refine ak rfl ?_|fail)) <;> (try clear zz)
 rw [List.drop_zero,List.nil_append,show (fun x:Spx=>([]:Spx) ++ x)=id from rfl,List.map_id] at f1
 exact f1
theorem rp {kb sb k:Nat} {s:Spx} {H:Hp} {nx:Nat} (hs:s.length ≤ 8) (hk0:0 < k) (hk:k ≤ 1000) (gk:H kb=some [.int .i64 k]) (gs:H sb=some [av s]) (lk:kb < nx) (ls:sb < nx) :
    Abs.Fn Try.prog 116 [.esl,.func 117 [.ptr kb 1 0,.ptr sb 1 0]] H nx fun r H' nx'=>Row H' 1 r ((bB s k).map av)∧nx ≤ nx'∧∀ b',cr r=some b'→nx ≤ b'∧b' < nx':=by
 refine Abs.Fn.of_c2 follows Ay (Nat.le_of_ble_eq_true rfl) ?_
 simp only [z8,cO,cG,cN,cM,cD,cF,cB,aA,aR]
 (have zz:=and_self; repeat' (first|refine zW ?_|apply a_n|refine zO ?_|refine vY ?_|refine bxY ?_|fail)) <;> (try clear zz)
 refine kq (nx + 1) (nx + 2) rfl rfl ev0 (fun c0 cj hy=>?_)
 refine Abs.Fn.mono (v7 (nx:=nx + 2) (kb:=kb) (sb:=sb) (k:=k) (s:=s) (by omega) hk0 hk (fun S H' nx'=>nx + 5 ≤ nx'∧H' kb=some [.int .i64 k]∧H' sb=some [av s]∧H' (nx + 1)=some [c0]∧∃ sv,H' nx=some [sv]∧Row H' 1 sv (S.map av)∧∀ b',cr sv=some b'→nx + 5 ≤ b'∧b' < nx') ?_ ?_ ?_ ?_ ?_ ?_) ?_
 ·rintro S H' nx' ⟨h1,h2,h3,h4,h5⟩
  exact ⟨h2,h3,by omega,by omega,by omega⟩
 ·rintro S H1 H2 a c ⟨h1,h2,h3,h4,sv,h5,h6,h7⟩ hac hs'
  refine ⟨by omega,(hs' _ (by omega) (by omega)).trans h2,(hs' _ (by omega) (by omega)).trans h3,(hs' _ (by omega) (by omega)).trans h4,sv,(hs' _ (by omega) (by omega)).trans h5,h6.same (fun b' hb'=>hs' _ (h7 b' hb').2 (by have:=h7 b' hb'; omega)),fun b' hb'=>⟨(h7 b' hb').1,by have:=h7 b' hb'; omega⟩⟩
 ·rintro S f H' nx' ⟨h1,h2,h3,h4,sv,h5,h6,h7⟩ hfl hf0 hSN
  have h4':aq H' nx' (cX f) (nx + 1)=some [c0]:=by rw [af (by omega)]; exact h4
  refine hy _ _ _ _ h4' rfl ?_
  clear hy
  (have zz:=and_self; repeat' (first|apply a_n|refine zO ?_|refine vZ ?_|fail)) <;> (try clear zz)
  refine ⟨h4',?_⟩
  have hS70:=Nat.lt_of_lt_of_le hSN (pn (k:=k) hs)
  have hd:bT (aq H' nx' (cX f)) (nx + 1) nx'=some (cX f):=by rw [ce (by omega),ah]
  have hdo:∀ x,x < nx'→x ≠ nx + 1→bT (aq H' nx' (cX f)) (nx + 1) x=H' x:=fun x a b=>by rw [ce b,af (by omega)]
  generalize bT (aq H' nx' (cX f)) (nx + 1)=H1 at *
  refine fP ?_
  refine pZ (only nx' (cX f)) (bT H1 nx') [(2,.ptr nx 1 0),(5,av f)] (Fz.one hd) ⟨.inl rfl,.inr (zw (s:=.msl nx' (k * 2) 2 0 k) (by rw [← hfl]; exact Row.box nx' f.length (cX f) jI (fl f))),trivial⟩ ?_
  have he:∀ x,x < nx'→x ≠ nx + 1→bT H1 nx' x=H' x:=fun x a b=>by rw [ce (by omega)]; exact hdo x a b
  have g5:bT H1 nx' nx=some [sv]:=(he nx (by omega) (by omega)).trans h5
  clear hd hdo
  generalize bT H1 nx'=H2 at *
  (have zz:=aI @g5 (aI @az @aw); repeat' (first|apply a_n|refine zO ?_|refine vY ?_|refine blY ?_|fail)) <;> (try clear zz)
  refine fo rfl ev0 (h6.same fun b' hb'=>?_) ev0 b6 rfl rfl Nat.one_pos (by rw [List.length_map]; omega) (by rw [List.length_map]; omega) ?_
  ·have:=h7 b' hb'
   rw [af (by omega)]; exact he _ (by omega) (by omega)
  rintro sv' H3 nx3 r1 r2 r3 r4 r5
  have zs:∀ x,x < nx + 5→cr sv ≠ some x:=fun x hx e=>by have:=h7 x e; omega
  have z:∀ x,x < nx'→x ≠ nx + 1→cr sv ≠ some x→H3 x=H' x:=fun x a1 a2 a3=>(r4 x (by omega) a3).trans (by rw [af (by omega)]; exact he x a1 a2)
  have g6:H3 nx=some [sv]:=(z nx (by omega) (by omega) (zs _ (by omega))).trans h5
  obtain ⟨q1,q2⟩:=r1.one
  (have zz:=aI @g6 (aI @q1 @q2); repeat' (first|apply a_n|refine zO ?_|refine stY ?_|fail)) <;> (try clear zz)
  have w:∀ x,x ≠ nx→x ≠ nx + 1→aq (aq H3 nx (bo [sv] 0 [sv'])) (nx + 1) [c0] x=H3 x:=fun x a1 a2=>by rw [af a2,af a1]
  have u7:∀ b',cr sv'=some b'→nx + 5 ≤ b'∧b' < nx3:=fun b' hb'=>by
   rcases r5 b' hb' with e | ⟨e1,e2⟩
   ·have:=h7 b' e; omega
   ·omega
  refine ⟨rfl,⟨by omega,?_,?_,ah,sv',?_,?_,u7⟩,by omega,fun x x1 x2=>?_⟩
  ·rw [w _ (by omega) (by omega),z _ (by omega) (by omega) (zs _ (by omega)),h2]
  ·rw [w _ (by omega) (by omega),z _ (by omega) (by omega) (zs _ (by omega)),h3]
  ·rw [af (by omega),ah]; rfl
  ·rw [List.map_append]
   exact r1.same (fun b' hb'=>w b' (by have:=u7 b' hb'; omega) (by have:=u7 b' hb'; omega))
  ·rw [w _ (by omega) (by omega),z _ (by omega) (by omega) (zs _ (by omega))]
 ·rw [af (by omega),af (by omega)]; exact gk
 ·omega
 ·intro H' hH'
  refine ⟨by omega,?_,?_,?_,.esl,?_,.nil,fun b' hb'=>(by cases hb')⟩
  ·rw [hH' _ (by omega),af (by omega),af (by omega),gk]
  ·rw [hH' _ (by omega),af (by omega),af (by omega),gs]
  ·rw [hH' _ (by omega),ah]
  ·rw [hH' _ (by omega),af (by omega),ah]
 ·rintro r H' nx' ⟨h1,h2,h3,h4,sv,h5,h6,h7⟩
  refine .inl ⟨h4,?_⟩
  (have zz:=@h5; repeat' (first|refine zW ?_|apply a_n|refine zO ?_|refine vY ?_|refine ak rfl ?_|refine r1Y ?_|fail)) <;> (try clear zz)
  exact ⟨h6.same (fun b' hb'=>ce (by have:=h7 b' hb'; omega)),by omega,fun b' hb'=>by have:=h7 b' hb'; omega⟩
end Go.Proofs.Ytfcenbapjhecfaa
namespace Go.Proofs.Ytfcenbapjhecfaa
open Go Go.Abs
end Go.Proofs.Ytfcenbapjhecfaa
namespace Go.Proofs.Ytfcenbapjhecfaa
open Go Go.Abs
attribute [local irreducible] aB ai aW aN aG aH ay aJ aO ba Go.Abs.Fn aM Go.Abs.Pure ar aE Yl
end Go.Proofs.Ytfcenbapjhecfaa
namespace Go.Proofs.Ytfcenbapjhecfaa
open Go Go.Abs
def l8 (s:Spx) (k:Int):List Spx × Int:=if be s ≠ 0 then ([],be s) else if k < 1 ∨ (s.length:Int) < k then ([],2) else (bB s k.toNat,0)
theorem bK {H:Hp} {s:AV} {l:List Spx} {e f:Int} (h:Snap H s (au l)) (he:e=f):Snap H (.tup [s,.int .i64 e]) (.tup [au l,.int .i64 f]):=by
 subst he; exact eP (an h (an (.int _ _) aa))
attribute [local irreducible] aB ai aW aN aG aH ay aJ aO ba Go.Abs.Fn aM Go.Abs.Pure ar aE Yl
theorem wj (s:Spx) (k:Nat) (H:Hp) (nx:Nat):Abs.Fn Try.prog 110 [av s,.int .i64 k] H nx fun r H' nx'=>r=.func 117 [.ptr (nx + 1) 1 0,.ptr nx 1 0]∧H'=aq (aq H nx [av s]) (nx + 1) [.int .i64 k]∧nx'=nx + 2:=by
 refine Abs.Fn.of_c2 follows Ab (Nat.le_of_ble_eq_true rfl) ?_
 simp only [zE,cO,cG,cN,cM,cD,cF,cB,aA,aR]
 (have zz:=aI @az @aw; repeat' (first|refine zW ?_|apply a_n|refine zO ?_|refine vY ?_|refine bxY ?_|refine ak rfl ?_|refine r1Y ?_|fail)) <;> (try clear zz)
 exact ⟨rfl,rfl,rfl⟩
theorem u0 {kb sb k:Nat} {s:Spx} {H:Hp} {nx:Nat} (hs:s.length ≤ 8) (hk0:0 < k) (hk:k ≤ 1000) (gk:H kb=some [.int .i64 k]) (gs:H sb=some [av s]) (lk:kb < nx) (ls:sb < nx) :
    Abs.Fn Try.prog 109 [.func 117 [.ptr kb 1 0,.ptr sb 1 0]] H nx fun r H' nx'=>Row H' 1 r ((bB s k).map av)∧nx ≤ nx':=by
 refine Abs.Fn.of_c2 follows zR (Nat.le_of_ble_eq_true rfl) ?_
 simp only [Au,cO,cG,cN,cM,cD,cF,cB,aA,aR]
 (have zz:=and_self; repeat' (first|refine zW ?_|apply a_n|refine zO ?_|refine vY ?_|fail)) <;> (try clear zz)
 refine aV ev0 ev0 (rp hs hk0 hk gk gs lk ls) ?_
 rintro r H1 nx1 ⟨r1,r2,r3⟩
 obtain ⟨q1,q2⟩:=r1.one
 (have zz:=aI @q1 @q2; repeat' (first|apply a_n|refine zO ?_|refine vY ?_|refine ak rfl ?_|refine r1Y ?_|fail)) <;> (try clear zz)
 exact ⟨r1,r2⟩
theorem vU (s:Spx) (k:Int) (hs:Shn s):Pure Try.prog 95 [av s,.int .i64 k] (.tup [au (l8 s k).1,.int .i64 (l8 s k).2]):=by
 refine Pure.of_c2 follows BX (Nat.le_of_ble_eq_true rfl) ?_
 simp only [b95,cO,cG,cN,cM,cD,cF,cB,aA,aR]
 have hc:=jK s hs
 unfold l8
 by_cases he:be s=0
 rotate_left
 ·rw [if_pos he]
  have z:decide (be s ≠ 0)=true:=decide_eq_true he
  (have zz:=@z; repeat' (first|refine zW ?_|apply a_n|apply a_r|refine zO ?_|refine vY ?_|refine cY ?_ (hp:=hc) (hs:=by (first | refine ab ?_ rfl | apply ac); (repeat' (first | exact aa | apply am | apply ae | exact ax _)); first | done | fail)|refine cTY ?_|refine ak rfl ?_|refine r2Y ?_|fail)) <;> (try clear zz)
  exact bK (.eslsl _) rfl
 rw [if_neg (fun h=>h he)]
 rw [he] at hc
 obtain ⟨p1,p2,p3,p4⟩:=cL he
 have z0:decide ((0:Int) ≠ 0)=false:=rfl
 by_cases hk:k < 1 ∨ (s.length:Int) < k
 ·rw [if_pos hk]
  (have zz:=aI @z0 @ap; repeat' (first|refine zW ?_|apply a_n|apply a_r|refine zO ?_|refine vY ?_|refine cY ?_ (hp:=hc) (hs:=by (first | refine ab ?_ rfl | apply ac); (repeat' (first | exact aa | apply am | apply ae | exact ax _)); first | done | fail)|refine gTY ?_|refine gFY ?_|refine cTY ?_|refine cFY ?_|(refine zGY ?_ ?_ <;> (intro _hg; try (exfalso; omega)))|refine ak rfl ?_|refine r2Y ?_|fail)) <;> (try clear zz)
  all_goals first | exact bK (.eslsl _) rfl | (exfalso; omega)
 rw [if_neg hk]
 obtain ⟨n,rfl⟩:∃ n:Nat,k=n:=⟨k.toNat,by omega⟩
 rw [Int.toNat_natCast]
 (have zz:=aI @z0 @ap; repeat' (first|refine zW ?_|apply a_n|refine zO ?_|refine vY ?_|refine cY ?_ (hp:=hc) (hs:=by (first | refine ab ?_ rfl | apply ac); (repeat' (first | exact aa | apply am | apply ae | exact ax _)); first | done | fail)|refine gTY ?_|refine cFY ?_|(refine zGY ?_ ?_ <;> (intro _hg; try (exfalso; omega)))|fail)) <;> (try clear zz)
 refine aV ev0 ev0 (wj s n _ _) ?_
 rintro _ H1 nx1 ⟨rfl,rfl,rfl⟩
 refine aV ev0 ev0 (u0 (kb:=0 + 1) (sb:=0) (k:=n) (s:=s) p2 (by omega) (by omega) ah (by rw [af (by omega),ah]) (by omega) (by omega)) ?_
 rintro r H2 nx2 ⟨r1,r2⟩
 obtain ⟨q1,q2⟩:=r1.one
 (have zz:=aI @q1 @q2; repeat' (first|apply a_n|refine zO ?_|refine vY ?_|refine ak rfl ?_|refine r2Y ?_|fail)) <;> (try clear zz)
 exact bK (eX r1) rfl
end Go.Proofs.Ytfcenbapjhecfaa
namespace Go.Proofs.Ytfcenbapjhecfaa
open Go Go.Abs
attribute [local irreducible] aB ai aW aN aG aH ay aJ aO ba Go.Abs.Fn aM Go.Abs.Pure ar aE Yl
end Go.Proofs.Ytfcenbapjhecfaa
namespace Go.Proofs.Ytfcenbapjhecfaa
open Go Go.Abs
attribute [local irreducible] aB ai aW aN aG aH ay aJ aO ba Go.Abs.Fn aM Go.Abs.Pure ar aE Yl
end Go.Proofs.Ytfcenbapjhecfaa
namespace Go.Proofs.Ytfcenbapjhecfaa
open Go Go.Abs
theorem sj {l:Spx} {k:Nat} (h:k ≤ l.length):hU 2 (av l) (some (.int .i64 k)) none none=some (av (l.drop k)):=ez h
attribute [local irreducible] aB ai aW aN aG aH ay aJ aO ba Go.Abs.Fn aM Go.Abs.Pure ar aE Yl
end Go.Proofs.Ytfcenbapjhecfaa
namespace Go.Proofs.Ytfcenbapjhecfaa
open Go Go.Abs
open Nat (reduceEqDiff reduceAdd reduceLeDiff)
def i8 (c:List Spx) (k:Nat):List Spx:=nQ aS (c.flatMap fun s=>bB s k)
theorem uA {c:List Spx} {k i:Nat} (hi:i < c.length):(c.take (i + 1)).flatMap (fun s=>bB s k)=(c.take i).flatMap (fun s=>bB s k) ++ bB (c.getD i default) k:=by
 rw [cC hi,List.flatMap_append]; simp
theorem i5 {k:Nat}:∀ {c:List Spx},(∀ s ∈ c,s.length ≤ 8)→(c.flatMap fun s=>bB s k).length ≤ 70 * c.length
 | [],_=>by simp
 | s :: c,h=>by
  rw [List.flatMap_cons,List.length_append,List.length_cons]
  have:=pn (l:=s) (k:=k) (h s List.mem_cons_self)
  have:=i5 (k:=k) (c:=c) (fun t ht=>h t (List.mem_cons_of_mem _ ht))
  omega
theorem jh {c:List Spx} {k:Nat} {s:Spx}:s ∈ c.flatMap (fun s=>bB s k) ↔ ∃ t ∈ c,s ∈ bB t k:=by rw [List.mem_flatMap]
def dQ (c:List Spx) (k:Int):List Spx × Int:=if a5 c ≠ 0 then ([],a5 c) else if k < 1 ∨ 8 < k then ([],2) else (i8 c k.toNat,0)
attribute [local irreducible] aB ai aW aN aG aH ay aJ aO ba Go.Abs.Fn aM Go.Abs.Pure ar aE Yl
end Go.Proofs.Ytfcenbapjhecfaa
namespace Go.Proofs.Ytfcenbapjhecfaa
open Go Go.Abs
open Nat (reduceEqDiff reduceAdd reduceLeDiff)
def d7:Nat→Spx→List Int
 | 0,_=>[]
 | n + 1,[]=>(-1) :: 0 :: d7 n []
 | n + 1,v :: l=>v.color :: v.label :: d7 n l
theorem jG:∀ {n:Nat} {s:Spx},(d7 n s).length=2 * n
 | 0,_=>rfl
 | n + 1,[]=>by show (d7 n []).length + 1 + 1=_; rw [jG]; omega
 | n + 1,v :: l=>by show (d7 n l).length + 1 + 1=_; rw [jG]; omega
theorem qd:∀ {n:Nat} {s t:Spx},s.length ≤ n→t.length ≤ n→(∀ v ∈ s,0 ≤ v.color)→(∀ v ∈ t,0 ≤ v.color)→d7 n s=d7 n t→s=t
 | 0,[],[],_,_,_,_,_=>rfl
 | 0,_ :: _,_,h,_,_,_,_=>absurd h (by simp)
 | 0,[],_ :: _,_,h,_,_,_=>absurd h (by simp)
 | n + 1,[],[],_,_,_,_,_=>rfl
 | n + 1,[],w :: m,_,_,_,h2,e=>by
  have:(-1:Int)=w.color:=(List.cons.inj e).1
  have:=h2 w List.mem_cons_self
  omega
 | n + 1,v :: l,[],_,_,h1,_,e=>by
  have:v.color=(-1:Int):=(List.cons.inj e).1
  have:=h1 v List.mem_cons_self
  omega
 | n + 1,v :: l,w :: m,hl,hm,h1,h2,e=>by
  obtain ⟨e1,e2⟩:=List.cons.inj e
  obtain ⟨e2,e3⟩:=List.cons.inj e2
  have:=qd (n:=n) (by simp at hl; omega) (by simp at hm; omega) (fun x hx=>h1 x (List.mem_cons_of_mem _ hx)) (fun x hx=>h2 x (List.mem_cons_of_mem _ hx)) e3
  rw [this,iU.2 ⟨e1,e2⟩]
def wY (x:List Int):AV:=.agg (x.map (AV.int .i64))
theorem vJ (x:List Int):Dat (wY x):=Dat.agg (by
 induction x with
 | nil=>exact DatL.nil
 | cons a l ih=>exact DatL.cons .int ih)
theorem tg:∀ {n:Nat} {s:Spx},s.length ≤ n→cX s ++ ((d7 n []).map (AV.int .i64)).drop (s.length * 2)=(d7 n s).map (AV.int .i64)
 | n,[],_=>by simp [cX]
 | 0,_ :: _,h=>absurd h (by simp)
 | n + 1,v :: l,h=>by
  have:=tg (n:=n) (s:=l) (by simp at h; omega)
  show [AV.int .i64 v.color,AV.int .i64 v.label] ++ cX l ++ _=AV.int .i64 v.color :: AV.int .i64 v.label :: (d7 n l).map (AV.int .i64)
  rw [← this,List.length_cons,show (l.length + 1) * 2=l.length * 2 + 1 + 1 by omega]
  rfl
def kc (k:Nat):List AV:=(d7 k [] ++ List.replicate (2 * (8 - k)) 0).map (AV.int .i64)
attribute [local irreducible] aB ai aW aN aG aH ay aJ aO ba Go.Abs.Fn aM Go.Abs.Pure ar aE Yl
theorem xL (s:Spx) (h1:1 ≤ s.length) (hs:s.length ≤ 8):Pure Try.prog 96 [av s] (wY (d7 8 s)):=by
 refine Pure.of_c2 follows BK (Nat.le_of_ble_eq_true rfl) ?_
 simp only [b96,cO,cG,cN,cM,cD,cF,cB,aA,aR]
 have hn:dJ (av s)=some s.length:=by unfold av eW; simp [dJ]
 have hput:=tg (n:=8) (s:=s) hs
 (have zz:=and_self; repeat' (first|refine zW ?_|apply a_n|refine zO ?_|refine vY ?_|refine alY ?_|fail)) <;> (try clear zz)
 refine bd (X:=Nat) (fun k=>[(0,av s),(2,.ptr 0 16 0),(3,.ptr 1 16 0),(5,.int .i64 k)]) (fun k H nx=>k ≤ 8∧H 0=some (kc 0)∧H 1=some (kc k)) (fun k=>8 - k) 0 ⟨Nat.zero_le _,by rw [af (by omega),ah]; rfl,ah⟩ (by (iterate 4 refine And.intro rfl ?_); trivial) ?_
 rintro k H nx ⟨hk,g0,g1⟩
 rcases (by omega:k=8 ∨ k=0 ∨ k=1 ∨ k=2 ∨ k=3 ∨ k=4 ∨ k=5 ∨ k=6 ∨ k=7) with rfl | rfl | rfl | rfl | rfl | rfl | rfl | rfl | rfl
 ·(have zz:=aI @g0 @g1; repeat' (first|refine zW ?_|apply a_n|apply a_x|refine zO ?_|refine vY ?_|(refine zGY ?_ ?_ <;> (intro _hg; try (exfalso; omega)))|fail)) <;> (try clear zz)
  refine yv rfl g1 rfl rfl ?_
  (have zz:=and_self; repeat' (first|apply a_n|refine zO ?_|refine vY ?_|fail)) <;> (try clear zz)
  refine yn (n:=s.length) (H':=aq H 1 ((d7 8 s).map (AV.int .i64))) ?_ ?_
  ·((try simp only [bQ,ZA,reduceEqDiff,↓reduceIte,reduceAdd,reduceLeDiff]); (try with_reducible rfl))
   have htr:ou s.length (av s)=av s:=by unfold av eW; simp [ou]; exact List.take_of_length_le (by simp)
   have hmin:min s.length 8=s.length:=Nat.min_eq_left hs
   have hal:dJ (.msl 1 16 2 0 8)=some 8:=rfl
   simp only [kX,hal,hn,hmin,if_neg (show ¬ s.length=0 by omega),g1,htr,qF]
   rw [if_pos (by refine ⟨?_,?_,?_,?_⟩ <;> first | rfl | trivial | omega | exact gP s)]
   have:bo (kc 8) 0 (cX s)=(d7 8 s).map (AV.int .i64):=by
    rw [← hput]
    simp only [bo,List.take_zero,List.nil_append,Nat.zero_add,fl]
    rfl
   rw [this]
  ·have hl:((d7 8 s).map (AV.int .i64)).length=16:=by rw [List.length_map,jG]
   have g1':aq H 1 ((d7 8 s).map (AV.int .i64)) 1=some ((d7 8 s).map (AV.int .i64)):=ah
   have g0':aq H 1 ((d7 8 s).map (AV.int .i64)) 0=some (kc 0):=by rw [af (by omega)]; exact g0
   have hl0:(kc 0).length=16:=rfl
   unfold wY
   have ht:((d7 8 s).map (AV.int .i64)).take 16=(d7 8 s).map (AV.int .i64):=List.take_of_length_le (by omega)
   have hd:=vJ (d7 8 s)
   unfold wY at hd
   have hfl:AV.ones ((d7 8 s).map (AV.int .i64))=true:=by
    unfold AV.ones
    rw [List.all_eq_true]
    intro x hx
    obtain ⟨y,_,rfl⟩:=List.mem_map.1 hx
    rfl
   have hlp:bo (kc 0) 0 ((d7 8 s).map (AV.int .i64))=(d7 8 s).map (AV.int .i64):=by
    simp only [bo,List.take_zero,List.nil_append,Nat.zero_add,hl]
    rw [List.drop_of_length_le (by decide),List.append_nil]
   generalize (d7 8 s).map (AV.int .i64)=K at *
   (have zz:=aI @g0' (aI @g1' (aI @hl (aI @hl0 @ht))); repeat' (first|refine zW ?_|apply a_n|refine zO ?_|refine vY ?_|fail)) <;> (try clear zz)
   refine zb (v:=.agg K) (cs:=kc 0) (vs:=K) (b:=0) (n:=16) (off:=0) rfl ev0 ev0 g0' rfl hfl hl0 hl (by omega) ?_
   rw [hlp]
   (have zz:=aI @hl @ht; repeat' (first|apply a_n|refine zO ?_|refine ak rfl ?_|refine r1Y ?_|fail)) <;> (try clear zz)
   exact hd _
 ·(have zz:=aI @g0 @g1; repeat' (first|refine zW ?_|apply a_n|refine zO ?_|refine vY ?_|(refine zGY ?_ ?_ <;> (intro _hg; try (exfalso; omega)))|fail)) <;> (try clear zz)
  refine ip (r:=.ptr 1 16 0) rfl rfl rfl ?_
  have hl:(kc 0).length=16:=rfl
  (have zz:=aI @g1 @hl; repeat' (first|apply a_n|refine zO ?_|refine vY ?_|refine stY ?_|fail)) <;> (try clear zz)
  exact ⟨1,by omega,⟨by omega,by rw [af (by omega)]; exact g0,by rw [ah]; rfl⟩,by (iterate 4 refine And.intro rfl ?_); trivial⟩
 ·(have zz:=aI @g0 @g1; repeat' (first|refine zW ?_|apply a_n|refine zO ?_|refine vY ?_|(refine zGY ?_ ?_ <;> (intro _hg; try (exfalso; omega)))|fail)) <;> (try clear zz)
  refine ip (r:=.ptr 1 16 2) rfl rfl rfl ?_
  have hl:(kc 1).length=16:=rfl
  (have zz:=aI @g1 @hl; repeat' (first|apply a_n|refine zO ?_|refine vY ?_|refine stY ?_|fail)) <;> (try clear zz)
  exact ⟨2,by omega,⟨by omega,by rw [af (by omega)]; exact g0,by rw [ah]; rfl⟩,by (iterate 4 refine And.intro rfl ?_); trivial⟩
 ·(have zz:=aI @g0 @g1; repeat' (first|refine zW ?_|apply a_n|refine zO ?_|refine vY ?_|(refine zGY ?_ ?_ <;> (intro _hg; try (exfalso; omega)))|fail)) <;> (try clear zz)
  refine ip (r:=.ptr 1 16 4) rfl rfl rfl ?_
  have hl:(kc 2).length=16:=rfl
  (have zz:=aI @g1 @hl; repeat' (first|apply a_n|refine zO ?_|refine vY ?_|refine stY ?_|fail)) <;> (try clear zz)
  exact ⟨3,by omega,⟨by omega,by rw [af (by omega)]; exact g0,by rw [ah]; rfl⟩,by (iterate 4 refine And.intro rfl ?_); trivial⟩
 ·(have zz:=aI @g0 @g1; repeat' (first|refine zW ?_|apply a_n|refine zO ?_|refine vY ?_|(refine zGY ?_ ?_ <;> (intro _hg; try (exfalso; omega)))|fail)) <;> (try clear zz)
  refine ip (r:=.ptr 1 16 6) rfl rfl rfl ?_
  have hl:(kc 3).length=16:=rfl
  (have zz:=aI @g1 @hl; repeat' (first|apply a_n|refine zO ?_|refine vY ?_|refine stY ?_|fail)) <;> (try clear zz)
  exact ⟨4,by omega,⟨by omega,by rw [af (by omega)]; exact g0,by rw [ah]; rfl⟩,by (iterate 4 refine And.intro rfl ?_); trivial⟩
 ·(have zz:=aI @g0 @g1; repeat' (first|refine zW ?_|apply a_n|refine zO ?_|refine vY ?_|(refine zGY ?_ ?_ <;> (intro _hg; try (exfalso; omega)))|fail)) <;> (try clear zz)
  refine ip (r:=.ptr 1 16 8) rfl rfl rfl ?_
  have hl:(kc 4).length=16:=rfl
  (have zz:=aI @g1 @hl; repeat' (first|apply a_n|refine zO ?_|refine vY ?_|refine stY ?_|fail)) <;> (try clear zz)
  exact ⟨5,by omega,⟨by omega,by rw [af (by omega)]; exact g0,by rw [ah]; rfl⟩,by (iterate 4 refine And.intro rfl ?_); trivial⟩
 ·(have zz:=aI @g0 @g1; repeat' (first|refine zW ?_|apply a_n|refine zO ?_|refine vY ?_|(refine zGY ?_ ?_ <;> (intro _hg; try (exfalso; omega)))|fail)) <;> (try clear zz)
  refine ip (r:=.ptr 1 16 10) rfl rfl rfl ?_
  have hl:(kc 5).length=16:=rfl
  (have zz:=aI @g1 @hl; repeat' (first|apply a_n|refine zO ?_|refine vY ?_|refine stY ?_|fail)) <;> (try clear zz)
  exact ⟨6,by omega,⟨by omega,by rw [af (by omega)]; exact g0,by rw [ah]; rfl⟩,by (iterate 4 refine And.intro rfl ?_); trivial⟩
 ·(have zz:=aI @g0 @g1; repeat' (first|refine zW ?_|apply a_n|refine zO ?_|refine vY ?_|(refine zGY ?_ ?_ <;> (intro _hg; try (exfalso; omega)))|fail)) <;> (try clear zz)
  refine ip (r:=.ptr 1 16 12) rfl rfl rfl ?_
  have hl:(kc 6).length=16:=rfl
  (have zz:=aI @g1 @hl; repeat' (first|apply a_n|refine zO ?_|refine vY ?_|refine stY ?_|fail)) <;> (try clear zz)
  exact ⟨7,by omega,⟨by omega,by rw [af (by omega)]; exact g0,by rw [ah]; rfl⟩,by (iterate 4 refine And.intro rfl ?_); trivial⟩
 ·(have zz:=aI @g0 @g1; repeat' (first|refine zW ?_|apply a_n|refine zO ?_|refine vY ?_|(refine zGY ?_ ?_ <;> (intro _hg; try (exfalso; omega)))|fail)) <;> (try clear zz)
  refine ip (r:=.ptr 1 16 14) rfl rfl rfl ?_
  have hl:(kc 7).length=16:=rfl
  (have zz:=aI @g1 @hl; repeat' (first|apply a_n|refine zO ?_|refine vY ?_|refine stY ?_|fail)) <;> (try clear zz)
  exact ⟨8,by omega,⟨by omega,by rw [af (by omega)]; exact g0,by rw [ah]; rfl⟩,by (iterate 4 refine And.intro rfl ?_); trivial⟩
end Go.Proofs.Ytfcenbapjhecfaa
namespace Go.Proofs.Ytfcenbapjhecfaa
open Go Go.Abs
attribute [local irreducible] aB ai aW aN aG aH ay aJ aO ba Go.Abs.Fn aM Go.Abs.Pure ar aE Yl
end Go.Proofs.Ytfcenbapjhecfaa
namespace Go.Proofs.Ytfcenbapjhecfaa
open Go Go.Abs
open Nat (reduceEqDiff reduceAdd reduceLeDiff)
theorem ue {H:Hp} {sz:Nat} {s:AV} {elems:List AV} (h:Row H sz s (elems.flatMap AV.cells)) (hc:∀ y ∈ elems,y.cells.length=sz) (hz:0 < sz) (hd:∀ y ∈ elems,∀ c ∈ y.cells,SnapF H c c):SnapF H s (.sl sz elems):=by
 obtain ⟨f1,f2⟩:=b9 elems hc
 generalize he:elems.flatMap AV.cells=cs at h
 cases h with
 | nil =>
  have:elems.length * sz=0:=by rw [← f1,he]; rfl
  have:elems=[]:=List.length_eq_zero_iff.1 (by
   rcases Nat.mul_eq_zero.1 this with h | h
   ·exact h
   ·omega)
  subst this; exact .eslsl sz
 | box b len cs hb hl =>
  have hlen:elems.length=len:=Nat.eq_of_mul_eq_mul_right hz (by rw [← f1,he,hl])
  refine .msl b (len * sz) sz 0 len cs elems hb hl (by omega) hlen hc (fun i j y a c hy hc' ha=>?_)
  have hj:j < sz:=by rw [← hc y (List.mem_of_getElem? hy)]; exact (List.getElem?_eq_some_iff.1 hc').1
  have key:∀ (l:List AV) (i j:Nat) (y c:AV),(∀ z ∈ l,z.cells.length=sz)→l[i]?=some y→y.cells[j]?=some c→j < sz→(l.flatMap AV.cells)[i * sz + j]?=some c:=by
   intro l
   induction l with
   | nil=>intro i j y c _ h; simp at h
   | cons x l ih =>
    intro i j y c hl hy hc hj
    rw [List.flatMap_cons]
    cases i with
    | zero =>
     simp at hy; subst hy
     rw [Nat.zero_mul,Nat.zero_add,List.getElem?_append_left (by rw [hl x (by simp)]; exact hj)]; exact hc
    | succ i =>
     rw [List.getElem?_append_right (by rw [hl x (by simp),Nat.add_mul]; omega),hl x (by simp)]
     have:=ih i j y c (fun z hz=>hl z (by simp [hz])) (by simpa using hy) hc hj
     rw [← this]; congr 1; rw [Nat.add_mul]; omega
  have:=key elems i j y c hc hy hc' hj
  rw [he,← Nat.zero_add (i * sz)] at this
  rw [this] at ha; cases ha
  exact hd y (List.mem_of_getElem? hy) a (List.mem_of_getElem? hc')
theorem lJ {H:Hp} {s:AV} {l:Spx} (h:Row H 2 s (cX l)):SnapF H s (av l):=by
 refine ue (elems:=l.map bP) (by rw [sL]; exact h) (fun y hy=>?_) (by omega) (fun y hy c hx=>?_)
 ·obtain ⟨n,_,rfl⟩:=List.mem_map.1 hy; rfl
 ·obtain ⟨n,_,rfl⟩:=List.mem_map.1 hy
  simp only [bP,AV.cells,List.mem_cons,List.not_mem_nil,or_false] at hx
  rcases hx with rfl | rfl <;> exact .int _ _
attribute [local irreducible] aB ai aW aN aG aH ay aJ aO ba Go.Abs.Fn aM Go.Abs.Pure ar aE Yl
theorem uV (l:Spx) (hl:l.length ≤ 1000000):dg Try.prog 83 [av l] (av l):=by
 refine dg.of_c2 follows As (Nat.le_of_ble_eq_true rfl) ?_
 simp only [b83,cO,cG,cN,cM,cD,cF,cB,aA,aR]
 (have zz:=and_self; repeat' (first|refine zW ?_|apply a_n|refine zO ?_|refine vY ?_|fail)) <;> (try clear zz)
 have hn:dJ (av l)=some l.length:=by unfold av eW; simp [dJ]
 refine vQ (k:=l.length) (by ((try simp only [bQ,ZA,reduceEqDiff,↓reduceIte,reduceAdd,reduceLeDiff]); (try with_reducible rfl)); exact hn) (fun h=>?_) (fun h=>?_) (fun h=>?_)
 ·(have zz:=and_self; repeat' (first|refine zW ?_|apply a_n|refine zO ?_|refine vY ?_|refine b0Y ?_|refine cFY ?_|fail)) <;> (try clear zz)
  refine pF rfl ev0 ev0 qF (gP _) (by omega) (by omega) ?_
  (have zz:=and_self; repeat' (first|apply a_n|refine zO ?_|refine vY ?_|refine ak rfl ?_|refine r1Y ?_|fail)) <;> (try clear zz)
  exact lJ (Row.box _ l.length (cX l) ah (fl l))
 ·(have zz:=and_self; repeat' (first|refine zW ?_|apply a_n|apply a_r|refine zO ?_|refine vY ?_|refine cTY ?_|refine ak rfl ?_|refine r1Y ?_|fail)) <;> (try clear zz)
  obtain rfl:=List.length_eq_zero_iff.1 h
  exact .eslsl 2
 ·(have zz:=and_self; repeat' (first|refine zW ?_|apply a_n|refine zO ?_|refine vY ?_|refine b0Y ?_|refine cFY ?_|fail)) <;> (try clear zz)
  refine pF rfl ev0 ev0 qF (gP _) (by omega) (by omega) ?_
  (have zz:=and_self; repeat' (first|apply a_n|refine zO ?_|refine vY ?_|refine ak rfl ?_|refine r1Y ?_|fail)) <;> (try clear zz)
  exact lJ (Row.box _ l.length (cX l) ah (fl l))
section
variable {g:Nat} {caps:List AV} {s:AV}
theorem zq (hs:bI s=some (.int .i64 0)) {H:Hp} {nx:Nat}:Abs.Fn Try.prog 98 [s,.int .i64 0,.int .i64 0,.func g caps] H nx fun r H' nx'=>nx'=nx∧H'=H:=by
 refine Abs.Fn.of_c2 follows AM (Nat.le_of_ble_eq_true rfl) ?_
 simp only [b98,cO,cG,cN,cM,cD,cF,cB,aA,aR]
 (have zz:=and_self; repeat' (first|refine zW ?_|apply a_n|refine zO ?_|refine vZ ?_|fail)) <;> (try clear zz)
 refine bd (X:=Unit) (fun x=>[(0,s),(1,.int .i64 0),(2,.int .i64 0),(3,.func g caps),(8,.int .i64 1)]) (fun x H' nx'=>H'=H∧nx'=nx) (fun x=>0) () ⟨rfl,rfl⟩ (by simp (disch:=omega) only [agr,ZG,reduceEqDiff,↓reduceIte,Int.zero_add,true_and]) ?_
 rintro _ _ _ ⟨rfl,rfl⟩
 (have zz:=and_self; repeat' (first|refine zW ?_|apply a_n|apply a_x|refine zO ?_|refine vZ ?_|(refine zGZ ?_ ?_ <;> (intro _hg; try (exfalso; omega)))|refine ak rfl ?_|fail)) <;> (try clear zz)
 exact ⟨rfl,rfl⟩
theorem y6 (hs:bI s=some (.int .i64 0)) {H:Hp} {nx:Nat}:Abs.Fn Try.prog 89 [s,.int .i64 0,.int .i64 0,.int .i64 0,.func g caps] H nx fun r H' nx'=>nx'=nx∧H'=H:=by
 refine Abs.Fn.of_c2 follows Aj (Nat.le_of_ble_eq_true rfl) ?_
 simp only [b89,cO,cG,cN,cM,cD,cF,cB,aA,aR]
 (have zz:=and_self; repeat' (first|refine zW ?_|apply a_n|refine zO ?_|refine vZ ?_|fail)) <;> (try clear zz)
 refine bd (X:=Unit) (fun x=>[(0,s),(1,.int .i64 0),(2,.int .i64 0),(3,.int .i64 0),(4,.func g caps)]) (fun x H' nx'=>H'=H∧nx'=nx) (fun x=>0) () ⟨rfl,rfl⟩ ag0 ?_
 rintro _ _ _ ⟨rfl,rfl⟩
 (have zz:=and_self; repeat' (first|refine zW ?_|apply a_n|refine zO ?_|refine vZ ?_|(refine zGZ ?_ ?_ <;> (intro _hg; try (exfalso; omega)))|fail)) <;> (try clear zz)
 refine aV ev0 ev0 (zq hs) ?_
 rintro _ _ _ ⟨rfl,rfl⟩
 (have zz:=and_self; repeat' (first|apply a_n|apply a_r|refine zO ?_|refine ak rfl ?_|fail)) <;> (try clear zz)
 exact ⟨rfl,rfl⟩
theorem jv (hs:bI s=some (.int .i64 0)) {H:Hp} {nx:Nat}:Abs.Fn Try.prog 73 [s,.func g caps] H nx fun r H' nx'=>nx'=nx∧H'=H:=by
 refine Abs.Fn.of_c2 follows z9 (Nat.le_of_ble_eq_true rfl) ?_
 simp only [b73,cO,cG,cN,cM,cD,cF,cB,aA,aR]
 have w8:IntKind.wrap .u64 0=0:=by decide
 (have zz:=aI @w8 @hs; repeat' (first|refine zW ?_|apply a_n|refine zO ?_|refine vZ ?_|fail)) <;> (try clear zz)
 refine aV ev0 (have zz:=@w8; evZ) zB ?_
 rintro _ _ _ ⟨rfl,rfl,rfl⟩
 (have zz:=and_self; repeat' (first|apply a_n|refine zO ?_|refine vZ ?_|fail)) <;> (try clear zz)
 refine aV ev0 ev0 (y6 hs) ?_
 rintro _ _ _ ⟨rfl,rfl⟩
 (have zz:=and_self; repeat' (first|apply a_n|refine zO ?_|refine ak rfl ?_|fail)) <;> (try clear zz)
 exact ⟨rfl,rfl⟩
end
end Go.Proofs.Ytfcenbapjhecfaa
namespace Go.Proofs.Ytfcenbapjhecfaa
open Go Go.Abs
attribute [local irreducible] aB ai aW aN aG aH ay aJ aO ba Go.Abs.Fn aM Go.Abs.Pure ar aE Yl
theorem zA:Cmp Try.prog av aS (fun s=>Shn s) 40 [] where
 cells _:=rfl
 one _:=rfl
 dat x:=ax x
 dcaps x hx:=by cases hx
 run x y hx hy:=dP x y hx hy
 ord:=fm.ord
end Go.Proofs.Ytfcenbapjhecfaa
namespace Go.Proofs.Ytfcenbapjhecfaa
open Go Go.Abs
def K16:Type:={x:List Int // x.length=16}
instance:DecidableEq K16:=inferInstanceAs (DecidableEq {x:List Int // x.length=16})
def kK (s:Spx):K16:=⟨d7 8 s,by rw [jG]⟩
def eK (x:K16):AV:=wY x.1
theorem lX:∀ {n:Nat} {xs ys:List Int},xs.length=n→ys.length=n→bM (List.replicate n .int) (xs.map (AV.int .i64)) (ys.map (AV.int .i64))=some (decide (xs=ys))
 | 0,[],[],_,_=>rfl
 | 0,_ :: _,_,h,_=>absurd h (by simp)
 | 0,[],_ :: _,_,h=>absurd h (by simp)
 | n + 1,[],_,h,_=>absurd h (by simp)
 | n + 1,_ :: _,[],_,h=>absurd h (by simp)
 | n + 1,x :: xs,y :: ys,h1,h2=>by
  have ih:=lX (n:=n) (xs:=xs) (ys:=ys) (by simpa using h1) (by simpa using h2)
  have e:(x == y)=decide (x=y):=rfl
  rw [List.replicate_succ,List.map_cons,List.map_cons]
  by_cases hxy:x=y
  ·subst hxy
   simp only [bM,eJ,if_true,e,decide_true,ih]
   simp
  ·simp only [bM,eJ,if_true,e,decide_eq_false hxy]
   simp [hxy]
theorem yH (a b:K16):jA (.st [.int,.int,.int,.int,.int,.int,.int,.int,.int,.int,.int,.int,.int,.int,.int,.int]) (eK a) (eK b)=some (decide (a=b)):=by
 show bM (List.replicate 16 .int) (a.1.map (AV.int .i64)) (b.1.map (AV.int .i64))=_
 rw [lX a.2 b.2]
 congr 1
 exact decide_eq_decide.2 ⟨Subtype.ext,fun h=>congrArg Subtype.val h⟩
theorem w9 (v:K16) (ks:List K16):bE (.st [.int,.int,.int,.int,.int,.int,.int,.int,.int,.int,.int,.int,.int,.int,.int,.int]) (eK v) (ks.map eK)=some (if v ∈ ks then some (ks.idxOf v) else none):=ki _ eK yH v ks
theorem tV (v:K16):eC (.st [.int,.int,.int,.int,.int,.int,.int,.int,.int,.int,.int,.int,.int,.int,.int,.int]) (eK v)=true:=by
 show (16 == (v.1.map (AV.int .i64)).length)=true
 rw [List.length_map,v.2]; rfl
def gu (s:Spx):Prop:=1 ≤ s.length∧s.length ≤ 8∧∀ v ∈ s,0 ≤ v.color
theorem yV {s t:Spx} (hs:gu s) (ht:gu t) (h:kK s=kK t):s=t:=qd hs.2.1 ht.2.1 hs.2.2 ht.2.2 (congrArg Subtype.val h)
theorem yR {O:List Spx} {f:Spx} (hO:∀ s ∈ O,gu s) (hf:gu f):kK f ∈ O.map kK ↔ f ∈ O:=by
 rw [List.mem_map]
 exact ⟨fun ⟨s,h1,h2⟩=>by rw [← yV (hO s h1) hf h2]; exact h1,fun h=>⟨f,h,rfl⟩⟩
theorem xy {s:Spx} (h:be s=0):gu s:=by
 obtain ⟨p1,p2,p3,p4⟩:=cL h
 refine ⟨p1,p2,fun v hv=>?_⟩
 have:=p4 v hv
 unfold dl at this
 simp only [Bool.and_eq_true,decide_eq_true_eq] at this
 exact this.1.1
theorem wx {s t:Spx} {k:Nat} (hs:gu s) (hk:1 ≤ k) (h:t ∈ bB s k):gu t:=by
 obtain ⟨h1,h2⟩:=di.1 h
 exact ⟨by omega,Nat.le_trans h1.length_le hs.2.1,fun v hv=>hs.2.2 v (h1.subset hv)⟩
theorem lq {O L P:List Spx} (hp:L.Perm O) (hs:aZ aS 0 L.length L) (hn:O.Nodup) (hm:∀ s,s ∈ O ↔ s ∈ P):L=nQ aS P:=by
 refine kM fm ?_ (me fm P) fun s=>by rw [hp.mem_iff,hm,jx]
 unfold bi
 rw [List.pairwise_iff_getElem]
 intro i j hi hj hij
 have h1:=hs i j (Nat.zero_le _) hij hj
 rw [show L.getD i default=L[i] by simp [List.getD,hi],show L.getD j default=L[j] by simp [List.getD,hj]] at h1
 rcases fm.tri L[i] L[j] with h | h | h
 ·exact h
 ·have:=(List.nodup_iff_pairwise_ne.1 (hp.nodup_iff.2 hn))
  exact absurd h ((List.pairwise_iff_getElem.1 this) i j hi hj hij)
 ·exact absurd h h1
end Go.Proofs.Ytfcenbapjhecfaa
namespace Go.Proofs.Ytfcenbapjhecfaa
open Go Go.Abs
section
variable {α:Type} {K:α→α→Int}
def pd (K:α→α→Int):Nat→List α→List α→List α
 | 0,_,_=>[]
 | _ + 1,[],b=>b
 | _ + 1,x :: a,[]=>x :: a
 | n + 1,x :: a,y :: b=>if K x y < 0 then x :: pd K n a (y :: b) else if K y x < 0 then y :: pd K n (x :: a) b else pd K n a b
def cK (K:α→α→Int) (a b:List α):List α:=pd K (a.length + b.length + 1) a b
theorem gW:∀ (n m:Nat) (a b:List α),a.length + b.length < n→a.length + b.length < m→pd K n a b=pd K m a b
 | 0,_,_,_,h,_=>absurd h (by omega)
 | _ + 1,0,_,_,_,h=>absurd h (by omega)
 | _ + 1,_ + 1,[],b,_,_=>rfl
 | _ + 1,_ + 1,x :: a,[],_,_=>rfl
 | n + 1,m + 1,x :: a,y :: b,h1,h2=>by
  simp only [List.length_cons] at h1 h2
  simp only [pd]
  rw [gW n m a (y :: b) (by simp only [List.length_cons]; omega) (by simp only [List.length_cons]; omega),gW n m (x :: a) b (by simp only [List.length_cons]; omega) (by simp only [List.length_cons]; omega),gW n m a b (by omega) (by omega)]
theorem mo {b:List α}:cK K [] b=b:=rfl
theorem pH {a:List α}:cK K a []=a:=by cases a <;> rfl
theorem sU {x y:α} {a b:List α}:cK K (x :: a) (y :: b)=if K x y < 0 then x :: cK K a (y :: b) else if K y x < 0 then y :: cK K (x :: a) b else cK K a b:=by
 show pd K (a.length + 1 + (b.length + 1) + 1) (x :: a) (y :: b)=_
 simp only [pd]
 unfold cK
 rw [gW (a.length + 1 + (b.length + 1)) (a.length + (y :: b).length + 1) a (y :: b) (by simp only [List.length_cons]; omega) (by simp only [List.length_cons]; omega),gW (a.length + 1 + (b.length + 1)) ((x :: a).length + b.length + 1) (x :: a) b (by simp only [List.length_cons]; omega) (by simp only [List.length_cons]; omega),gW (a.length + 1 + (b.length + 1)) (a.length + b.length + 1) a b (by omega) (by omega)]
theorem iZ:∀ (n:Nat) (a b:List α),a.length + b.length ≤ n→(cK K a b).length ≤ a.length + b.length
 | _,[],b,_=>by rw [mo]; simp
 | _,x :: a,[],_=>by rw [pH]; simp
 | 0,x :: a,y :: b,h=>by simp only [List.length_cons] at h; omega
 | n + 1,x :: a,y :: b,h=>by
  simp only [List.length_cons] at h ⊢
  rw [sU]
  have h1:=iZ n a (y :: b) (by simp only [List.length_cons]; omega)
  have h2:=iZ n (x :: a) b (by simp only [List.length_cons]; omega)
  have h3:=iZ n a b (by omega)
  simp only [List.length_cons] at h1 h2
  split
  ·simp only [List.length_cons]; omega
  split
  ·simp only [List.length_cons]; omega
  ·omega
theorem gA (hK:LinK K):∀ (n:Nat) (a b:List α),a.length + b.length ≤ n→bi K a→bi K b→bi K (cK K a b)∧∀ z,z ∈ cK K a b ↔ (z ∈ a∧z ∉ b) ∨ (z ∈ b∧z ∉ a)
 | _,[],b,_,_,hb=>by rw [mo]; exact ⟨hb,fun z=>by simp⟩
 | _,x :: a,[],_,ha,_=>by rw [pH]; exact ⟨ha,fun z=>by simp⟩
 | 0,x :: a,y :: b,h,_,_=>by simp only [List.length_cons] at h; omega
 | n + 1,x :: a,y :: b,h,ha,hb=>by
  simp only [List.length_cons] at h
  obtain ⟨a1,a2⟩:=List.pairwise_cons.1 ha
  obtain ⟨b1,b2⟩:=List.pairwise_cons.1 hb
  have irr:=fun v=>hK.ord.irr v
  rw [sU]
  by_cases g1:K x y < 0
  ·rw [if_pos g1]
   obtain ⟨h1,h2⟩:=gA hK n a (y :: b) (by simp only [List.length_cons]; omega) a2 hb
   have hxb:∀ z ∈ y :: b,K x z < 0:=fun z hz=>by
    rcases List.mem_cons.1 hz with rfl | hz
    ·exact g1
    ·exact hK.trans g1 (b1 z hz)
   refine ⟨List.pairwise_cons.2 ⟨fun z hz=>?_,h1⟩,fun z=>?_⟩
   ·rcases (h2 z).1 hz with ⟨q,_⟩ | ⟨q,_⟩
    ·exact a1 z q
    ·exact hxb z q
   ·rw [List.mem_cons,h2,List.mem_cons (a:=z) (b:=x)]
    by_cases hz:z=x
    ·subst hz
     have:z ∉ y :: b:=fun q=>irr _ (hxb z q)
     simp [this]
    ·simp [hz]
  rw [if_neg g1]
  by_cases g2:K y x < 0
  ·rw [if_pos g2]
   obtain ⟨h1,h2⟩:=gA hK n (x :: a) b (by simp only [List.length_cons]; omega) ha b2
   have hya:∀ z ∈ x :: a,K y z < 0:=fun z hz=>by
    rcases List.mem_cons.1 hz with rfl | hz
    ·exact g2
    ·exact hK.trans g2 (a1 z hz)
   refine ⟨List.pairwise_cons.2 ⟨fun z hz=>?_,h1⟩,fun z=>?_⟩
   ·rcases (h2 z).1 hz with ⟨q,_⟩ | ⟨q,_⟩
    ·exact hya z q
    ·exact b1 z q
   ·rw [List.mem_cons,h2,List.mem_cons (a:=z) (b:=y)]
    by_cases hz:z=y
    ·subst hz
     have:z ∉ x :: a:=fun q=>irr _ (hya z q)
     simp [this]
    ·simp [hz]
  rw [if_neg g2]
  obtain rfl:x=y:=by
   rcases hK.tri x y with q | q | q
   ·exact absurd q g1
   ·exact q
   ·exact absurd q g2
  obtain ⟨h1,h2⟩:=gA hK n a b (by omega) a2 b2
  refine ⟨h1,fun z=>?_⟩
  rw [h2]
  by_cases hz:z=x
  ·subst hz
   have q1:z ∉ a:=fun q=>irr _ (a1 z q)
   have q2:z ∉ b:=fun q=>irr _ (b1 z q)
   simp [q1,q2]
  ·simp [hz]
theorem xw (hK:LinK K) {a b:List α} (ha:bi K a) (hb:bi K b):bi K (cK K a b):=(gA hK _ a b (Nat.le_refl _) ha hb).1
theorem tt (hK:LinK K) {a b:List α} (ha:bi K a) (hb:bi K b) {z:α}:z ∈ cK K a b ↔ (z ∈ a∧z ∉ b) ∨ (z ∈ b∧z ∉ a):=(gA hK _ a b (Nat.le_refl _) ha hb).2 z
theorem pt {a b:List α}:(cK K a b).length ≤ a.length + b.length:=iZ _ a b (Nat.le_refl _)
end
def bm (s:Spx):List Spx:=if s.length < 2 then [] else bB s (s.length - 1)
def jr (a:List Spx) (o:List Spx):List Spx:=a.foldl (fun o s=>cK aS o (bm s)) o
def bA (a:List Spx):List Spx:=jr a []
theorem nt {s:Spx} (h:bi bt s):bi aS (bm s):=by
 unfold bm; split
 ·exact bi.nil
 ·exact gx h
theorem fL {s f:Spx}:f ∈ bm s ↔ 2 ≤ s.length∧f.Sublist s∧f.length=s.length - 1:=by
 unfold bm; split
 ·exact ⟨fun h=>(by cases h),fun h=>absurd h.1 (by omega)⟩
 ·rw [di]; exact ⟨fun h=>⟨by omega,h⟩,fun h=>h.2⟩
def ib (a:List Spx) (f:Spx):Nat:=(a.map fun s=>(bm s).count f).sum
theorem kj {s:Spx} {a:List Spx} {f:Spx}:ib (s :: a) f=(bm s).count f + ib a f:=by unfold ib; rw [List.map_cons,List.sum_cons]
theorem ut {L:List Spx} (h:bi aS L) (f:Spx):L.count f % 2=1 ↔ f ∈ L:=by
 by_cases hf:f ∈ L
 ·have h1:=List.count_pos_iff.2 hf
  have h2:=List.nodup_iff_count.1 (h.nodup fm) f
  exact ⟨fun _=>hf,fun _=>by omega⟩
 ·rw [List.count_eq_zero_of_not_mem hf]; exact ⟨fun h=>absurd h (by decide),fun h=>absurd h hf⟩
theorem mv:∀ (a o:List Spx) (c:Spx→Nat),(∀ s ∈ a,bi bt s)→bi aS o→(∀ f,f ∈ o ↔ c f % 2=1)→bi aS (jr a o)∧∀ f,f ∈ jr a o ↔ (c f + ib a f) % 2=1
 | [],o,c,_,ho,hc=>⟨ho,fun f=>by show f ∈ o ↔ _; rw [hc]; rfl⟩
 | s :: a,o,c,hs,ho,hc=>by
  have hf:=nt (hs s List.mem_cons_self)
  obtain ⟨h1,h2⟩:=mv a (cK aS o (bm s)) (fun f=>c f + (bm s).count f) (fun t ht=>hs t (List.mem_cons_of_mem _ ht)) (xw fm ho hf) fun f=>by
   rw [tt fm ho hf,hc,← ut hf f]
   omega
  refine ⟨h1,fun f=>?_⟩
  show f ∈ jr a (cK aS o (bm s)) ↔ _
  rw [h2,kj,Nat.add_assoc]
theorem eI {a:List Spx} (hs:∀ s ∈ a,bi bt s):bi aS (bA a)∧∀ f,f ∈ bA a ↔ ib a f % 2=1:=by
 obtain ⟨h1,h2⟩:=mv a [] (fun _=>0) hs bi.nil fun f=>⟨fun h=>(by cases h),fun h=>absurd h (by decide)⟩
 exact ⟨h1,fun f=>by rw [show bA a=jr a [] from rfl,h2,Nat.zero_add]⟩
theorem kF {a:List Spx} (hs:∀ s ∈ a,bi bt s):bi aS (bA a):=(eI hs).1
theorem fR {a:List Spx} (hs:∀ s ∈ a,bi bt s) {f:Spx} (hf:f ∈ bA a):∃ s ∈ a,f ∈ bm s:=by
 have h:=((eI hs).2 f).1 hf
 have hp:0 < ib a f:=by omega
 clear h hf hs
 induction a with
 | nil=>exact absurd hp (Nat.lt_irrefl 0)
 | cons s a ih =>
  rw [kj] at hp
  by_cases h:0 < (bm s).count f
  ·exact ⟨s,List.mem_cons_self,List.count_pos_iff.1 h⟩
  ·obtain ⟨t,h1,h2⟩:=ih (by omega)
   exact ⟨t,List.mem_cons_of_mem _ h1,h2⟩
theorem n9:∀ (a o:List Spx),(∀ s ∈ a,s.length ≤ 8)→(jr a o).length ≤ o.length + a.length * 70
 | [],o,_=>Nat.le_add_right _ _
 | s :: a,o,h=>by
  have h1:=n9 a (cK aS o (bm s)) fun t ht=>h t (List.mem_cons_of_mem _ ht)
  have h2:=pt (K:=aS) (a:=o) (b:=bm s)
  have h3:(bm s).length ≤ 70:=by
   unfold bm; split
   ·exact Nat.zero_le _
   ·exact pn (h s List.mem_cons_self)
  show (jr a (cK aS o (bm s))).length ≤ _
  rw [List.length_cons]; omega
theorem o5 {a:List Spx} (h:∀ s ∈ a,s.length ≤ 8):(bA a).length ≤ a.length * 70:=by
 have:=n9 a [] h
 rw [List.length_nil,Nat.zero_add] at this
 exact this
theorem vH {a b:List Spx} (ha:bi aS a) (hb:bi aS b) (P:Spx→Prop) (h1:∀ s ∈ a,P s) (h2:∀ s ∈ b,P s):∀ s ∈ cK aS a b,P s:=fun s hs=>by
 rcases (tt fm ha hb).1 hs with ⟨h,_⟩ | ⟨h,_⟩
 ·exact h1 s h
 ·exact h2 s h
def fc0:Spx→List Spx
 | []=>[]
 | x :: s=>s :: (fc0 s).map (x :: ·)
theorem oX:∀ {s:Spx},bB s s.length=[s]
 | []=>rfl
 | x :: s=>by rw [List.length_cons,eH,oX,m9 (by omega)]; rfl
theorem ra:∀ {s:Spx},s ≠ []→(bB s (s.length - 1)).Perm (fc0 s)
 | [],h=>absurd rfl h
 | [x],_=>by show (bB [x] 0).Perm _; rw [kp]; exact List.Perm.refl _
 | x :: y :: s,_=>by
  show (bB (x :: y :: s) (s.length + 1)).Perm _
  rw [eH,show s.length + 1=(y :: s).length from rfl,oX]
  have ih:=ra (s:=y :: s) (by simp)
  show ((bB (y :: s) s.length).map (x :: ·) ++ [y :: s]).Perm ((y :: s) :: (fc0 (y :: s)).map (x :: ·))
  exact List.perm_append_comm.trans ((ih.map (x :: ·)).cons _)
def vO (a:List Spx) (k:Nat):Int:=if be (a.getD k default) ≠ 0 then be (a.getD k default) else if (a.getD k default).length ≠ (a.getD 0 default).length then 15 else if 0 < k∧0 ≤ aS (a.getD (k - 1) default) (a.getD k default) then 14 else 0
def bU (a:List Spx):Int:=if 4096 < a.length then 5 else bH (vO a) a.length
theorem dt {a:List Spx} (h:bU a=0):a.length ≤ 4096∧(∀ s ∈ a,be s=0)∧bi aS a∧∀ s ∈ a,s.length=(a.getD 0 default).length:=by
 unfold bU at h
 split at h
 ·exact absurd h (by decide)
 rename_i hl
 have h0:=dK h
 have hk:∀ k,k < a.length→be (a.getD k default)=0∧(a.getD k default).length=(a.getD 0 default).length∧(0 < k→aS (a.getD (k - 1) default) (a.getD k default) < 0):=fun k hk=>by
  have q:=h0 k hk
  unfold vO at q
  split at q
  ·exact absurd q ‹_›
  split at q
  ·exact absurd q (by decide)
  split at q
  ·exact absurd q (by decide)
  ·rename_i q1 q2 q3
   exact ⟨Decidable.of_not_not q1,Decidable.of_not_not q2,fun h0=>by omega⟩
 have hm:∀ s ∈ a,∃ k,k < a.length∧a.getD k default=s:=fun s hs=>by
  obtain ⟨k,h1,h2⟩:=List.getElem_of_mem hs
  exact ⟨k,h1,by simp [List.getD,h1,h2]⟩
 refine ⟨by omega,fun s hs=>?_,?_,fun s hs=>?_⟩
 ·obtain ⟨k,h1,rfl⟩:=hm s hs; exact (hk k h1).1
 ·have hchain:∀ j i,i < j→j < a.length→aS (a.getD i default) (a.getD j default) < 0:=fun j=>by
    induction j with
    | zero=>intro i hi; omega
    | succ j ih =>
     intro i hi hj
     have q:=(hk (j + 1) hj).2.2 (by omega)
     rw [Nat.add_sub_cancel] at q
     rcases (by omega:i < j ∨ i=j) with h | rfl
     ·exact fm.trans (ih i h (by omega)) q
     ·exact q
  unfold bi
  rw [List.pairwise_iff_getElem]
  intro i j hi hj hij
  have:=hchain j i hij hj
  rwa [show a.getD i default=a[i] by simp [List.getD,hi],show a.getD j default=a[j] by simp [List.getD,hj]] at this
 ·obtain ⟨k,h1,rfl⟩:=hm s hs; exact (hk k h1).2.1
theorem tc {a:List Spx} {n:Nat} (h1:a.length ≤ 4096) (h2:∀ s ∈ a,be s=0) (h3:bi aS a) (h4:∀ s ∈ a,s.length=n):bU a=0:=by
 unfold bU
 rw [if_neg (by omega)]
 refine bJ fun k hk=>?_
 unfold vO
 rw [if_neg (fun h=>h (h2 _ (aL hk))),if_neg (fun h=>h (by rw [h4 _ (aL hk),h4 _ (aL (by omega))])),if_neg]
 rintro ⟨q1,q2⟩
 have:=bV h3 (i:=k - 1) (j:=k) (by omega) hk
 omega
theorem d4 {a:List Spx} (h:∀ s ∈ a,be s=0):∀ s ∈ a,bi bt s:=fun s hs=>(cL (h s hs)).2.2.1
end Go.Proofs.Ytfcenbapjhecfaa
namespace Go.Proofs.Ytfcenbapjhecfaa
open Go Go.Abs
theorem rS {a:List Spx} {k:Nat}:vO a k=if be (a.getD k default) ≠ 0 then be (a.getD k default) else if (a.getD k default).length ≠ (a.getD 0 default).length then 15 else if 0 < k∧0 ≤ aS (a.getD (k - 1) default) (a.getD k default) then 14 else 0:=rfl
def ff (l:List (List Spx)):AV:=eW 1 au l
theorem qp (l:List (List Spx)):Dat (ff l):=vn (fun _=>rfl) aC
instance datI_encXsss {l:List (List Spx)}:DatI (ff l):=⟨qp l⟩
theorem nK {l:List (List Spx)}:bI (ff l)=some (.int .i64 l.length):=iI
theorem Bq {l:List (List Spx)} {k:Nat} (h:k < l.length):cS 1 (ff l) (.int .i64 (k:Int))=some (.iptr [au (l.getD k default)] 0):=by
 unfold ff
 rw [jO,if_pos ⟨by omega,by omega⟩,Int.toNat_natCast]; rfl
theorem sS {l:List Spx} (h:0 < l.length):cS 1 (au l) (.int .i64 0)=some (.iptr [av (l.getD 0 default)] 0):=dH h
abbrev ShC (a:List Spx):Prop:=Shn a∧∀ s ∈ a,Shn s
attribute [local irreducible] aB ai aW aN aG aH ay aJ aO ba Go.Abs.Fn aM Go.Abs.Pure ar aE Yl
theorem gG (a:List Spx) (ha:ShC a):Pure Try.prog 14 [au a] (.int .i64 (bU a)):=by
 refine Pure.of_c2 follows Bx (Nat.le_of_ble_eq_true rfl) ?_
 simp only [b14,cO,cG,cN,cM,cD,cF,cB,aA,aR]
 have ha':a.length ≤ 17592186044416:=ha.1
 unfold bU
 by_cases h0:4096 < a.length
 ·rw [if_pos h0]
  (have zz:=aI @ag (aI @ao @aj); repeat' (first|refine zW ?_|apply a_n|apply a_r|refine zO ?_|refine vZ ?_|(refine zGZ ?_ ?_ <;> (intro _hg; try (exfalso; omega)))|refine ak rfl ?_|refine r1Z ?_|fail)) <;> (try clear zz)
  all_goals exact co rfl
 rw [if_neg h0]
 (have zz:=aI @ag (aI @ao @aj); repeat' (first|refine zW ?_|apply a_n|refine zO ?_|refine vZ ?_|(refine zGZ ?_ ?_ <;> (intro _hg; try (exfalso; omega)))|fail)) <;> (try clear zz)
 refine jD (X:=Nat) (fun k=>[(0,au a),(9,au a),(10,.int .i64 a.length),(11,.int .i64 k)]) (fun k=>k ≤ a.length∧∀ i,i < k→vO a i=0) (fun k=>a.length - k) 0 ⟨Nat.zero_le _,fun i h=>absurd h (by omega)⟩ ag0 ?_
 rintro k ⟨h1,h2⟩
 by_cases hk:k < a.length
 rotate_left
 ·rw [bJ fun i hi=>h2 i (by omega)]
  (have zz:=and_self; repeat' (first|refine zW ?_|apply a_n|apply a_x|refine zO ?_|refine vY ?_|(refine zGY ?_ ?_ <;> (intro _hg; try (exfalso; omega)))|refine ak rfl ?_|refine r1Y ?_|fail)) <;> (try clear zz)
  exact .int _ _
 have ix:=dH hk
 have i0:=sS (l:=a) (by omega)
 have hs1:=ha.2 _ (aP hk)
 have hp:=jK (a.getD k default) hs1
 have hsp:=rS (a:=a) (k:=k)
 by_cases he:be (a.getD k default) ≠ 0
 ·rw [if_pos he] at hsp
  rw [bz hk h2 (by rw [hsp]; exact he),hsp]
  have z:decide (be (a.getD k default) ≠ 0)=true:=decide_eq_true he
  (have zz:=aI @ag (aI @ap (aI @ix @z)); repeat' (first|refine zW ?_|apply a_n|apply a_r|refine zO ?_|refine vY ?_|refine cY ?_ (hp:=hp) (hs:=by (first | refine ab ?_ rfl | apply ac); (repeat' (first | exact aa | apply am | apply ae | exact ax _)); first | done | fail)|refine cTY ?_|(refine zGY ?_ ?_ <;> (intro _hg; try (exfalso; omega)))|refine ak rfl ?_|refine r1Y ?_|fail)) <;> (try clear zz)
  exact .int _ _
 rw [if_neg he] at hsp
 have he:=Decidable.of_not_not he
 rw [he] at hp
 have z:decide ((0:Int) ≠ 0)=false:=rfl
 by_cases hl:(a.getD k default).length ≠ (a.getD 0 default).length
 ·rw [if_pos hl] at hsp
  rw [bz hk h2 (by rw [hsp]; decide),hsp]
  have z1:decide (((a.getD k default).length:Int) ≠ (a.getD 0 default).length)=true:=decide_eq_true (by omega)
  (have zz:=aI @ag (aI @ap (aI @ix (aI @i0 (aI @z @z1)))); repeat' (first|refine zW ?_|apply a_n|apply a_r|refine zO ?_|refine vY ?_|refine cY ?_ (hp:=hp) (hs:=by (first | refine ab ?_ rfl | apply ac); (repeat' (first | exact aa | apply am | apply ae | exact ax _)); first | done | fail)|refine cTY ?_|refine cFY ?_|(refine zGY ?_ ?_ <;> (intro _hg; try (exfalso; omega)))|refine ak rfl ?_|refine r1Y ?_|fail)) <;> (try clear zz)
  exact .int _ _
 rw [if_neg hl] at hsp
 have z1:decide (((a.getD k default).length:Int) ≠ (a.getD 0 default).length)=false:=decide_eq_false (by omega)
 by_cases hk0:0 < k
 rotate_left
 ·rw [if_neg (fun h=>hk0 h.1)] at hsp
  have zk:decide (0 < (k:Int))=false:=decide_eq_false (by omega)
  (have zz:=aI @ag (aI @ap (aI @ix (aI @i0 (aI @z (aI @z1 @zk))))); repeat' (first|refine zW ?_|apply a_n|refine zO ?_|refine vY ?_|refine cY ?_ (hp:=hp) (hs:=by (first | refine ab ?_ rfl | apply ac); (repeat' (first | exact aa | apply am | apply ae | exact ax _)); first | done | fail)|refine gFY ?_|refine cFY ?_|(refine zGY ?_ ?_ <;> (intro _hg; try (exfalso; omega)))|fail)) <;> (try clear zz)
  exact ⟨k + 1,⟨by omega,fun i hi=>by
   rcases Nat.lt_succ_iff_lt_or_eq.1 hi with h' | rfl
   ·exact h2 i h'
   ·exact hsp⟩,by omega,ag0,rfl,rfl⟩
 have zk:decide (0 < (k:Int))=true:=decide_eq_true (by omega)
 have iy:cS 1 (au a) (.int .i64 ((k:Int) - 1))=some (.iptr [av (a.getD (k - 1) default)] 0):=by
  have:=dH (l:=a) (k:=k - 1) (by omega)
  rwa [show ((k - 1:Nat):Int)=(k:Int) - 1 by omega] at this
 have hcm:=dP (a.getD (k - 1) default) (a.getD k default) (ha.2 _ (aP (by omega))) hs1
 by_cases hv:0 ≤ aS (a.getD (k - 1) default) (a.getD k default)
 ·have z2:decide (0 ≤ aS (a.getD (k - 1) default) (a.getD k default))=true:=decide_eq_true hv
  rw [if_pos ⟨hk0,hv⟩] at hsp
  rw [bz hk h2 (by rw [hsp]; decide),hsp]
  (have zz:=aI @ag (aI @ap (aI @ix (aI @i0 (aI @iy (aI @z (aI @z1 (aI @zk @z2))))))); repeat' (first|refine zW ?_|apply a_n|apply a_r|refine zO ?_|refine vY ?_|refine cY ?_ (hp:=by first | exact hp | exact hcm) (hs:=by (first | refine ab ?_ rfl | apply ac); (repeat' (first | exact aa | apply am | apply ae | exact ax _)); first | done | fail)|refine gTY ?_|refine cTY ?_|refine cFY ?_|(refine zGY ?_ ?_ <;> (intro _hg; try (exfalso; omega)))|refine ak rfl ?_|refine r1Y ?_|fail)) <;> (try clear zz)
  exact .int _ _
 ·have z2:decide (0 ≤ aS (a.getD (k - 1) default) (a.getD k default))=false:=decide_eq_false hv
  rw [if_neg (fun h=>hv h.2)] at hsp
  (have zz:=aI @ag (aI @ap (aI @ix (aI @i0 (aI @iy (aI @z (aI @z1 (aI @zk @z2))))))); repeat' (first|refine zW ?_|apply a_n|refine zO ?_|refine vY ?_|refine cY ?_ (hp:=by first | exact hp | exact hcm) (hs:=by (first | refine ab ?_ rfl | apply ac); (repeat' (first | exact aa | apply am | apply ae | exact ax _)); first | done | fail)|refine gTY ?_|refine cFY ?_|(refine zGY ?_ ?_ <;> (intro _hg; try (exfalso; omega)))|fail)) <;> (try clear zz)
  exact ⟨k + 1,⟨by omega,fun i hi=>by
   rcases Nat.lt_succ_iff_lt_or_eq.1 hi with h' | rfl
   ·exact h2 i h'
   ·exact hsp⟩,by omega,ag0,rfl,rfl⟩
def iK:List (List Spx)→Int
 | []=>0
 | a :: l=>if bU a ≠ 0 then bU a else iK l
theorem pX {l:List (List Spx)} {k:Nat} (h:k < l.length):iK (l.drop k)=if bU (l.getD k default) ≠ 0 then bU (l.getD k default) else iK (l.drop (k + 1)):=by
 rw [fA h]; rfl
theorem xi (l:List (List Spx)) (hl:Shn l) (h:∀ a ∈ l,ShC a):Pure Try.prog 37 [ff l] (.int .i64 (iK l)):=by
 refine Pure.of_c2 follows Bn (Nat.le_of_ble_eq_true rfl) ?_
 simp only [b37,cO,cG,cN,cM,cD,cF,cB,aA,aR]
 have hl':l.length ≤ 17592186044416:=hl
 (have zz:=@nK; repeat' (first|refine zW ?_|apply a_n|refine zO ?_|refine vZ ?_|fail)) <;> (try clear zz)
 refine jD (X:=Nat) (fun k=>[(6,ff l),(7,.int .i64 l.length),(8,.int .i64 k)]) (fun k=>k ≤ l.length∧iK (l.drop k)=iK l) (fun k=>l.length - k) 0 ⟨Nat.zero_le _,rfl⟩ ag0 ?_
 rintro k ⟨h1,h2⟩
 by_cases hk:k < l.length
 rotate_left
 ·rw [← h2,List.drop_of_length_le (by omega)]
  (have zz:=and_self; repeat' (first|refine zW ?_|apply a_n|apply a_x|refine zO ?_|refine vY ?_|(refine zGY ?_ ?_ <;> (intro _hg; try (exfalso; omega)))|refine ak rfl ?_|refine r1Y ?_|fail)) <;> (try clear zz)
  exact .int _ _
 have ix:=Bq hk
 have hc:=gG _ (h _ (aP hk))
 rw [pX hk] at h2
 generalize l.getD k default=a at *
 by_cases he:bU a=0
 rotate_left
 ·rw [if_pos he] at h2
  rw [← h2]
  have z:decide (bU a ≠ 0)=true:=decide_eq_true he
  (have zz:=aI @ix @z; repeat' (first|refine zW ?_|apply a_n|apply a_r|refine zO ?_|refine vY ?_|refine cY ?_ (hp:=hc) (hs:=by (first | refine ab ?_ rfl | apply ac); (repeat' (first | exact aa | apply am | apply ae | exact aC _)); first | done | fail)|refine cTY ?_|(refine zGY ?_ ?_ <;> (intro _hg; try (exfalso; omega)))|refine ak rfl ?_|refine r1Y ?_|fail)) <;> (try clear zz)
  exact .int _ _
 ·rw [if_neg (fun q=>q he)] at h2
  rw [he] at hc
  have z:decide ((0:Int) ≠ 0)=false:=rfl
  (have zz:=aI @ix @z; repeat' (first|refine zW ?_|apply a_n|refine zO ?_|refine vY ?_|refine cY ?_ (hp:=hc) (hs:=by (first | refine ab ?_ rfl | apply ac); (repeat' (first | exact aa | apply am | apply ae | exact aC _)); first | done | fail)|refine cFY ?_|(refine zGY ?_ ?_ <;> (intro _hg; try (exfalso; omega)))|fail)) <;> (try clear zz)
  exact ⟨k + 1,⟨by omega,h2⟩,by omega,ag0,rfl,rfl⟩
end Go.Proofs.Ytfcenbapjhecfaa
namespace Go.Proofs.Ytfcenbapjhecfaa
open Go Go.Abs
theorem ze {H:Hp} {s:AV} {l:List Spx} (h:Row H 1 s (l.map av)):∃ Hf H',Fz Hf H H'∧Snap Hf s (au l)∧∀ x,cr s ≠ some x→H' x=H x:=by
 generalize hcs:l.map av=cs at h
 cases h with
 | nil=>exact ⟨br,H,Fz.none,eX (by rw [hcs]; exact Row.nil),fun _ _=>rfl⟩
 | box b len cs g1 g2=>exact ⟨only b cs,bT H b,Fz.one g1,eX (by rw [hcs]; exact Row.box b len cs jI g2),fun x hx=>ce (fun e=>hx (by rw [e]; rfl))⟩
attribute [local irreducible] aB ai aW aN aG aH ay aJ aO ba Go.Abs.Fn aM Go.Abs.Pure ar aE Yl
end Go.Proofs.Ytfcenbapjhecfaa
namespace Go.Proofs.Ytfcenbapjhecfaa
open Go Go.Abs
theorem eD {x:Spx} {l:List Spx}:hU 1 (au (x :: l)) (some (.int .i64 1)) none none=some (au l):=ez (l:=x :: l) (k:=1) (by simp)
theorem qQ {x:Spx} {l:List Spx}:cS 1 (au (x :: l)) (.int .i64 0)=some (.iptr [av x] 0):=sS (by simp)
attribute [local irreducible] aB ai aW aN aG aH ay aJ aO ba Go.Abs.Fn aM Go.Abs.Pure ar aE Yl
theorem oO (l:List Spx) (hl:l.length ≤ 100000) (hs:∀ x ∈ l,x.length ≤ 1000000):Pure Try.prog 58 [au l] (au l):=by
 refine Pure.of_c2 follows Bm (Nat.le_of_ble_eq_true rfl) ?_
 simp only [b58,cO,cG,cN,cM,cD,cF,cB,aA,aR]
 (have zz:=@ag; repeat' (first|refine zW ?_|apply a_n|refine zO ?_|refine vZ ?_|fail)) <;> (try clear zz)
 refine bd (X:=AV × Nat) (fun x=>[(3,x.1),(6,au l),(7,.int .i64 l.length),(8,.int .i64 x.2)]) (fun x H nx=>x.2 ≤ l.length∧Row H 1 x.1 ((l.take x.2).map av)∧∀ b,cr x.1=some b→b < nx) (fun x=>l.length - x.2) (.esl,0) ⟨Nat.zero_le _,Row.nil,fun b hb=>(by cases hb)⟩ ag0 ?_
 rintro ⟨s,j⟩ H nx ⟨h1,h2,h3⟩
 dsimp only at h1 h2 h3 ⊢
 by_cases hj:j < l.length
 ·have hw:=aP hj
  have hcl:=uV _ (hs _ hw)
  have ix:=dH hj
  (have zz:=@ix; repeat' (first|refine zW ?_|apply a_n|refine zO ?_|refine vY ?_|(refine zGY ?_ ?_ <;> (intro _hg; try (exfalso; omega)))|fail)) <;> (try clear zz)
  refine b0 ev0 ev0 hcl (an (ax _ _) aa) ?_
  (have zz:=aI @az @aw; repeat' (first|apply a_n|refine zO ?_|refine blY ?_|fail)) <;> (try clear zz)
  refine fo rfl ev0 (h2.same fun b hb=>?_) ev0 b6 rfl rfl Nat.one_pos (by simp; omega) (by simp; omega) ?_
  ·have:=h3 b hb
   rw [af (by omega)]
  rintro s2 E e hrow hle1 hle2 hsame hb2
  (have zz:=and_self; repeat' (first|apply a_n|refine zO ?_|refine vY ?_|fail)) <;> (try clear zz)
  refine ⟨(s2,j + 1),by dsimp only; omega,⟨by dsimp only; omega,?_,fun b hb=>?_⟩,ag0⟩
  ·dsimp only
   rw [sN hj,List.map_append]
   exact hrow
  ·rcases hb2 b hb with h | h
   ·have:=h3 b h; omega
   ·omega
 ·(have zz:=and_self; repeat' (first|refine zW ?_|apply a_n|apply a_x|refine zO ?_|refine vY ?_|(refine zGY ?_ ?_ <;> (intro _hg; try (exfalso; omega)))|refine ak rfl ?_|refine r1Y ?_|fail)) <;> (try clear zz)
  rw [List.take_of_length_le (by omega)] at h2
  exact eX h2
theorem oK (l:List Spx) (hl:Shn l) (hs:∀ x ∈ l,x.length ≤ 1000000):Pure Try.prog 38 [au l] (.tup [au (if 4096 < l.length then [] else l),.int .i64 (if 4096 < l.length then 5 else 0)]):=by
 refine Pure.of_c2 follows A0 (Nat.le_of_ble_eq_true rfl) ?_
 simp only [b38,cO,cG,cN,cM,cD,cF,cB,aA,aR]
 have hl':l.length ≤ 17592186044416:=hl
 by_cases h:4096 < l.length
 ·have z:decide ((4096:Int) < l.length)=true:=decide_eq_true (by omega)
  rw [if_pos h,if_pos h]
  (have zz:=aI @ag @z; repeat' (first|refine zW ?_|apply a_n|apply a_r|refine zO ?_|refine vY ?_|refine cTY ?_|refine ak rfl ?_|refine r2Y ?_|fail)) <;> (try clear zz)
  exact bK (.eslsl _) rfl
 ·have z:decide ((4096:Int) < l.length)=false:=decide_eq_false (by omega)
  rw [if_neg h,if_neg h]
  have hc:=oO l (by omega) hs
  (have zz:=aI @ag @z; repeat' (first|refine zW ?_|apply a_n|refine zO ?_|refine vY ?_|refine cY ?_ (hp:=hc) (hs:=by (first | refine ab ?_ rfl | apply ac); (repeat' (first | exact aa | apply am | apply ae | exact aC _)); first | done | fail)|refine cFY ?_|refine ak rfl ?_|refine r2Y ?_|fail)) <;> (try clear zz)
  exact bK (aC _).snap rfl
theorem x8 (a b:List Spx) (ha:a.length ≤ 1000000∧∀ s ∈ a,Shn s) (hb:b.length ≤ 1000000∧∀ s ∈ b,Shn s):Pure Try.prog 39 [au a,au b,.func 40 []] (au (cK aS a b)):=by
 refine Pure.of_c2 follows B7 (Nat.le_of_ble_eq_true rfl) ?_
 simp only [b39,cO,cG,cN,cM,cD,cF,cB,aA,aR]
 (have zz:=and_self; repeat' (first|refine zW ?_|apply a_n|refine zO ?_|refine vZ ?_|fail)) <;> (try clear zz)
 refine bd (X:=List Spx × List Spx × List Spx × AV) (fun x=>[(0,au x.1),(1,au x.2.1),(2,.func 40 []),(7,x.2.2.2)]) (fun x H nx=>x.2.2.1.length + x.1.length + x.2.1.length ≤ a.length + b.length∧(∀ s ∈ x.1,Shn s)∧(∀ s ∈ x.2.1,Shn s)∧x.2.2.1 ++ cK aS x.1 x.2.1=cK aS a b∧Row H 1 x.2.2.2 (x.2.2.1.map av)∧∀ b,cr x.2.2.2=some b→b < nx) (fun x=>x.1.length + x.2.1.length) (a,b,[],.esl) ⟨by simp,ha.2,hb.2,rfl,Row.nil,fun b hb=>(by cases hb)⟩ ag0 ?_
 rintro ⟨a',b',D,sv⟩ H nx ⟨h2,ha2,hb2,h4,h5,h6⟩
 dsimp only at h2 ha2 hb2 h4 h5 h6 ⊢
 have key:∀ (x:Spx) {P:Program} {T:Tm} {dm:DM} {K:SP} {l:List Op2} {d:Option Nat} {s v:Opd},dm2 dm T (.app 1 24 s v)=true→ov T s=sv→ov T v=.msl nx 1 1 0 1 →
     (∀ (sv':AV) (H':Hp) (nx':Nat),Row H' 1 sv' ((D ++ [x]).map av)→(∀ b,cr sv'=some b→b < nx')→ai P dm l (aD T d sv') H' nx' K) →
     D.length ≤ 2000000→ai P dm (⟨d,none,.app 1 24 s v⟩ :: l) T (aq H nx [av x]) (nx + 1) K:=by
  intro x P T dm K l d s v k1 k2 k3 k4 k5
  refine fo k1 k2 (h5.same fun b hb=>?_) k3 b6 rfl rfl Nat.one_pos (by rw [List.length_map]; omega) (by rw [List.length_map]; omega) ?_
  ·have:=h6 b hb
   rw [af (by omega)]
  rintro s2 E e hrow hle1 hle2 hsame hb2
  refine k4 s2 E e (by rw [List.map_append]; exact hrow) fun b hb=>?_
  rcases hb2 b hb with h | h
  ·have:=h6 b h; omega
  ·omega
 match a',b',h2,ha2,hb2,h4 with
 | [],[],h2,ha2,hb2,h4 =>
  have al:bI (au [])=some (.int .i64 0):=rfl
  (have zz:=@al; repeat' (first|refine zW ?_|apply a_n|apply a_x|refine zO ?_|refine vY ?_|refine gTY ?_|(refine zGY ?_ ?_ <;> (intro _hg; try (exfalso; omega)))|refine ak rfl ?_|refine r1Y ?_|fail)) <;> (try clear zz)
  rw [mo,List.append_nil] at h4
  rw [← h4]
  exact eX h5
 | x :: a2,[],h2,ha2,hb2,h4 =>
  have al:bI (au [])=some (.int .i64 0):=rfl
  have al2:bI (au (x :: a2))=some (.int .i64 ((a2.length:Int) + 1)):=by rw [ag,List.length_cons]; rfl
  have z1:decide ((0:Int) < (a2.length:Int) + 1)=true:=decide_eq_true (by omega)
  simp only [List.length_cons,List.length_nil] at h2
  (have zz:=aI @al (aI @al2 (aI @z1 (aI @qQ (aI @eD (aI @az @aw))))); repeat' (first|refine zW ?_|apply a_n|refine zO ?_|refine vY ?_|refine blY ?_|refine gFY ?_|refine cTY ?_|(refine zGY ?_ ?_ <;> (intro _hg; try (exfalso; omega)))|fail)) <;> (try clear zz)
  refine key x rfl ev0 ev0 (fun s2 H2 nx2 r1 r2=>?_) (by omega)
  (have zz:=@eD; repeat' (first|apply a_n|refine zO ?_|refine vY ?_|fail)) <;> (try clear zz)
  exact ⟨(a2,[],D ++ [x],s2),by simp,⟨by simp; omega,fun s h=>ha2 s (List.mem_cons_of_mem _ h),hb2,by dsimp only; rw [pH,List.append_assoc]; rw [pH] at h4; exact h4,r1,r2⟩,ag0⟩
 | [],y :: b2,h2,ha2,hb2,h4 =>
  have al:bI (au [])=some (.int .i64 0):=rfl
  have al2:bI (au (y :: b2))=some (.int .i64 ((b2.length:Int) + 1)):=by rw [ag,List.length_cons]; rfl
  have z1:decide ((0:Int) < (b2.length:Int) + 1)=true:=decide_eq_true (by omega)
  have z2:decide ((b2.length:Int) + 1=0)=false:=decide_eq_false (by omega)
  simp only [List.length_cons,List.length_nil] at h2
  (have zz:=aI @al (aI @al2 (aI @z1 (aI @z2 (aI @qQ (aI @eD (aI @az @aw)))))); repeat' (first|refine zW ?_|apply a_n|refine zO ?_|refine vY ?_|refine blY ?_|refine gTY ?_|refine cTY ?_|refine cFY ?_|(refine zGY ?_ ?_ <;> (intro _hg; try (exfalso; omega)))|fail)) <;> (try clear zz)
  refine key y rfl ev0 ev0 (fun s2 H2 nx2 r1 r2=>?_) (by omega)
  (have zz:=@eD; repeat' (first|apply a_n|refine zO ?_|refine vY ?_|fail)) <;> (try clear zz)
  exact ⟨([],b2,D ++ [y],s2),by simp,⟨by simp; omega,ha2,fun s h=>hb2 s (List.mem_cons_of_mem _ h),by dsimp only; rw [mo,List.append_assoc]; rw [mo] at h4; exact h4,r1,r2⟩,ag0⟩
 | x :: a2,y :: b2,h2,ha2,hb2,h4 =>
  have al1:bI (au (x :: a2))=some (.int .i64 ((a2.length:Int) + 1)):=by rw [ag,List.length_cons]; rfl
  have al2:bI (au (y :: b2))=some (.int .i64 ((b2.length:Int) + 1)):=by rw [ag,List.length_cons]; rfl
  have z1:decide ((0:Int) < (a2.length:Int) + 1)=true:=decide_eq_true (by omega)
  have z2:decide ((b2.length:Int) + 1=0)=false:=decide_eq_false (by omega)
  simp only [List.length_cons] at h2
  have hc:=dP x y (ha2 x List.mem_cons_self) (hb2 y List.mem_cons_self)
  rw [sU] at h4
  have hsw:=gV x y
  by_cases g1:aS x y < 0
  ·have z3:decide (aS x y < 0)=true:=decide_eq_true g1
   rw [if_pos g1] at h4
   (have zz:=aI @al1 (aI @al2 (aI @z1 (aI @z2 (aI @z3 (aI @qQ (aI @eD (aI @az @aw))))))); repeat' (first|refine zW ?_|refine zM ?_|apply a_n|refine zO ?_|refine vY ?_|refine cY ?_ (hp:=hc) (hs:=by (first | refine ab ?_ rfl | apply ac); (repeat' (first | exact aa | apply am | apply ae | exact ax _)); first | done | fail)|refine blY ?_|refine gFY ?_|refine cTY ?_|refine cFY ?_|fail)) <;> (try clear zz)
   refine key x rfl ev0 ev0 (fun s2 H2 nx2 r1 r2=>?_) (by omega)
   (have zz:=@eD; repeat' (first|apply a_n|refine zO ?_|refine vY ?_|fail)) <;> (try clear zz)
   exact ⟨(a2,y :: b2,D ++ [x],s2),by simp,⟨by simp; omega,fun s h=>ha2 s (List.mem_cons_of_mem _ h),hb2,by dsimp only; rw [List.append_assoc]; exact h4,r1,r2⟩,ag0⟩
  have z3:decide (aS x y < 0)=false:=decide_eq_false g1
  rw [if_neg g1] at h4
  by_cases g2:aS y x < 0
  ·have z4:decide (0 < aS x y)=true:=decide_eq_true (by omega)
   rw [if_pos g2] at h4
   (have zz:=aI @al1 (aI @al2 (aI @z1 (aI @z2 (aI @z3 (aI @z4 (aI @qQ (aI @eD (aI @az @aw)))))))); repeat' (first|refine zW ?_|refine zM ?_|apply a_n|refine zO ?_|refine vY ?_|refine cY ?_ (hp:=hc) (hs:=by (first | refine ab ?_ rfl | apply ac); (repeat' (first | exact aa | apply am | apply ae | exact ax _)); first | done | fail)|refine blY ?_|refine gFY ?_|refine cTY ?_|refine cFY ?_|fail)) <;> (try clear zz)
   refine key y rfl ev0 ev0 (fun s2 H2 nx2 r1 r2=>?_) (by omega)
   (have zz:=@eD; repeat' (first|apply a_n|refine zO ?_|refine vY ?_|fail)) <;> (try clear zz)
   exact ⟨(x :: a2,b2,D ++ [y],s2),by simp,⟨by simp; omega,ha2,fun s h=>hb2 s (List.mem_cons_of_mem _ h),by dsimp only; rw [List.append_assoc]; exact h4,r1,r2⟩,ag0⟩
  ·have z4:decide (0 < aS x y)=false:=decide_eq_false (by omega)
   rw [if_neg g2] at h4
   (have zz:=aI @al1 (aI @al2 (aI @z1 (aI @z2 (aI @z3 (aI @z4 (aI @qQ (aI @eD (aI @az @aw)))))))); repeat' (first|refine zW ?_|refine zM ?_|apply a_n|refine zO ?_|refine vY ?_|refine cY ?_ (hp:=hc) (hs:=by (first | refine ab ?_ rfl | apply ac); (repeat' (first | exact aa | apply am | apply ae | exact ax _)); first | done | fail)|refine gFY ?_|refine cTY ?_|refine cFY ?_|fail)) <;> (try clear zz)
   exact ⟨(a2,b2,D,sv),by simp; omega,⟨by simp; omega,fun s h=>ha2 s (List.mem_cons_of_mem _ h),fun s h=>hb2 s (List.mem_cons_of_mem _ h),h4,h5,h6⟩,ag0⟩
def xe (a b:List Spx):List Spx × Int:=if bU a ≠ 0 then ([],bU a) else if bU b ≠ 0 then ([],bU b) else if 0 < a.length∧0 < b.length∧(a.getD 0 default).length ≠ (b.getD 0 default).length then ([],15) else if 4096 < (cK aS a b).length then ([],5) else (cK aS a b,0)
theorem jb {a:List Spx} (h:∀ s ∈ a,be s=0):∀ s ∈ a,Shn s:=fun s hs=>by have:=(cL (h s hs)).2.1; show _ ≤ _; omega
theorem nk {a:List Spx} (h:∀ s ∈ a,be s=0):∀ s ∈ a,s.length ≤ 1000000:=fun s hs=>by have:=(cL (h s hs)).2.1; omega
theorem fB {H:Hp} {b:Nat} {x y:List Spx} (h:H b=some [au x,au y]):aE H [.msl b 2 1 0 2] [ff [x,y]] :=
 an (ol (l:=[au x,au y]) h rfl rfl (by
  intro z hz
  simp only [List.mem_cons,List.not_mem_nil,or_false] at hz
  rcases hz with rfl | rfl
  ·exact ⟨rfl,aC _⟩
  ·exact ⟨rfl,aC _⟩)) aa
theorem vF {a:List Spx} (h:bU a=0):a.length ≤ 1000000∧∀ s ∈ a,Shn s:=⟨by have:=(dt h).1; omega,jb (dt h).2.1⟩
theorem x5 {a b:List Spx} (ha:bU a=0) (hb:bU b=0):∀ s ∈ cK aS a b,be s=0:=vH (dt ha).2.2.1 (dt hb).2.2.1 _ (dt ha).2.1 (dt hb).2.1
theorem xY (a b:List Spx) (ha:ShC a) (hb:ShC b):Pure Try.prog 12 [au a,au b] (.tup [au (xe a b).1,.int .i64 (xe a b).2]):=by
 refine Pure.of_c2 follows BS (Nat.le_of_ble_eq_true rfl) ?_
 simp only [b12,cO,cG,cN,cM,cD,cF,cB,aA,aR]
 have f1:=xi [a,b] (show _ ≤ _ by simp) (fun x hx=>by
  rcases List.mem_cons.1 hx with rfl | hx
  ·exact ha
  ·rw [List.mem_singleton.1 hx]; exact hb)
 have ef:iK [a,b]=if bU a ≠ 0 then bU a else if bU b ≠ 0 then bU b else 0:=rfl
 rw [ef] at f1
 unfold xe
 by_cases h1:bU a=0
 rotate_left
 ·rw [if_pos h1]
  rw [if_pos h1] at f1
  have z:decide (bU a ≠ 0)=true:=decide_eq_true h1
  (have zz:=aI @ao @aj; repeat' (first|refine zW ?_|apply a_n|refine zO ?_|refine vY ?_|refine blY ?_|fail)) <;> (try clear zz)
  refine bO ev0 ev0 f1 (ab (fB (by rw [ah])) rfl) ?_
  (have zz:=@z; repeat' (first|refine zW ?_|apply a_n|apply a_r|refine zO ?_|refine vY ?_|refine cTY ?_|refine ak rfl ?_|refine r2Y ?_|fail)) <;> (try clear zz)
  exact bK (.eslsl _) rfl
 rw [if_neg (fun q=>q h1)]
 rw [if_neg (fun q=>q h1)] at f1
 by_cases h2:bU b=0
 rotate_left
 ·rw [if_pos h2]
  rw [if_pos h2] at f1
  have z:decide (bU b ≠ 0)=true:=decide_eq_true h2
  (have zz:=aI @ao @aj; repeat' (first|refine zW ?_|apply a_n|refine zO ?_|refine vY ?_|refine blY ?_|fail)) <;> (try clear zz)
  refine bO ev0 ev0 f1 (ab (fB (by rw [ah])) rfl) ?_
  (have zz:=@z; repeat' (first|refine zW ?_|apply a_n|apply a_r|refine zO ?_|refine vY ?_|refine cTY ?_|refine ak rfl ?_|refine r2Y ?_|fail)) <;> (try clear zz)
  exact bK (.eslsl _) rfl
 rw [if_neg (fun q=>q h2)]
 rw [if_neg (fun q=>q h2)] at f1
 have z:decide ((0:Int) ≠ 0)=false:=rfl
 have hm:=x8 a b (vF h1) (vF h2)
 have hml:=pt (K:=aS) (a:=a) (b:=b)
 have h14:=(dt h1).1
 have h24:=(dt h2).1
 have hlim:=oK (cK aS a b) (show _ ≤ _ by omega) (nk (x5 h1 h2))
 have hfin:(if 4096 < (cK aS a b).length then (([]:List Spx),(5:Int)) else (cK aS a b,0))=(if 4096 < (cK aS a b).length then [] else cK aS a b,if 4096 < (cK aS a b).length then 5 else 0):=by
  split <;> rfl
 rw [hfin]
 generalize (if 4096 < (cK aS a b).length then ([]:List Spx) else cK aS a b)=L at *
 generalize (if 4096 < (cK aS a b).length then (5:Int) else 0)=E at *
 generalize cK aS a b=M at *
 by_cases h3:0 < a.length∧0 < b.length∧(a.getD 0 default).length ≠ (b.getD 0 default).length
 ·rw [if_pos h3]
  have i1:=sS h3.1
  have i2:=sS h3.2.1
  have z1:decide ((0:Int) < a.length)=true:=decide_eq_true (by omega)
  have z2:decide ((0:Int) < b.length)=true:=decide_eq_true (by omega)
  have z3:decide (((a.getD 0 default).length:Int) ≠ (b.getD 0 default).length)=true:=decide_eq_true (by omega)
  (have zz:=aI @ao @aj; repeat' (first|refine zW ?_|apply a_n|refine zO ?_|refine vY ?_|refine blY ?_|fail)) <;> (try clear zz)
  refine bO ev0 ev0 f1 (ab (fB (by rw [ah])) rfl) ?_
  (have zz:=aI @z (aI @z1 (aI @z2 (aI @z3 (aI @i1 (aI @i2 (aI @ag @ap)))))); repeat' (first|refine zW ?_|apply a_n|apply a_r|refine zO ?_|refine vY ?_|refine gTY ?_|refine cTY ?_|refine cFY ?_|refine ak rfl ?_|refine r2Y ?_|fail)) <;> (try clear zz)
  exact bK (.eslsl _) rfl
 ·rw [if_neg h3]
  have dc:Dat (AV.func 40 []):=Dat.func DatL.nil
  by_cases h4:0 < a.length
  ·have z1:decide ((0:Int) < a.length)=true:=decide_eq_true (by omega)
   by_cases h5:0 < b.length
   ·have i1:=sS h4
    have i2:=sS h5
    have z2:decide ((0:Int) < b.length)=true:=decide_eq_true (by omega)
    have z3:decide (((a.getD 0 default).length:Int) ≠ (b.getD 0 default).length)=false:=decide_eq_false (by omega)
    (have zz:=aI @ao @aj; repeat' (first|refine zW ?_|apply a_n|refine zO ?_|refine vY ?_|refine blY ?_|fail)) <;> (try clear zz)
    refine bO ev0 ev0 f1 (ab (fB (by rw [ah])) rfl) ?_
    (have zz:=aI @z (aI @z1 (aI @z2 (aI @z3 (aI @i1 (aI @i2 (aI @ag @ap)))))); repeat' (first|refine zW ?_|apply a_n|refine zO ?_|refine vY ?_|refine cY ?_ (hp:=by first | exact hm | exact hlim) (hs:=by (first | refine ab ?_ rfl | apply ac); (repeat' (first | exact aa | apply am | apply ae | exact aC _ | exact dc)); first | done | fail)|refine gTY ?_|refine cFY ?_|refine ak rfl ?_|refine r2Y ?_|fail)) <;> (try clear zz)
    exact bK (aC _).snap rfl
   ·have z2:decide ((0:Int) < b.length)=false:=decide_eq_false (by omega)
    (have zz:=aI @ao @aj; repeat' (first|refine zW ?_|apply a_n|refine zO ?_|refine vY ?_|refine blY ?_|fail)) <;> (try clear zz)
    refine bO ev0 ev0 f1 (ab (fB (by rw [ah])) rfl) ?_
    (have zz:=aI @z (aI @z1 (aI @z2 (aI @ag @ap))); repeat' (first|refine zW ?_|apply a_n|refine zO ?_|refine vY ?_|refine cY ?_ (hp:=by first | exact hm | exact hlim) (hs:=by (first | refine ab ?_ rfl | apply ac); (repeat' (first | exact aa | apply am | apply ae | exact aC _ | exact dc)); first | done | fail)|refine gTY ?_|refine gFY ?_|refine cFY ?_|refine ak rfl ?_|refine r2Y ?_|fail)) <;> (try clear zz)
    exact bK (aC _).snap rfl
  ·have z1:decide ((0:Int) < a.length)=false:=decide_eq_false (by omega)
   (have zz:=aI @ao @aj; repeat' (first|refine zW ?_|apply a_n|refine zO ?_|refine vY ?_|refine blY ?_|fail)) <;> (try clear zz)
   refine bO ev0 ev0 f1 (ab (fB (by rw [ah])) rfl) ?_
   (have zz:=aI @z (aI @z1 (aI @ag @ap)); repeat' (first|refine zW ?_|apply a_n|refine zO ?_|refine vY ?_|refine cY ?_ (hp:=by first | exact hm | exact hlim) (hs:=by (first | refine ab ?_ rfl | apply ac); (repeat' (first | exact aa | apply am | apply ae | exact aC _ | exact dc)); first | done | fail)|refine gFY ?_|refine cFY ?_|refine ak rfl ?_|refine r2Y ?_|fail)) <;> (try clear zz)
   exact bK (aC _).snap rfl
end Go.Proofs.Ytfcenbapjhecfaa
namespace Go.Proofs.Ytfcenbapjhecfaa
open Go Go.Abs
section
variable {α:Type} [DecidableEq α] {K:α→α→Int}
end
section
variable {g:Vtx→Vtx}
end
end Go.Proofs.Ytfcenbapjhecfaa
namespace Go.Proofs.Ytfcenbapjhecfaa
open Go Go.Abs
open Nat (reduceEqDiff reduceAdd reduceLeDiff)
attribute [local irreducible] aB ai aW aN aG aH ay aJ aO ba Go.Abs.Fn aM Go.Abs.Pure ar aE Yl
theorem w6 (l:List Spx) (k:Nat) (hl:l.length ≤ 50) (hs:∀ s ∈ l,be s=0) (hk:1 ≤ k∧k ≤ 8):Pure Try.prog 81 [au l,.int .i64 k] (.tup [au (i8 l k),.int .i64 0]):=by
 refine Pure.of_c2 follows A8 (Nat.le_of_ble_eq_true rfl) ?_
 simp only [b81,cO,cG,cN,cM,cD,cF,cB,aA,aR]
 have h8:∀ s ∈ l,s.length ≤ 8:=fun s h=>(cL (hs s h)).2.1
 have hgood:∀ s ∈ l.flatMap (fun s=>bB s k),gu s:=fun s h=>by
  obtain ⟨t,t1,t2⟩:=jh.1 h
  exact wx (xy (hs t t1)) hk.1 t2
 have hfl:=i5 (k:=k) h8
 have z0:decide ((0:Int) ≠ 0)=false:=rfl
 (have zz:=@ag; repeat' (first|refine zW ?_|apply a_n|refine zO ?_|refine vY ?_|fail)) <;> (try clear zz)
 refine yf ?_
 (have zz:=@ag; repeat' (first|refine zW ?_|apply a_n|refine zO ?_|refine vY ?_|fail)) <;> (try clear zz)
 refine bd (X:=Nat × AV × List Spx) (fun x=>[(1,.int .i64 k),(6,.mp 0),(7,x.2.1),(15,au l),(16,.int .i64 l.length),(17,.int .i64 x.1)]) (fun x H nx=>x.1 ≤ l.length∧1 ≤ nx∧H 0=some [.omap ((x.2.2.map kK).map eK) (x.2.2.map fun _=>.bool true)]∧Row H 1 x.2.1 (x.2.2.map av)∧(∀ b,cr x.2.1=some b→1 ≤ b∧b < nx)∧x.2.2.Nodup∧∀ s,s ∈ x.2.2 ↔ s ∈ (l.take x.1).flatMap fun s=>bB s k) (fun x=>l.length - x.1) (0,.esl,[]) ⟨Nat.zero_le _,by omega,ah,Row.nil,fun b h=>(by cases h),List.nodup_nil,fun s=>by simp⟩ (by (iterate 6 refine And.intro rfl ?_); trivial) ?_
 rintro ⟨i,sv,O⟩ H nx ⟨h1,hnx,g0,hrow,hbd,hnd,hmem⟩
 dsimp only at h1 g0 hrow hbd hnd hmem ⊢
 obtain ⟨o1,o2⟩:=hrow.one
 by_cases hi:i < l.length
 rotate_left
 ·rw [List.take_of_length_le (by omega)] at hmem
  have hOl:O.length ≤ 3500:=by
   have:=List.Nodup.length_le_of_subset hnd (l₂:=l.flatMap fun s=>bB s k) (fun s h=>(hmem s).1 h)
   omega
  have hsort:Abs.Fn Try.prog 73 [sv,.func 40 []] H nx fun _ H' nx'=>Row H' 1 sv ((i8 l k).map av):=by
   generalize hcs:O.map av=cs at hrow
   cases hrow with
   | nil =>
    have hO0:O=[]:=List.map_eq_nil_iff.1 hcs
    refine Abs.Fn.mono (jv rfl) ?_
    rintro _ _ _ ⟨rfl,rfl⟩
    have:i8 l k=[]:=by
     unfold i8
     rw [qJ,List.eq_nil_iff_forall_not_mem]
     intro s h
     have:=(hmem s).2 h
     rw [hO0] at this; cases this
    rw [this]; exact Row.nil
   | box b len cs k1 k2 =>
    obtain rfl:len=O.length:=by rw [← hcs,List.length_map] at k2; omega
    have hb:=hbd b rfl
    subst hcs
    by_cases h0:O.length=0
    ·have hO0:O=[]:=List.length_eq_zero_iff.1 h0
     subst hO0
     refine Abs.Fn.mono (jv rfl) ?_
     rintro _ _ _ ⟨rfl,rfl⟩
     have:i8 l k=[]:=by
      unfold i8
      rw [qJ,List.eq_nil_iff_forall_not_mem]
      intro s h
      have:=(hmem s).2 h
      cases this
     rw [this]; exact Row.box b 0 _ k1 rfl
    ·have hg:∀ s ∈ O,Shn s:=fun s h=>show s.length ≤ _ by have:=(hgood s ((hmem s).1 h)).2.1; omega
     have hsf:=tC zA (L:=O) (b:=b) (nx:=nx) (n:=O.length) k1 hb.2 rfl (by omega) hg (by omega)
     rw [Nat.mul_one]
     refine Abs.Fn.mono hsf ?_
     rintro _ H' nx' ⟨L',ps,p1,p2⟩
     have hlen:=p1.length_eq
     have:=lq p1 (by rw [hlen]; exact p2) hnd hmem
     unfold i8
     rw [← this,← hlen]
     have:=Row.box (H:=H') (sz:=1) b L'.length (L'.map av) ps.at_ (by simp)
     rwa [Nat.mul_one] at this
  (have zz:=and_self; repeat' (first|refine zW ?_|apply a_n|apply a_x|refine zO ?_|refine vY ?_|(refine zGY ?_ ?_ <;> (intro _hg; try (exfalso; omega)))|fail)) <;> (try clear zz)
  refine aV ev0 ev0 hsort ?_
  rintro r H' nx' hr
  (have zz:=aI @o1 @o2; repeat' (first|refine zW ?_|apply a_n|refine zO ?_|refine vY ?_|refine ak rfl ?_|refine r2Y ?_|fail)) <;> (try clear zz)
  exact bK (eX hr) rfl
 have ix:=dH hi
 have hft:=uA (k:=k) hi
 have hpm:∀ s ∈ (l.take (i + 1)).flatMap (fun s=>bB s k),s ∈ l.flatMap fun s=>bB s k:=fun s h=>by
  obtain ⟨t,t1,t2⟩:=jh.1 h
  exact jh.2 ⟨t,List.mem_of_mem_take t1,t2⟩
 have hsi:=hs _ (aP hi)
 have h8i:=h8 _ (aP hi)
 have hfx:=vU (l.getD i default) k (show _ ≤ _ by omega)
 have hfe:(l.getD i default).length < k ∨ l8 (l.getD i default) k=(bB (l.getD i default) k,0):=by
  by_cases h:(l.getD i default).length < k
  ·exact .inl h
  ·refine .inr ?_
   unfold l8
   rw [if_neg (fun h=>h hsi),if_neg (by omega),Int.toNat_natCast]
 have hcar:∀ s ∈ bB (l.getD i default) k,gu s:=fun s h=>hgood s (hpm s (by rw [hft]; exact List.mem_append_right _ h))
 by_cases hlt:(l.getD i default).length < k
 ·have z:decide (((l.getD i default).length:Int) < k)=true:=decide_eq_true (by omega)
  rw [m9 hlt,List.append_nil] at hft
  generalize l.getD i default=s at *
  (have zz:=aI @ap (aI @ix (aI @z (aI @o1 @o2))); repeat' (first|refine zW ?_|apply a_n|apply a_x|refine zO ?_|refine vY ?_|refine cTY ?_|(refine zGY ?_ ?_ <;> (intro _hg; try (exfalso; omega)))|fail)) <;> (try clear zz)
  exact ⟨(i + 1,sv,O),by dsimp only; omega,⟨by dsimp only; omega,hnx,g0,hrow,hbd,hnd,by dsimp only; rw [hft]; exact hmem⟩,ag0⟩
 have z:decide (((l.getD i default).length:Int) < k)=false:=decide_eq_false (by omega)
 rw [hfe.resolve_left hlt] at hfx
 clear hfe
 have hgP:∀ s ∈ (l.take i).flatMap (fun s=>bB s k),gu s:=fun s h=>hgood s (hpm s (by rw [hft]; exact List.mem_append_left _ h))
 have hPl:((l.take i).flatMap (fun s=>bB s k) ++ bB (l.getD i default) k).length ≤ 3500:=by
  rw [← hft]
  have:=i5 (k:=k) (c:=l.take (i + 1)) (fun s h=>h8 s (List.mem_of_mem_take h))
  rw [List.length_take] at this; omega
 generalize l.getD i default=s at *
 generalize bB s k=R at *
 generalize (l.take i).flatMap (fun s=>bB s k)=P at *
 have hRl:R.length ≤ 3500:=by rw [List.length_append] at hPl; omega
 (have zz:=aI @ap (aI @ag (aI @ix (aI @z (aI @z0 (aI @o1 @o2))))); repeat' (first|refine zW ?_|apply a_n|refine zO ?_|refine vY ?_|refine cY ?_ (hp:=hfx) (hs:=by (first | refine ab ?_ rfl | apply ac); (repeat' (first | exact aa | apply am | apply ae | exact ax _)); first | done | fail)|refine cFY ?_|(refine zGY ?_ ?_ <;> (intro _hg; try (exfalso; omega)))|fail)) <;> (try clear zz)
 refine bd (X:=Nat × AV × List Spx) (fun x=>[(1,.int .i64 k),(6,.mp 0),(7,x.2.1),(15,au l),(16,.int .i64 l.length),(17,.int .i64 i),(34,au R),(35,.int .i64 R.length),(36,.int .i64 x.1)]) (fun x H nx=>x.1 ≤ R.length∧1 ≤ nx∧H 0=some [.omap ((x.2.2.map kK).map eK) (x.2.2.map fun _=>.bool true)]∧Row H 1 x.2.1 (x.2.2.map av)∧(∀ b,cr x.2.1=some b→1 ≤ b∧b < nx)∧x.2.2.Nodup∧∀ s,s ∈ x.2.2 ↔ s ∈ P ++ R.take x.1) (fun x=>R.length - x.1) (0,sv,O) ⟨Nat.zero_le _,hnx,g0,hrow,hbd,hnd,by dsimp only; rw [List.take_zero,List.append_nil]; exact hmem⟩ ag0 ?_
 clear g0 hrow hbd hnd hmem hnx o1 o2
 rintro ⟨j,sv,O⟩ H nx ⟨j1,hnx,g0,hrow,hbd,hnd,hmem⟩
 dsimp only at j1 g0 hrow hbd hnd hmem ⊢
 obtain ⟨o1,o2⟩:=hrow.one
 have hOl:O.length ≤ 3500:=by
  have:=List.Nodup.length_le_of_subset hnd (l₂:=P ++ R.take j) (fun s h=>(hmem s).1 h)
  rw [List.length_append,List.length_take] at this
  rw [List.length_append] at hPl
  omega
 by_cases hj:j < R.length
 rotate_left
 ·rw [List.take_of_length_le (by omega)] at hmem
  have hls:bI sv=some (.int .i64 O.length):=hrow.lenS (by rw [List.length_map,Nat.mul_one]) Nat.one_pos
  have z1:decide ((4096:Int) < O.length)=false:=decide_eq_false (by omega)
  (have zz:=aI @hls (aI @z1 (aI @o1 @o2)); repeat' (first|refine zW ?_|apply a_n|apply a_x|refine zO ?_|refine vY ?_|refine cFY ?_|(refine zGY ?_ ?_ <;> (intro _hg; try (exfalso; omega)))|fail)) <;> (try clear zz)
  exact ⟨(i + 1,sv,O),by dsimp only; omega,⟨by dsimp only; omega,hnx,g0,hrow,hbd,hnd,by dsimp only; rw [hft]; exact hmem⟩,ag0⟩
 have iy:=dH hj
 have hgf:=hcar _ (aP hj)
 have hgO:∀ s ∈ O,gu s:=fun s h=>by
  rcases List.mem_append.1 ((hmem s).1 h) with h | h
  ·exact hgP s h
  ·exact hcar s (List.mem_of_mem_take h)
 have hkey:=xL (R.getD j default) hgf.1 hgf.2.1
 have hts:R.take (j + 1)=R.take j ++ [R.getD j default]:=cC hj
 have hmf:=w9 (kK (R.getD j default)) (O.map kK)
 have hmk:=yR hgO hgf
 generalize R.getD j default=f at *
 by_cases hf:f ∈ O
 ·rw [if_pos (hmk.2 hf)] at hmf
  have hlt2:(O.map kK).idxOf (kK f) < (O.map kK).length:=List.idxOf_lt_length_iff.2 (hmk.2 hf)
  have hgv:mget (.bool false) false (some ((O.map kK).idxOf (kK f))) (O.map fun _=>AV.bool true)=.bool true:=by
   rw [List.length_map] at hlt2
   simp [mget,List.getD,hlt2]
  (have zz:=aI @iy (aI @o1 @o2); repeat' (first|refine zW ?_|apply a_n|refine zO ?_|refine vY ?_|refine cY ?_ (hp:=hkey) (hs:=by (first | refine ab ?_ rfl | apply ac); (repeat' (first | exact aa | apply am | apply ae | exact ax _)); first | done | fail)|(refine zGY ?_ ?_ <;> (intro _hg; try (exfalso; omega)))|fail)) <;> (try clear zz)
  refine sa ev0 g0 (by ((try simp only [bQ,ZA,reduceEqDiff,↓reduceIte,reduceAdd,reduceLeDiff]); (try with_reducible rfl)); rfl) (tV (kK f)) hmf ?_
  rw [hgv]
  (have zz:=aI @o1 @o2; repeat' (first|apply a_n|refine zO ?_|refine vY ?_|refine cFY ?_|fail)) <;> (try clear zz)
  refine ⟨(j + 1,sv,O),by dsimp only; omega,⟨by dsimp only; omega,hnx,g0,hrow,hbd,hnd,fun s=>?_⟩,ag0⟩
  dsimp only
  rw [hts,← List.append_assoc,List.mem_append,← hmem,List.mem_singleton]
  exact ⟨.inl,fun h=>h.elim id fun e=>by rw [e]; exact hf⟩
 ·rw [if_neg (fun h=>hf (hmk.1 h))] at hmf
  have hgv:mget (.bool false) false none (O.map fun _=>AV.bool true)=.bool false:=rfl
  (have zz:=aI @iy (aI @o1 @o2); repeat' (first|refine zW ?_|apply a_n|refine zO ?_|refine vY ?_|refine cY ?_ (hp:=hkey) (hs:=by (first | refine ab ?_ rfl | apply ac); (repeat' (first | exact aa | apply am | apply ae | exact ax _)); first | done | fail)|(refine zGY ?_ ?_ <;> (intro _hg; try (exfalso; omega)))|fail)) <;> (try clear zz)
  refine sa ev0 g0 (by ((try simp only [bQ,ZA,reduceEqDiff,↓reduceIte,reduceAdd,reduceLeDiff]); (try with_reducible rfl)); rfl) (tV (kK f)) hmf ?_
  rw [hgv]
  (have zz:=aI @o1 @o2; repeat' (first|refine zW ?_|apply a_n|refine zO ?_|refine vY ?_|refine cY ?_ (hp:=hkey) (hs:=by (first | refine ab ?_ rfl | apply ac); (repeat' (first | exact aa | apply am | apply ae | exact ax _)); first | done | fail)|refine cTY ?_|fail)) <;> (try clear zz)
  refine yB ev0 g0 (by ((try simp only [bQ,ZA,reduceEqDiff,↓reduceIte,reduceAdd,reduceLeDiff]); (try with_reducible rfl)); rfl) ev0 (tV (kK f)) hmf ?_
  (have zz:=aI @o1 (aI @o2 (aI @az @aw)); repeat' (first|apply a_n|refine zO ?_|refine vY ?_|refine blY ?_|fail)) <;> (try clear zz)
  refine fo rfl ev0 (hrow.same fun b hb=>?_) ev0 b6 rfl rfl Nat.one_pos (by rw [List.length_map]; omega) (by rw [List.length_map]; omega) ?_
  ·have:=hbd b hb
   rw [af (by omega),af (by omega)]
  rintro s2 H2 nx2 hr2 i1 i2 i3 i4
  obtain ⟨o3,o4⟩:=hr2.one
  (have zz:=aI @o3 @o4; repeat' (first|apply a_n|refine zO ?_|refine vY ?_|fail)) <;> (try clear zz)
  refine ⟨(j + 1,s2,O ++ [f]),by dsimp only; omega,⟨by dsimp only; omega,by omega,?_,?_,fun b hb=>?_,?_,fun s=>?_⟩,ag0⟩
  ·rw [i3 0 (by omega) (fun h=>by have:=hbd 0 h; omega),af (by omega),ah]
   simp [bw,dC]
  ·dsimp only
   rw [List.map_append]; exact hr2
  ·rcases i4 b hb with h | h
   ·have:=hbd b h; omega
   ·omega
  ·exact List.nodup_append.2 ⟨hnd,by simp,fun a ha c hc=>by simp at hc; subst hc; intro e; subst e; exact hf ha⟩
  ·dsimp only
   rw [hts,← List.append_assoc,List.mem_append,List.mem_append,← hmem]
end Go.Proofs.Ytfcenbapjhecfaa
namespace Go.Proofs.Ytfcenbapjhecfaa
open Go Go.Abs
theorem mT (K:Nat→Int):∀ n,(∀ i j,i < j→j < n→K j < 0→K i < 0)→∃ b,b ≤ n∧(∀ i,i < b→K i < 0)∧∀ i,b ≤ i→i < n→0 ≤ K i
 | 0,_=>⟨0,Nat.le_refl _,fun i h=>absurd h (by omega),fun i _ h=>absurd h (by omega)⟩
 | n + 1,hm=>by
  by_cases h:K n < 0
  ·refine ⟨n + 1,Nat.le_refl _,fun i hi=>?_,fun i h1 h2=>absurd h1 (by omega)⟩
   by_cases e:i=n
   ·subst e; exact h
   ·exact hm i n (by omega) (by omega) h
  ·obtain ⟨b,h1,h2,h3⟩:=mT K n (fun i j hi hj=>hm i j hi (by omega))
   refine ⟨b,by omega,h2,fun i hi hi2=>?_⟩
   by_cases e:i=n
   ·subst e; omega
   ·exact h3 i hi (by omega)
theorem yo {tb tf:Bool} {i j:Nat}:aX .shr tb tf (.int .u64 ((i:Int) + (j:Int))) (.int .u64 1)=some (.int .u64 (((i + j) / 2:Nat):Int)):=by
 have:=pm (k:=.u64) (a:=i + j) (b:=1) (tb:=tb) (tf:=tf) (k':=.u64) (by decide)
 simpa using this
attribute [local irreducible] aB ai aW aN aG aH ay aJ aO ba Go.Abs.Fn aM Go.Abs.Pure ar aE Yl
theorem jn (c:List Spx) (k:Int) (hc:c.length ≤ 50) (hs:∀ s ∈ c,Shn s):Pure Try.prog 56 [eS c,.int .i64 k] (.tup [au (dQ c k).1,.int .i64 (dQ c k).2]):=by
 refine Pure.of_c2 follows BU (Nat.le_of_ble_eq_true rfl) ?_
 simp only [b56,cO,cG,cN,cM,cD,cF,cB,aA,aR]
 have hcc:=jH c (show _ ≤ _ by omega) hs
 unfold dQ
 by_cases he:a5 c=0
 rotate_left
 ·rw [if_pos he]
  have z:decide (a5 c ≠ 0)=true:=decide_eq_true he
  (have zz:=aI @ao (aI @aj @z); repeat' (first|refine zW ?_|apply a_n|apply a_r|refine zO ?_|refine vY ?_|refine cY ?_ (hp:=hcc) (hs:=by (first | refine ab ?_ rfl | apply ac); (repeat' (first | exact aa | apply am | apply ae | exact bg _)); first | done | fail)|refine bxY ?_|refine cTY ?_|refine ak rfl ?_|refine r2Y ?_|fail)) <;> (try clear zz)
  exact bK (.eslsl _) rfl
 rw [if_neg (fun h=>h he)]
 rw [he] at hcc
 have z0:decide ((0:Int) ≠ 0)=false:=rfl
 obtain ⟨p1,p2,p3,p4⟩:=iz he
 by_cases hk:k < 1 ∨ 8 < k
 ·rw [if_pos hk]
  (have zz:=aI @ao (aI @aj @z0); repeat' (first|refine zW ?_|apply a_n|apply a_r|refine zO ?_|refine vY ?_|refine cY ?_ (hp:=hcc) (hs:=by (first | refine ab ?_ rfl | apply ac); (repeat' (first | exact aa | apply am | apply ae | exact bg _)); first | done | fail)|refine bxY ?_|refine gTY ?_|refine gFY ?_|refine cTY ?_|refine cFY ?_|(refine zGY ?_ ?_ <;> (intro _hg; try (exfalso; omega)))|refine ak rfl ?_|refine r2Y ?_|fail)) <;> (try clear zz)
  all_goals first | exact bK (.eslsl _) rfl | (exfalso; omega)
 rw [if_neg hk]
 obtain ⟨n,rfl⟩:∃ n:Nat,k=n:=⟨k.toNat,by omega⟩
 rw [Int.toNat_natCast]
 have ha:=w6 c n hc p2 ⟨by omega,by omega⟩
 (have zz:=aI @ao (aI @aj (aI @ag @z0)); repeat' (first|refine zW ?_|apply a_n|refine zO ?_|refine vY ?_|refine cY ?_ (hp:=by first | exact hcc | exact ha) (hs:=by (first | refine ab ?_ rfl | apply ac); (repeat' (first | exact aa | apply am | apply ae | exact bg _ | exact aC _)); first | done | fail)|refine bxY ?_|refine gTY ?_|refine cFY ?_|(refine zGY ?_ ?_ <;> (intro _hg; try (exfalso; omega)))|refine ak rfl ?_|refine r2Y ?_|fail)) <;> (try clear zz)
 exact bK (aC _).snap rfl
theorem rZ (l:List Spx) (v:Spx) (hl:Shn l) (hs:∀ c ∈ l,Shn c) (hv:Shn v) {b:Nat} (hb:b ≤ l.length) (h1:∀ i,i < b→aS (l.getD i default) v < 0) (h2:∀ i,b ≤ i→i < l.length→0 ≤ aS (l.getD i default) v) :
    Pure Try.prog 80 [au l,av v,.func 40 []] (.tup [.int .i64 b,.bool (decide (b < l.length) && decide (aS (l.getD b default) v=0))]):=by
 refine Pure.of_c2 follows BG (Nat.le_of_ble_eq_true rfl) ?_
 simp only [b80,cO,cG,cN,cM,cD,cF,cB,aA,aR]
 have hl':l.length ≤ 17592186044416:=hl
 (have zz:=aI @az (aI @aw @ag); repeat' (first|refine zW ?_|apply a_n|refine zO ?_|refine vZ ?_|fail)) <;> (try clear zz)
 refine jD (X:=Nat × Nat) (fun x=>[(0,au l),(1,av v),(2,.func 40 []),(8,.int .i64 l.length),(9,.int .i64 x.1),(10,.int .i64 x.2)]) (fun x=>x.1 ≤ b∧b ≤ x.2∧x.2 ≤ l.length) (fun x=>x.2 - x.1) (0,l.length) ⟨Nat.zero_le _,hb,Nat.le_refl _⟩ ag0 ?_
 rintro ⟨i,j⟩ ⟨g1,g2,g3⟩
 dsimp only at g1 g2 g3 ⊢
 by_cases hij:i < j
 ·have hh:(i + j) / 2 < l.length:=by omega
  have hc:=dP (l.getD ((i + j) / 2) default) v (hs _ (aP hh)) hv
  have ix:=dH hh
  by_cases hn:aS (l.getD ((i + j) / 2) default) v < 0
  ·have hbb:(i + j) / 2 < b:=Nat.lt_of_not_le fun h=>by have:=h2 _ h hh; omega
   (have zz:=aI @az (aI @aw (aI @ag (aI @eY (aI @yo @ix)))); repeat' (first|refine zW ?_|apply a_n|refine zO ?_|refine vZ ?_|refine cZ ?_ (hp:=hc) (hs:=by (first | refine ab ?_ rfl | apply ac); (repeat' (first | exact aa | apply am | apply ae | exact ax _)); first | done | fail)|(refine zGZ ?_ ?_ <;> (intro _hg; try (exfalso; omega)))|fail)) <;> (try clear zz)
   exact ⟨((i + j) / 2 + 1,j),⟨by omega,by omega,by omega⟩,by dsimp only; omega,ag0,rfl,rfl⟩
  ·have hbb:b ≤ (i + j) / 2:=Nat.le_of_not_lt fun h=>hn (h1 _ h)
   (have zz:=aI @az (aI @aw (aI @ag (aI @eY (aI @yo @ix)))); repeat' (first|refine zW ?_|apply a_n|refine zO ?_|refine vZ ?_|refine cZ ?_ (hp:=hc) (hs:=by (first | refine ab ?_ rfl | apply ac); (repeat' (first | exact aa | apply am | apply ae | exact ax _)); first | done | fail)|(refine zGZ ?_ ?_ <;> (intro _hg; try (exfalso; omega)))|fail)) <;> (try clear zz)
   exact ⟨(i,(i + j) / 2),⟨by omega,by omega,by omega⟩,by dsimp only; omega,ag0,rfl,rfl⟩
 ·have ei:i=b:=by omega
  have ej:j=b:=by omega
  clear hij g1 g2 g3
  subst ei
  by_cases hlt:i < l.length
  ·have hc:=dP (l.getD i default) v (hs _ (aP hlt)) hv
   have ix:=dH hlt
   have dlt:decide ((i:Int) < (l.length:Int))=true:=decide_eq_true (by omega)
   have dij:decide ((i:Int) < (j:Int))=false:=decide_eq_false (by omega)
   (have zz:=aI @az (aI @aw (aI @ag (aI @ix (aI @dlt @dij)))); repeat' (first|refine zW ?_|apply a_n|apply a_x|refine zO ?_|refine vZ ?_|refine cZ ?_ (hp:=hc) (hs:=by (first | refine ab ?_ rfl | apply ac); (repeat' (first | exact aa | apply am | apply ae | exact ax _)); first | done | fail)|refine gTZ ?_|refine cFZ ?_|refine ak rfl ?_|refine r2Z ?_|fail)) <;> (try clear zz)
   refine eP (an (.int _ _) (an (bn ?_) aa))
   rw [decide_eq_true hlt,Bool.true_and]
  ·have dlt:decide ((i:Int) < (l.length:Int))=false:=decide_eq_false (by omega)
   have dij:decide ((i:Int) < (j:Int))=false:=decide_eq_false (by omega)
   (have zz:=aI @az (aI @aw (aI @ag (aI @dlt @dij))); repeat' (first|refine zW ?_|apply a_n|apply a_x|refine zO ?_|refine vZ ?_|refine gFZ ?_|refine cFZ ?_|refine ak rfl ?_|refine r2Z ?_|fail)) <;> (try clear zz)
   refine eP (an (.int _ _) (an (bn ?_) aa))
   rw [decide_eq_false hlt,Bool.false_and]
end Go.Proofs.Ytfcenbapjhecfaa
namespace Go.Proofs.Ytfcenbapjhecfaa
open Go Go.Abs
def bu (l:List Nat):List Int:=l.map fun (n:Nat)=>(n:Int)
def fW (c:Int) (rows:List (List Int)):AV:=.agg [.int .i64 c,cb rows]
theorem fU (c:Int) (rows:List (List Int)):Dat (fW c rows):=Dat.agg (DatL.cons .int (DatL.cons (od _) DatL.nil))
structure MatOk (H:Hp) (b lo hi n:Nat) (F:Nat→List Nat) (vs:List AV):Prop where
 box:H b=some vs
 len:vs.length=n
 row:∀ j,j < n→Row H 1 (vs.getD j .undef) ((F j).map rV)
 bnd:∀ j B,j < n→cr (vs.getD j .undef)=some B→lo ≤ B∧B < hi∧B ≠ b
 apart:∀ i j B,i < n→j < n→i ≠ j→cr (vs.getD i .undef)=some B→cr (vs.getD j .undef) ≠ some B
theorem MatOk.same {H H':Hp} {b lo hi hi' n:Nat} {F G:Nat→List Nat} {vs:List AV} (h:MatOk H b lo hi n F vs) (hb:H' b=H b) (hs:∀ x,lo ≤ x→x < hi→x ≠ b→H' x=H x) (hh:hi ≤ hi') (hG:∀ j,j < n→G j=F j):MatOk H' b lo hi' n G vs :=
 ⟨hb.trans h.box,h.len,fun j hj=>by rw [hG j hj]; exact (h.row j hj).same fun B hB=>by have:=h.bnd j B hj hB; exact hs B this.1 this.2.1 this.2.2,fun j B hj hB=>by have:=h.bnd j B hj hB; exact ⟨this.1,by omega,this.2.2⟩,h.apart⟩
theorem MatOk.put {H H':Hp} {b lo hi hi' n i x:Nat} {F G:Nat→List Nat} {vs:List AV} {sv:AV} (h:MatOk H b lo hi n F vs) (hin:i < n) (hG:∀ j,j < n→G j=if j=i then F j ++ [x] else F j) (hrow:Row H' 1 sv ((F i ++ [x]).map rV)) (hB:∀ B,cr sv=some B→cr (vs.getD i .undef)=some B ∨ hi ≤ B∧B < hi'∧B ≠ b) (hb:H' b=some (vs.set i sv))
    (hs:∀ x,lo ≤ x→x < hi→x ≠ b→cr (vs.getD i .undef) ≠ some x→H' x=H x) (hh:hi ≤ hi') (hlo:lo ≤ hi):MatOk H' b lo hi' n G (vs.set i sv):=by
 have hl:=h.len
 have hg:∀ j,(vs.set i sv).getD j .undef=if i=j then sv else vs.getD j .undef:=fun j=>kL (by omega)
 refine ⟨hb,by simp [hl],fun j hj=>?_,fun j B hj=>?_,fun p q B hp hq hpq=>?_⟩
 ·rw [hg,hG j hj]
  by_cases e:i=j
  ·rw [if_pos e,if_pos e.symm,← e]; exact hrow
  ·rw [if_neg e,if_neg (fun h=>e h.symm)]
   exact (h.row j hj).same fun B hB'=>by
    have:=h.bnd j B hj hB'
    exact hs B this.1 this.2.1 this.2.2 fun h'=>h.apart i j B hin hj e h' hB'
 ·rw [hg]
  by_cases e:i=j
  ·rw [if_pos e]
   intro hB'
   rcases hB B hB' with h' | h'
   ·have:=h.bnd _ B hin h'; exact ⟨this.1,by omega,this.2.2⟩
   ·exact ⟨by omega,h'.2⟩
  ·rw [if_neg e]
   intro hB'
   have:=h.bnd j B hj hB'
   exact ⟨this.1,by omega,this.2.2⟩
 ·rw [hg,hg]
  by_cases e1:i=p
  ·rw [if_pos e1,if_neg (by omega)]
   intro h1 h2
   rcases hB B h1 with h' | h'
   ·exact h.apart i q B hin hq (by omega) h' h2
   ·have:=h.bnd q B hq h2; omega
  ·rw [if_neg e1]
   by_cases e2:i=q
   ·rw [if_pos e2]
    intro h1 h2
    rcases hB B h2 with h' | h'
    ·exact h.apart p i B hp hin (by omega) h1 h'
    ·have:=h.bnd p B hp h1; omega
   ·rw [if_neg e2]; exact h.apart p q B hp hq hpq
theorem MatOk.snap {H:Hp} {b lo hi n:Nat} {F:Nat→List Nat} {vs:List AV} (h:MatOk H b lo hi n F vs):Snap H (.msl b n 1 0 n) (cb ((List.range n).map fun i=>bu (F i))):=by
 refine go (l:=((List.range n).map fun i=>bu (F i)).map bc) h.box h.len (by omega) (by simp) (fun y hy=>?_) (fun i a c ha hc=>?_)
 ·obtain ⟨z,_,rfl⟩:=List.mem_map.1 hy; rfl
 ·have hin:i < n:=by
    have:=(List.getElem?_eq_some_iff.1 hc).1
    simpa using this
  have hr:=h.row i hin
  rw [Nat.zero_add] at ha
  have e1:vs.getD i .undef=a:=by rw [List.getD_eq_getElem?_getD,ha]; rfl
  rw [e1] at hr
  have e2:c=bc (bu (F i)):=by
   rw [List.getElem?_map,List.getElem?_map,List.getElem?_range hin] at hc
   simpa using hc.symm
  rw [e2]
  exact wn hr
theorem MatOk.new {H:Hp} {b lo hi n:Nat} {F:Nat→List Nat} (hb:H b=some (List.replicate n .esl)) (hF:∀ j,j < n→F j=[]):MatOk H b lo hi n F (List.replicate n .esl):=by
 have hg:∀ j,j < n→(List.replicate n AV.esl).getD j .undef=.esl:=fun j hj=>by simp [List.getD,List.getElem?_replicate,hj]
 refine ⟨hb,by simp,fun j hj=>?_,fun j B hj h=>?_,fun i j B hi hj _ h=>?_⟩
 ·rw [hg j hj,hF j hj]; exact Row.nil
 ·rw [hg j hj] at h; cases h
 ·rw [hg i hi] at h; cases h
end Go.Proofs.Ytfcenbapjhecfaa
namespace Go.Proofs.Ytfcenbapjhecfaa
open Go Go.Abs
theorem pU {H:Hp} {s:AV} {c:Int} {l:List (List Int)} {e f:Int} (h:Snap H s (cb l)) (he:e=f):Snap H (.tup [.agg [.int .i64 c,s],.int .i64 e]) (.tup [fW c l,.int .i64 f]):=by
 subst he; exact eP (an (nI (an (.int _ _) (an h aa))) (an (.int _ _) aa))
theorem vG {c:List Spx} {k:Nat} {s:Spx}:s ∈ i8 c k ↔ ∃ t ∈ c,s ∈ bB t k:=by
 unfold i8; rw [jx,jh]
theorem wc {c:List Spx} {k:Nat}:bi aS (i8 c k):=me fm _
theorem vB {c:List Spx} {k:Nat} (h:c.length ≤ 50) (h8:∀ s ∈ c,s.length ≤ 8):(i8 c k).length ≤ 3500:=Nat.le_trans we (Nat.le_trans (i5 h8) (by omega))
attribute [local irreducible] aB ai aW aN aG aH ay aJ aO ba Go.Abs.Fn aM Go.Abs.Pure ar aE Yl
end Go.Proofs.Ytfcenbapjhecfaa
namespace Go.Proofs.Ytfcenbapjhecfaa
open Go Go.Abs
def fcs (s:Spx):List Spx:=if s.length < 2 then [] else fc0 s
theorem i7 {s:Spx}:(fcs s).Perm (bm s):=by
 unfold fcs bm
 split
 ·exact List.Perm.refl _
 ·rename_i h
  exact (ra fun e=>by rw [e] at h; simp at h).symm
theorem t6 {s f:Spx}:f ∈ fcs s ↔ f ∈ bm s:=i7.mem_iff
theorem lN:∀ {s:Spx},(fc0 s).length=s.length
 | []=>rfl
 | x :: s=>by show ((fc0 s).map (x :: ·)).length + 1=_; rw [List.length_map,lN]; rfl
theorem tG:∀ {s:Spx} {i:Nat},i < s.length→(fc0 s).getD i default=s.take i ++ s.drop (i + 1)
 | [],_,h=>absurd h (by simp)
 | x :: s,0,_=>by simp [fc0]
 | x :: s,i + 1,h=>by
  have hi:i < s.length:=by simpa using h
  have:=tG hi
  show ((s :: (fc0 s).map (x :: ·)).getD (i + 1) default)=_
  have hl:i < (fc0 s).length:=by rw [lN]; exact hi
  simp only [List.getD,List.getElem?_cons_succ,List.getElem?_map,List.getElem?_eq_getElem hl,Option.map_some,Option.getD_some,List.take_succ_cons,List.drop_succ_cons,List.cons_append] at this ⊢
  rw [this]
theorem jF {s:Spx} (h:bi bt s):(bm s).Nodup:=(nt h).nodup fm
theorem u6 {s:Spx} (h:bi bt s):(fcs s).Nodup:=i7.nodup_iff.2 (jF h)
def fk (X Y:List Spx) (n i:Nat):List Nat:=(List.range n).filter fun k=>decide (Y.getD i default ∈ bm (X.getD k default))
theorem uF {X Y:List Spx} {n i:Nat}:fk X Y (n + 1) i=fk X Y n i ++ if Y.getD i default ∈ bm (X.getD n default) then [n] else []:=by
 unfold fk
 rw [List.range_succ,List.filter_append]
 congr 1
 by_cases h:Y.getD i default ∈ bm (X.getD n default)
 ·rw [if_pos h,List.filter_cons_of_pos (by simpa using h)]; rfl
 ·rw [if_neg h,List.filter_cons_of_neg (by simpa using h)]; rfl
theorem qi {X Y:List Spx} {n i:Nat}:(fk X Y n i).length ≤ n:=by
 unfold fk
 exact Nat.le_trans (List.length_filter_le _ _) (by simp)
def gz (X Y:List Spx):List (List Int):=(List.range Y.length).map fun i=>bu (fk X Y X.length i)
end Go.Proofs.Ytfcenbapjhecfaa
namespace Go.Proofs.Ytfcenbapjhecfaa
open Go Go.Abs
attribute [local irreducible] aB ai aW aN aG aH ay aJ aO ba Go.Abs.Fn aM Go.Abs.Pure ar aE Yl
end Go.Proofs.Ytfcenbapjhecfaa
namespace Go.Proofs.Ytfcenbapjhecfaa
open Go Go.Abs
open Nat (reduceEqDiff reduceAdd reduceLeDiff)
section
variable {P:Program} {T:Tm} {H:Hp} {nx:Nat}
theorem zr {dm:DM} {K:SP} {l:List Op2} {d:Option Nat} {sz bytes:Nat} {z:List AV} {s x:Opd} {k:IntKind} {n:Int} (hd:dm2 dm T (.apz sz bytes z s x)=true) (hs:ov T s=.esl) (hx:ov T x=.int k n) (h0:0 < n) (h1:n ≤ 9223372036854775807) (h2:n.toNat * bytes ≤ 140737488355328)
    (kk:ai P dm l (aD T d (.msl nx (n.toNat * sz) sz 0 n.toNat)) (aq H nx (aY (.agg z) n.toNat)) (nx + 1) K):ai P dm (⟨d,none,.apz sz bytes z s x⟩ :: l) T H nx K:=by
 refine iu rfl hd ?_ kk
 simp only [eV,hs,hx]
 rw [if_pos ⟨h0,h1,h2⟩]
end
theorem xC (T:Tm) (H:Hp) (x:Opd):a6 T H (.capE x)=match ov T x with | .esl=>some (.int .i64 0) | _=>none:=rfl
theorem xl (n:Nat):(aY (.agg [.int .i64 0,.int .i64 0]) n).length=n * 2:=by simp [aY,AV.cells]
attribute [local irreducible] aB ai aW aN aG aH ay aJ aO ba Go.Abs.Fn aM Go.Abs.Pure ar aE Yl
theorem xa (n:Nat) (h0:0 < n) (h1:n ≤ 1000000) (H:Hp) (nx:Nat):Abs.Fn Try.prog 94 [.esl,.int .i64 n] H nx fun r H' nx'=>r=.msl nx (n * 2) 2 0 0∧H'=aq H nx (aY (.agg [.int .i64 0,.int .i64 0]) n)∧nx'=nx + 1:=by
 refine Abs.Fn.of_c2 follows Bi (Nat.le_of_ble_eq_true rfl) ?_
 simp only [b94,cO,cG,cN,cM,cD,cF,cB,aA,aR]
 have z1:decide ((n:Int) < 0)=false:=decide_eq_false (by omega)
 have z2:decide ((0:Int) < n)=true:=decide_eq_true (by omega)
 have s2:hU 2 .esl none (some (.int .i64 0)) none=some .esl:=rfl
 have s3:=r7 (B:=nx) (n:=n * 2) (len:=n) (k:=0) (by omega) (by omega)
 rw [show ((0:Nat):Int)=0 from rfl] at s3
 (have zz:=aI @z1 (aI @z2 (aI @s2 (aI @Int.sub_zero (aI @Int.sub_self @xC)))); repeat' (first|refine zW ?_|apply a_n|refine zO ?_|refine vY ?_|refine cTY ?_|refine cFY ?_|fail)) <;> (try clear zz)
 refine zr rfl (have zz:=@s2; evY) ev0 (by omega) (by omega) (by omega) ?_
 (have zz:=@s3; repeat' (first|refine zW ?_|apply a_n|refine zO ?_|refine vY ?_|refine ak rfl ?_|refine r1Y ?_|fail)) <;> (try clear zz)
 exact ⟨rfl,rfl,rfl⟩
theorem pJ {c:List Spx} {k:Nat} (hk:k < c.length):(c.take (k + 1)).flatten=(c.take k).flatten ++ c.getD k default:=by
 rw [cC hk,List.flatten_append]; simp
end Go.Proofs.Ytfcenbapjhecfaa
namespace Go.Proofs.Ytfcenbapjhecfaa
open Go Go.Abs
open Nat (reduceEqDiff reduceAdd reduceLeDiff)
theorem yY {P:Program} {T:Tm} {H:Hp} {nx:Nat} {dm:DM} {K:SP} {l:List Op2} {d:Option Nat} {sz bytes b N len n:Nat} {s x:Opd} {v:AV} {new C:List AV} (hd:dm2 dm T (.app sz bytes s x)=true) (hs:ov T s=.msl b N sz 0 len) (hb:H b=some C) (hN:C.length=N) (hx:ov T x=v) (hsrc:db sz H v=some (n,new)) (ho:AV.ones new=true) (hnl:new.length=n * sz) (hz:0 < sz) (h0:0 < N) (hle:(len + n) * sz ≤ N) (h1:(len + n) * bytes ≤ 140737488355328) (h2:len + n ≤ 9223372036854775807)
    (next:∀ C':List AV,C'.length=N→C'.take ((len + n) * sz)=C.take (len * sz) ++ new→ai P dm l (aD T d (.msl b N sz 0 (len + n))) (aq H b C') nx K) :
    ai P dm (⟨d,none,.app sz bytes s x⟩ :: l) T H nx K:=by
 by_cases e:N=len * sz
 ·have hn:n=0:=by
    rcases Nat.eq_zero_or_pos n with h | h
    ·exact h
    ·have:len * sz + 1 * 1 ≤ len * sz + n * sz:=Nat.add_le_add_left (Nat.mul_le_mul h hz) _
     rw [Nat.add_mul] at hle; omega
  subst hn
  obtain rfl:new=[]:=List.eq_nil_of_length_eq_zero (by rw [hnl,Nat.zero_mul])
  refine wQ hd hs hb hx hsrc ho hN e h1 h2 ?_
  rw [Nat.add_zero] at next ⊢
  rw [← e]
  exact next _ (by rw [List.append_nil]; exact hN) (by rw [List.append_nil,List.append_nil])
 ·refine ss hd hs hb hx hsrc ho hN (fun _=>e) h0 (by rw [Nat.zero_add]; exact hle) ?_
  have hlen:len * sz + new.length ≤ N:=by rw [hnl,← Nat.add_mul]; exact hle
  refine next _ ?_ ?_
  ·rw [d5 (by rw [hN]; omega)]; exact hN
  ·simp only [bo,Nat.zero_add]
   rw [List.take_append_of_le_length (by rw [List.length_append,List.length_take,hN,hnl,Nat.add_mul]; omega),List.take_of_length_le (by rw [List.length_append,List.length_take,hN,hnl,Nat.add_mul]; omega)]
attribute [local irreducible] aB ai aW aN aG aH ay aJ aO ba Go.Abs.Fn aM Go.Abs.Pure ar aE Yl
theorem u2 (c:List Spx) (hpos:0 < c.flatten.length) (hl:c.flatten.length ≤ 1000000) (hc:c.length ≤ 1000000) (H:Hp) (nx:Nat) :
    Abs.Fn Try.prog 79 [au c] H nx fun r H' nx'=>r=.msl nx (c.flatten.length * 2) 2 0 c.flatten.length∧H'=aq H nx (cX c.flatten)∧nx'=nx + 1:=by
 refine Abs.Fn.of_c2 follows Bf (Nat.le_of_ble_eq_true rfl) ?_
 simp only [b79,cO,cG,cN,cM,cD,cF,cB,aA,aR]
 have hle:∀ k,(c.take k).flatten.length ≤ c.flatten.length:=fun k=>by
  have:c.flatten=(c.take k).flatten ++ (c.drop k).flatten:=by rw [← List.flatten_append,List.take_append_drop]
  rw [this,List.length_append]; omega
 refine dE ?_
 (have zz:=and_self; repeat' (first|apply a_n|refine zO ?_|refine vY ?_|fail)) <;> (try clear zz)
 refine dE ?_
 (have zz:=and_self; repeat' (first|apply a_n|refine zO ?_|refine vY ?_|fail)) <;> (try clear zz)
 refine bv (fun T H' nx'=>T 0=au c∧T 3=.int .i64 (c.flatten.length:Nat)∧H=H'∧nx=nx') ?_ ?_
 ·(have zz:=@ag; repeat' (first|refine zW ?_|apply a_n|refine zO ?_|refine vY ?_|fail)) <;> (try clear zz)
  refine jD (X:=Nat) (fun k=>[(0,au c),(3,.int .i64 ((c.take k).flatten.length:Nat)),(9,au c),(10,.int .i64 c.length),(11,.int .i64 (k:Nat))]) (fun k=>k ≤ c.length) (fun k=>c.length - k) 0 (by omega) (by simp (disch:=omega) only [agr,ZG,reduceEqDiff,↓reduceIte,List.take_zero,List.flatten_nil,List.length_nil] <;> simp) ?_
  intro k hk
  by_cases hk2:k < c.length
  rotate_left
  ·rw [List.take_of_length_le (by omega)]
   (have zz:=and_self; repeat' (first|refine zW ?_|apply a_n|apply a_x|refine zO ?_|refine vY ?_|(refine zGY ?_ ?_ <;> (intro _hg; try (exfalso; omega)))|fail)) <;> (try clear zz)
   exact ⟨rfl,rfl,rfl,rfl⟩
  have ix:=dH hk2
  have hle2:=hle (k + 1)
  have e:(((c.take (k + 1)).flatten.length:Nat):Int)=((c.take k).flatten.length:Nat) + ((c.getD k default).length:Nat):=by rw [pJ hk2,List.length_append]; omega
  rw [pJ hk2,List.length_append] at hle2
  have z:decide ((((c.take k).flatten.length:Nat):Int) + ((c.getD k default).length:Nat) < 0)=false:=decide_eq_false (by omega)
  generalize c.getD k default=s at *
  (have zz:=aI @ix (aI @ap @z); repeat' (first|refine zW ?_|apply a_n|refine zO ?_|refine vY ?_|refine cFY ?_|(refine zGY ?_ ?_ <;> (intro _hg; try (exfalso; omega)))|fail)) <;> (try clear zz)
  exact ⟨k + 1,by omega,by omega,(have zz:=@e; agZ),rfl,rfl⟩
 rintro T _ _ ⟨t0,t3,rfl,rfl⟩
 (have zz:=@t3; repeat' (first|refine zW ?_|apply a_n|refine zO ?_|refine vY ?_|fail)) <;> (try clear zz)
 refine aV ev0 (have zz:=@t3; evY) (xa c.flatten.length (by omega) (by omega) H nx) ?_
 rintro _ _ _ ⟨rfl,rfl,rfl⟩
 (have zz:=aI @t0 @ag; repeat' (first|refine zW ?_|apply a_n|refine zO ?_|refine vY ?_|fail)) <;> (try clear zz)
 refine bd (X:=Nat) (fun k=>[(6,.msl nx (c.flatten.length * 2) 2 0 (c.take k).flatten.length),(25,au c),(26,.int .i64 c.length),(27,.int .i64 (k:Nat))]) (fun k H' nx'=>k ≤ c.length∧(∃ C,H'=aq H nx C∧C.length=c.flatten.length * 2∧C.take ((c.take k).flatten.length * 2)=cX (c.take k).flatten)∧nx'=nx + 1) (fun k=>c.length - k) 0 ⟨by omega,⟨_,rfl,xl _,rfl⟩,rfl⟩ (by simp (disch:=omega) only [agr,ZG,reduceEqDiff,↓reduceIte,List.take_zero,List.flatten_nil,List.length_nil]) ?_
 rintro k _ _ ⟨hk,⟨C,rfl,h1,h2⟩,rfl⟩
 by_cases hk2:k < c.length
 rotate_left
 ·have ek:c.take k=c:=List.take_of_length_le (by omega)
  rw [ek] at h2 ⊢
  rw [List.take_of_length_le (by omega)] at h2
  subst h2
  (have zz:=and_self; repeat' (first|refine zW ?_|apply a_n|apply a_x|refine zO ?_|refine vY ?_|(refine zGY ?_ ?_ <;> (intro _hg; try (exfalso; omega)))|refine ak rfl ?_|refine r1Y ?_|fail)) <;> (try clear zz)
  exact ⟨rfl,rfl,rfl⟩
 have ix:=dH hk2
 have hle2:=hle (k + 1)
 have e:=pJ hk2
 rw [e,List.length_append] at hle2
 have hcl:=fl (c.getD k default)
 have hcp:=fl (c.take k).flatten
 generalize c.getD k default=s at *
 (have zz:=@ix; repeat' (first|refine zW ?_|apply a_n|refine zO ?_|refine vY ?_|(refine zGY ?_ ?_ <;> (intro _hg; try (exfalso; omega)))|fail)) <;> (try clear zz)
 refine yY (b:=nx) (N:=c.flatten.length * 2) (len:=(c.take k).flatten.length) (n:=s.length) (C:=C) rfl ev0 ah h1 ev0 qF (gP _) (by rw [hcl]) (by omega) (by omega) (by omega) (by omega) (by omega) fun C2 c1 c2=>?_
 (have zz:=and_self; repeat' (first|apply a_n|refine zO ?_|refine vY ?_|fail)) <;> (try clear zz)
 refine ⟨k + 1,by omega,⟨by omega,⟨_,aK _ _ _ _,c1,?_⟩,rfl⟩,by simp (disch:=omega) only [agr,ZG,reduceEqDiff,↓reduceIte,e,List.length_append]⟩
 rw [e,gN,List.length_append,← h2]
 exact c2
theorem BM {P:Program} {T:Tm} {H S:Hp} {nx n:Nat} {K:SP} {l:List (Op2 × Nat)} {d:Option Nat} {i:Ins} {t:Nat} {w:Bool} (h:T t=.bool w) (k:a7 P S ((⟨d,none,i⟩,n) :: l) T H nx K):a7 P S ((⟨d,some (t,w),i⟩,n) :: l) T H nx K:=by
 have e:g2 T (some (t,w))=some true:=by simp [g2,h]
 cases n with
 | zero=>show aJ (g2 T (some (t,w))) _ _; rw [e]; exact k
 | succ n=>show aJ (g2 T (some (t,w))) _ _; rw [e]; exact k
theorem ux (x y:Spx) (h:0 < (x ++ y).length) (hl:(x ++ y).length ≤ 1000000):dg Try.prog 79 [au [x,y]] (av (x ++ y)):=by
 refine dg.of_fn ?_
 have e:[x,y].flatten=x ++ y:=by simp
 have hc:=u2 [x,y] (by rw [e]; exact h) (by rw [e]; exact hl) (by simp) br 0
 rw [e] at hc
 refine Abs.Fn.mono hc ?_
 rintro _ _ _ ⟨rfl,rfl,rfl⟩
 exact lJ (Row.box _ (x ++ y).length (cX (x ++ y)) ah (fl _))
theorem oC (s:Spx) (H:Hp) (nx:Nat):Abs.Fn Try.prog 51 [av s] H nx fun r H' nx'=>r=.func 78 [.ptr nx 1 0]∧H'=aq H nx [av s]∧nx'=nx + 1:=by
 refine Abs.Fn.of_c2 follows A2 (Nat.le_of_ble_eq_true rfl) ?_
 simp only [b51,cO,cG,cN,cM,cD,cF,cB,aA,aR]
 (have zz:=aI @az @aw; repeat' (first|refine zW ?_|apply a_n|refine zO ?_|refine vY ?_|refine bxY ?_|refine ak rfl ?_|refine r1Y ?_|fail)) <;> (try clear zz)
 exact ⟨rfl,rfl,rfl⟩
theorem vA {H:Hp} {b:Nat} {x y:Spx} (h:H b=some [av x,av y]):aE H [.msl b 2 1 0 2] [au [x,y]] :=
 an (ol (l:=[av x,av y]) h rfl rfl (by
  intro z hz
  simp only [List.mem_cons,List.not_mem_nil,or_false] at hz
  rcases hz with rfl | rfl
  ·exact ⟨rfl,ax _⟩
  ·exact ⟨rfl,ax _⟩)) aa
theorem pb {s:Spx} (h:2 ≤ s.length):(fcs s).length=s.length:=by
 unfold fcs; rw [if_neg (by omega),lN]
theorem tB {s:Spx} {i:Nat} (h:2 ≤ s.length) (hi:i < s.length):(fcs s).getD i default=s.take i ++ s.drop (i + 1):=by
 unfold fcs; rw [if_neg (by omega),tG hi]
theorem oo {y sb:Nat} {s:Spx} {H:Hp} {nx:Nat} (hs:s.length ≤ 1000) (I:List Spx→Hp→Nat→Prop)
    (hp:∀ D H nx,I D H nx→H sb=some [av s])
    (stab:∀ D H H' nx1 nx',I D H nx1→nx1 ≤ nx'→(∀ i,i < nx1→H' i=H i)→I D H' nx')
    (rnd:∀ D f H nx1,I D H nx1→D.length < (fcs s).length→f=(fcs s).getD D.length default→D=(fcs s).take D.length→Yl Try.prog y [av f] H nx1 fun r H' nx'=>r=.bool true∧I (D ++ [f]) H' nx')
    (h0:I [] H nx) :
    Abs.Fn Try.prog 78 [.yld y,.ptr sb 1 0] H nx fun _ H' nx'=>I (fcs s) H' nx':=by
 refine Abs.Fn.of_c2 follows BT (Nat.le_of_ble_eq_true rfl) ?_
 simp only [b78,cO,cG,cN,cM,cD,cF,cB,aA,aR]
 have g1:=hp _ _ _ h0
 (have zz:=aI @g1 (aI @az (aI @aw @ap)); repeat' (first|refine zW ?_|apply a_n|refine zO ?_|refine vY ?_|fail)) <;> (try clear zz)
 by_cases h2:2 ≤ s.length
 rotate_left
 ·have e:fcs s=[]:=by unfold fcs; rw [if_pos (by omega)]
  rw [e]
  refine bd (X:=Nat) (fun k=>[(0,.yld y),(1,.ptr sb 1 0),(5,.int .i64 s.length),(6,.int .i64 k)]) (fun k H' nx'=>k ≤ s.length∧I [] H' nx') (fun k=>s.length - k) 0 ⟨Nat.zero_le _,h0⟩ ag0 ?_
  rintro k H1 nx1 ⟨h1,hI⟩
  have q1:=hp _ _ _ hI
  by_cases hk:k < s.length
  rotate_left
  ·(have zz:=and_self; repeat' (first|refine zW ?_|apply a_n|apply a_x|refine zO ?_|refine vY ?_|(refine zGY ?_ ?_ <;> (intro _hg; try (exfalso; omega)))|refine ak rfl ?_|fail)) <;> (try clear zz)
   exact hI
  have z:decide ((1:Int) < s.length)=false:=decide_eq_false (by omega)
  (have zz:=aI @q1 (aI @az (aI @aw (aI @ap @z))); repeat' (first|refine zW ?_|refine zM ?_|apply a_n|refine zO ?_|refine vY ?_|refine gFY ?_|refine cFY ?_|(refine zGY ?_ ?_ <;> (intro _hg; try (exfalso; omega)))|fail)) <;> (try clear zz)
  exact ⟨k + 1,by omega,⟨by omega,hI⟩,ag0⟩
 have z:decide ((1:Int) < s.length)=true:=decide_eq_true (by omega)
 have hfl:=pb h2
 have hfg:=fun {i:Nat} (hi:i < s.length)=>tB (i:=i) h2 hi
 refine bd (X:=Nat) (fun k=>[(0,.yld y),(1,.ptr sb 1 0),(5,.int .i64 s.length),(6,.int .i64 k)]) (fun k H' nx'=>k ≤ s.length∧I ((fcs s).take k) H' nx') (fun k=>s.length - k) 0 ⟨Nat.zero_le _,h0⟩ ag0 ?_
 rintro k H1 nx1 ⟨h1,hI⟩
 have q1:=hp _ _ _ hI
 by_cases hk:k < s.length
 rotate_left
 ·rw [List.take_of_length_le (by omega)] at hI
  (have zz:=and_self; repeat' (first|refine zW ?_|apply a_n|apply a_x|refine zO ?_|refine vY ?_|(refine zGY ?_ ?_ <;> (intro _hg; try (exfalso; omega)))|refine ak rfl ?_|fail)) <;> (try clear zz)
  exact hI
 have a1:hU 2 (av s) none (some (.int .i64 (k:Int))) none=some (av (s.take k)):=pN (by omega)
 have a2:hU 2 (av s) (some (.int .i64 ((k:Int) + 1))) none none=some (av (s.drop (k + 1))):=sj (k:=k + 1) (by omega)
 have hc:=ux (s.take k) (s.drop (k + 1)) (by rw [List.length_append,List.length_take,List.length_drop]; omega) (by rw [List.length_append,List.length_take,List.length_drop]; omega)
 have hr:=rnd ((fcs s).take k) ((fcs s).getD k default) (aq H1 nx1 [av (s.take k),av (s.drop (k + 1))]) (nx1 + 1) (stab _ _ _ _ _ hI (by omega) fun i hi=>af (by omega)) (by rw [List.length_take]; omega) (by rw [List.length_take,Nat.min_eq_left (by omega)]) (by rw [List.length_take,Nat.min_eq_left (by omega)])
 rw [← cC (by omega),hfg hk] at hr
 (have zz:=aI @q1 (aI @az (aI @aw (aI @ap (aI @z (aI @a1 @a2))))); repeat' (first|refine zW ?_|apply a_n|refine zO ?_|refine vY ?_|(refine zGY ?_ ?_ <;> (intro _hg; try (exfalso; omega)))|fail)) <;> (try clear zz)
 refine mF sb q1 fun S0 hS1 hsub=>?_
 simp only [List.map_cons,List.map_nil,List.getD_cons_succ,List.getD_cons_zero]
 (have zz:=aI @hS1 (aI @az (aI @aw (aI @ap (aI @z (aI @a1 @a2))))); repeat' (first|apply a_n|refine zO ?_|refine nvY ?_|apply kQ|refine blY ?_|fail)) <;> (try clear zz)
 repeat (refine BM ev0 ?_; skip)
 refine b0 ev0 ev0 hc (vA (by rw [ah])) ?_
 (have zz:=and_self; repeat' (first|apply a_n|refine zO ?_|apply kQ|fail)) <;> (try clear zz)
 refine tU ev0 ev0 (Yl.mono hr ?_)
 rintro v H3 nx3 ⟨rfl,e1⟩
 (have zz:=and_self; repeat' (first|apply a_n|refine zO ?_|refine vY ?_|refine nvY ?_|refine cFY ?_|fail)) <;> (try clear zz)
 exact ⟨k + 1,by omega,⟨by omega,e1⟩,ag0⟩
end Go.Proofs.Ytfcenbapjhecfaa