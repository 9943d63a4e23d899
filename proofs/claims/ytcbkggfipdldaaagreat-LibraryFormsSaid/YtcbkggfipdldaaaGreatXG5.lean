/- Texts of this claim, one after the other: U10v, U11v, U12v, U13v, U2k, U3k, U4k, U5k, U6k, U7k, U8k, U10k, U12k, U13k, T31, T32, U2o, U3o, U4o, U5o, U6o, U7o, U8o, U10o, U12o, U13o, T20, T21, T11, T22, T33, T34, T35, T23, T24, T25, T26, T27, T36, T29, T37, T38, T301, T302, T303, T304, T305. -/
import Derived.Test.YtcbkggfipdldaaaGreatXG4
import Derived.Test.YtcbkggfipdldaaaGreatXG3

set_option linter.unusedSimpArgs false
set_option linter.unusedVariables false
set_option maxHeartbeats 1000000
namespace Go.Proofs.YtcbkggfipdldaaaGreat
open Go Go.Abs
open Nat (reduceEqDiff reduceAdd reduceLeDiff)
theorem sX{a:Int}{m:Nat}(hm:m<18446744073709551616):∃r:Nat,bb .and false false (.int .u64 a) (.int .u64 (m:Nat))=some (.int .u64 (r:Nat))∧r≤m:=by
 refine⟨(BitVec.ofInt 64 a).toNat &&& m,?_,Nat.and_le_right⟩;show(if (IntKind.u64=IntKind.u64) then ea .and .u64 a m else none)=_;rw[if_pos rfl]
 have h:(BitVec.ofInt 64 a &&& BitVec.ofInt 64 (m:Int)).toNat=(BitVec.ofInt 64 a).toNat &&& m:=by
  rw[BitVec.toNat_and]
  congr 1
  simp[BitVec.toNat_ofInt];omega
 have h2:(BitVec.ofInt 64 a).toNat &&& m≤m:=Nat.and_le_right;show some (AV.int .u64 (IntKind.wrap .u64 ((BitVec.ofInt 64 a &&& BitVec.ofInt 64 (m:Int)).toNat:Int)))=_;rw[h,e9 (by omega) (by omega)]
section
variable{α:Type}[Inhabited α]{f:α→AV}{K:α→α→Int}{G:α→Prop}{g:Nat}{caps:List AV}
attribute [local irreducible] aG al bh a7 aV aU aB aX a9 bt Go.Abs.Fn aZ Go.Abs.Pure ax aO Yl
theorem yZ(hc:Cmp Tryz.prog f K G g caps){L:List α}{H:Hp}{b nx n a e:Nat}(hH:H b=some (L.map f))(hbx:b<nx)(hn:L.length=n)(hae:a+8≤e)(hen:e≤n)(hn2:n≤1000000000):
    Abs.Fn Tryz.prog 111 [.msl b n 1 0 n,.int .i64 a,.int .i64 e,.func g caps] H nx fun r H' nx'=>nx'=nx+1∧∃L',H' b=some (L'.map f)∧(∀i,i<nx→i≠b→H' i=H i)∧PermR a e L L':=by
 obtain⟨l,rfl⟩:∃l,e=a+l:=⟨e-a,by omega⟩
 have te:((a+l:Nat):Int)-(a:Int)=(l:Int):=by omega
 obtain⟨w,hw⟩:∃w,a+l/4*2-1=w:=⟨_,rfl⟩
 have tq:bb .quo false false (.int .i64 (l:Int)) (.int .i64 4)=some (.int .i64 ((l/4:Nat):Int)):=by
  rw[gd (by omega) (by omega) (by omega)]
  congr 2
 have w1:(a:Int)+((l/4:Nat):Int)*2-1=(w:Int):=by omega
 have w2:(a:Int)+((l/4:Nat):Int)*2+1=((w+2:Nat):Int):=by omega
 have hbn:b≠nx:=by omega
 have wl:IntKind.wrap .u64 (l:Int)=l:=e9 (by omega) (by omega);refine fO CC ?_;simp only[Ba,ay];have ls:∀x y:AV,bv [x] 0 [y]=[y]:=fun _ _=>rfl;simp only[bv,de,dF,bQ] at ls;have zz:=aI @te (aI @wl @ls);repeat' (first|refine zW ?_|apply a_n|refine zO ?_|refine vZ ?_|refine alZ ?_|refine stZ ?_|(refine zGZ ?_ ?_<;>(intro _hg;try (exfalso;omega)))|fail)
 refine aJ ev0 ev0 (xn (x:=l) (by omega) (by omega)) ?_;rintro _ _ _ ⟨rfl,rfl,k,rfl,hk1,hk2⟩;obtain⟨p,hp⟩:∃p,2^k=p+1:=⟨2^k-1,by omega⟩
 rw[hp] at hk1 hk2 ⊢;clear zz;have zz:=aI @te (aI @tq @w1);repeat' (first|refine zW ?_|apply a_n|refine zO ?_|refine vZ ?_|fail)
 have wm:IntKind.wrap .u64 (((p+1:Nat):Int)-1)=(p:Int):=by rw[e9 (by omega) (by omega)];omega
 refine bo (X:=Nat×List α) (fun x=>[(0,.msl b n 1 0 n),(1,.int .i64 a),(8,.int .i64 l),(9,.ptr nx 1 0),(10,.int .u64 ((p+1:Nat):Int)),(11,.int .i64 (x.1:Nat))]) (fun x H' nxx=>w≤x.1∧x.1≤w+3∧H' b=some (x.2.map f)∧(∃s,H' nx=some [.int .u64 s])∧(∀i,i<nx→i≠b→H' i=H i)∧nxx=nx+1∧PermR a (a+l) L x.2) (fun x=>w+3-x.1) (w,L) ⟨aM _,by dsimp only;omega,by dsimp only;rw[af hbn];first|exact hH|(rw[af hbn];exact hH),⟨_,aj⟩,fun i h1 h2=>by rw[af (by omega)];first|rfl|exact af (by omega),rfl,.refl⟩ (by simp (disch:=omega) only[agr,ZG,reduceEqDiff,↓reduceIte,de,dF,bQ,true_and]) ?_;rintro⟨i,M⟩ H1 nxx ⟨h1,h2,hb1,⟨s,hs⟩,hfr,rfl,hp1⟩;dsimp only at *;have hl:M.length=n:=by rw[hp1.len,hn]
 by_cases hi:i=w+3
 ·subst hi;clear zz;have zz:=aI @tq @w2;repeat' (first|refine zW ?_|apply a_n|apply a_x|refine zO ?_|refine vZ ?_|(refine zGZ ?_ ?_<;>(intro _hg;try (exfalso;omega)))|refine ae rfl ?_|fail)
  exact⟨rfl,M,hb1,hfr,hp1⟩
 have ti:((i:Nat):Int)+1=((i+1:Nat):Int):=by omega
 clear zz;have zz:=aI @tq @w2;repeat' (first|refine zW ?_|apply a_n|refine zO ?_|refine vZ ?_|(refine zGZ ?_ ?_<;>(intro _hg;try (exfalso;omega)))|fail)
 refine aJ ev0 ev0 (xI hs) ?_;rintro _ _ _ ⟨rfl,s1,rfl,rfl⟩;obtain⟨r,hr1,hr2⟩:=sX (a:=s1) (m:=p) (by omega);obtain⟨H2,hH2⟩:∃H2,am H1 nx [.int .u64 s1]=H2:=⟨_,rfl⟩
 have hb2:H2 b=some (M.map f):=by rw[←hH2,af hbn];exact hb1
 have hs2:H2 nx=some [.int .u64 s1]:=by rw[←hH2];exact aj
 have hfr2:∀i,i<nx→i≠b→H2 i=H i:=fun i k1 k2=>by rw[←hH2,af (by omega)];exact hfr i k1 k2
 rw[hH2];clear zz;clear hH2 hb1 hs hfr
 obtain⟨z,hz,hzl⟩:∃z:Nat,(if l≤r then(r:Int)-l else(r:Int))=(z:Int)∧z<l:=by
  split
  ·exact⟨r-l,by omega,by omega⟩
  ·exact⟨r,rfl,by omega⟩
 obtain⟨M1,hl1,lm1,lm2⟩:=da (f:=f) (M:=M) (i:=i) (j:=a+z) (by omega) (by omega);have lm3:=lm2;simp only[bv,de,dF,bQ] at lm1 lm2;by_cases hrl:l≤r
 ·rw[if_pos hrl] at hz;have zz:=aI @wm (aI @hr1 (aI @hz (aI @hb2 (aI @ti (aI @cz (aI hc.cells (aI hc.one (aI @lm1 @lm2))))))));repeat' (first|refine zW ?_|apply a_n|refine zO ?_|refine vZ ?_|refine stZ ?_|(refine zGZ ?_ ?_<;>(intro _hg;try (exfalso;omega)))|fail)
  exact⟨(i+1,swp M i (a+z)),by dsimp only;omega,⟨by dsimp only;omega,by dsimp only;omega,by dsimp only;rw[ao,lm3,aj],⟨s1,by rw[ao,af (Ne.symm hbn)];exact hs2⟩,fun i k1 k2=>by rw[ao,af k2];exact hfr2 i k1 k2,rfl,hp1.trans (PermR.swap (by omega) (by omega) (by omega))⟩,ag0⟩
 ·rw[if_neg hrl] at hz;have hz':r=z:=by omega
  subst hz';have zz:=aI @wm (aI @hr1 (aI @hb2 (aI @ti (aI @cz (aI hc.cells (aI hc.one (aI @lm1 @lm2)))))));repeat' (first|refine zW ?_|apply a_n|refine zO ?_|refine vZ ?_|refine stZ ?_|(refine zGZ ?_ ?_<;>(intro _hg;try (exfalso;omega)))|fail)
  exact⟨(i+1,swp M i (a+r)),by dsimp only;omega,⟨by dsimp only;omega,by dsimp only;omega,by dsimp only;rw[ao,lm3,aj],⟨s1,by rw[ao,af (Ne.symm hbn)];exact hs2⟩,fun i k1 k2=>by rw[ao,af k2];exact hfr2 i k1 k2,rfl,hp1.trans (PermR.swap (by omega) (by omega) (by omega))⟩,ag0⟩
end
end Go.Proofs.YtcbkggfipdldaaaGreat
namespace Go.Proofs.YtcbkggfipdldaaaGreat
open Go Go.Abs
structure PS(H H1:Hp)(nx n1 b:Nat)(cs:List AV):Prop where
 at_:H1 b=some cs
 fr:∀i,i<nx→i≠b→H1 i=H i
 le:nx≤n1
section
variable{H H1 H2:Hp}{nx n1 n2 b:Nat}{cs cs':List AV}
theorem PS.upd(h:PS H H1 nx n1 b cs):PS H (am H1 b cs') nx n1 b cs':=⟨aj,fun i k1 k2=>by rw[af k2];exact h.fr i k1 k2,h.le⟩
theorem PS.new{v:List AV}(hb:b<nx)(h:PS H H1 nx n1 b cs):PS H (am H1 n1 v) nx (n1+1) b cs:=
 have h1:=h.le
 ⟨by rw[af (by omega)];exact h.at_,fun i k1 k2=>by rw[af (by omega)];exact h.fr i k1 k2,by omega⟩
theorem PS.rec_(h:PS H H1 nx n1 b cs)(h1:H2 b=some cs')(h2:∀i,i<n1→i≠b→H2 i=H1 i)(h3:n1≤n2):PS H H2 nx n2 b cs':=
 have h4:=h.le
 ⟨h1,fun i k1 k2=>by rw[h2 i (by omega) k2];exact h.fr i k1 k2,by omega⟩
end
section
variable{α:Type}[Inhabited α]{f:α→AV}{K:α→α→Int}{G:α→Prop}{g:Nat}{caps:List AV}
structure PI{α:Type}[Inhabited α](K:α→α→Int)(a e:Nat)(L:List α)(a1 e1:Nat)(M:List α):Prop where
 lo:a≤a1
 mid:a1≤e1
 hi:e1≤e
 len:e≤L.length
 perm:PermR a e L M
 low:mD K a1 e1 M
 close:∀N,PermR a1 e1 M N→aW K a1 e1 N→aW K a e N
variable{a e a1 e1:Nat}{L M N:List α}
theorem PI.mlen(h:PI K a e L a1 e1 M):e1≤M.length:=by rw[h.perm.len];exact fR h.hi h.len
theorem PI.start(h1:a≤e)(h2:e≤L.length)(h3:mD K a e L):PI K a e L a e L:=⟨aM _,h1,aM _,h2,.refl,h3,fun _ _ h=>h⟩
theorem PI.swap(h:PI K a e L a1 e1 M)(hp:PermR a1 e1 M N):PI K a e L a1 e1 N:=
 ⟨h.lo,h.mid,h.hi,h.len,h.perm.trans (hp.mono h.lo h.hi),h.low.perm hp h.mid h.mlen,fun N' k1 k2=>h.close N' (hp.trans k1) k2⟩
theorem PI.done(h:PI K a e L a1 e1 M)(hp:PermR a1 e1 M N)(hs:aW K a1 e1 N):PermR a e L N∧aW K a e N:=⟨h.perm.trans (hp.mono h.lo h.hi),h.close N hp hs⟩
theorem PI.equal{v:α}{m:Nat}(hK:Ord K)(h:PI K a e L a1 e1 M)(hp:PermR a1 e1 M N)(hv:¬K (M.getD (a1-1) default) v<0)(ha:0<a1)(hm:a1<m∧m≤e1)(h1:∀p,a1≤p→p<m→¬K v (N.getD p default)<0)(h2:∀q,m≤q→q<e1→K v (N.getD q default)<0):PI K a e L m e1 N:=by
 have hN:=h.swap hp;have hlow:=hN.low;have ho:N.getD (a1-1) default=M.getD (a1-1) default:=hp.out _ (.inl (by omega));refine⟨by have:=h.lo;omega,hm.2,h.hi,h.len,hN.perm,fun q k0 k1 k2=>hK.negtr _ _ _ (h1 (m-1) (by omega) (by omega)) (hK.asym _ _ (h2 q k1 k2)),fun N' k1 k2=>hN.close N' (k1.mono (by omega) (aM _)) (fun p q c1 c2 c3=>?_)⟩;by_cases e1':m≤p
 ·exact k2 p q e1' c2 c3
 ·rw[k1.out p (.inl (by omega))];refine hK.negtr _ _ _ (h1 p c1 (by omega)) ?_;by_cases e2:m≤q
  ·exact hK.asym _ _ (k1.all (p:=fun x=>K v x<0) hm.2 hN.mlen h2 q e2 c3)
  ·rw[k1.out q (.inl (by omega))];exact hK.negtr _ _ _ hv (by rw[←ho];exact hlow q ha (by omega) c3)
theorem aW.glue{m:Nat}(hK:Ord K)(h1:aW K a1 m N)(h2:aW K (m+1) e1 N)(h3:∀p,a1≤p→p<m→¬K (N.getD m default) (N.getD p default)<0)(h4:∀q,m<q→q<e1→¬K (N.getD q default) (N.getD m default)<0):aW K a1 e1 N:=fun p q k1 k2 k3=>by
 by_cases c1:q<m
 ·exact h1 p q k1 k2 c1
 ·by_cases c2:m<p
  ·exact h2 p q c2 k2 k3
  ·by_cases c3:p=m
   ·subst c3;exact h4 q (by omega) k3
   ·by_cases c4:q=m
    ·subst c4;exact h3 p k1 k2
    ·exact hK.negtr _ _ _ (h3 p k1 (by omega)) (h4 q (by omega) k3)
structure TwoS{α:Type}[Inhabited α](K:α→α→Int)(a1 e1 m:Nat)(N:List α):Prop where
 mid:a1≤m∧m<e1
 lt:∀p,a1≤p→p<m→¬K (N.getD m default) (N.getD p default)<0
 ge:∀q,m<q→q<e1→¬K (N.getD q default) (N.getD m default)<0
theorem TwoS.left{m:Nat}{N':List α}(h:TwoS K a1 e1 m N)(hp:PermR a1 m N N')(hl:e1≤N.length):TwoS K a1 e1 m N':=
 have hm:=h.mid
 ⟨hm,by
  rw[hp.out m (.inr (aM _))];exact hp.all (p:=fun x=>¬K (N.getD m default) x<0) hm.1 (by omega) h.lt,fun q k1 k2=>by rw[hp.out m (.inr (aM _)),hp.out q (.inr (by omega))];exact h.ge q k1 k2⟩
theorem TwoS.right{m:Nat}{N':List α}(h:TwoS K a1 e1 m N)(hp:PermR (m+1) e1 N N')(hl:e1≤N.length):TwoS K a1 e1 m N':=
 have hm:=h.mid
 ⟨hm,fun p k1 k2=>by rw [hp.out m (.inl (by omega)),hp.out p (.inl (by omega))]; exact h.lt p k1 k2,by
  rw[hp.out m (.inl (by omega))];exact fun q k1 k2=>hp.all (p:=fun x=>¬K x (N.getD m default)<0) (by omega) hl (fun i c1 c2=>h.ge i (by omega) c2) q (by omega) k2⟩
theorem PI.left{m:Nat}(hK:Ord K)(h:PI K a e L a1 e1 M)(ht:TwoS K a1 e1 m M)(hp:PermR a1 m M N)(hs:aW K a1 m N):PI K a e L (m+1) e1 N:=by
 have hm:=ht.mid;have hN:=h.swap (hp.mono (aM _) (by omega));have htN:=ht.left hp h.mlen;refine⟨by have:=h.lo;omega,by omega,h.hi,h.len,hN.perm,fun q k0 k1 k2=>by rw[jE];exact htN.ge q k1 k2,fun N' k1 k2=>hN.close N' (k1.mono (by omega) (aM _)) ?_⟩;have ht':=htN.right k1 hN.mlen;exact aW.glue hK (fun p q c1 c2 c3=>by rw[k1.out p (.inl (by omega)),k1.out q (.inl (by omega))];exact hs p q c1 c2 c3) k2 ht'.lt ht'.ge
theorem PI.right{m:Nat}(hK:Ord K)(h:PI K a e L a1 e1 M)(ht:TwoS K a1 e1 m M)(hp:PermR (m+1) e1 M N)(hs:aW K (m+1) e1 N):PI K a e L a1 m N:=by
 have hm:=ht.mid;have hN:=h.swap (hp.mono (by omega) (aM _));have htN:=ht.right hp h.mlen;refine⟨h.lo,hm.1,by have:=h.hi;omega,h.len,hN.perm,fun q k0 k1 k2=>hN.low q k0 k1 (by omega),fun N' k1 k2=>hN.close N' (k1.mono (aM _) (by omega)) ?_⟩;have ht':=htN.left k1 hN.mlen;exact aW.glue hK k2 (fun p q c1 c2 c3=>by rw[k1.out p (.inr (by omega)),k1.out q (.inr (by omega))];exact hs p q c1 c2 c3) ht'.lt ht'.ge
theorem mD.sub{a e a' e':Nat}{M:List α}(h:mD K a e M)(ha:a'=a)(he:e'≤e):mD K a' e' M:=fun q k0 k1 k2=>by subst ha;exact h q k0 k1 (by omega)
end
section
variable{α:Type}[Inhabited α]{f:α→AV}{K:α→α→Int}{G:α→Prop}{g:Nat}{caps:List AV}
attribute [local irreducible] aG al bh a7 aV aU aB aX a9 bt Go.Abs.Fn aZ Go.Abs.Pure ax aO Yl
theorem Cq(hc:Cmp Tryz.prog f K G g caps){b n:Nat}(hn2:n≤1000000000):∀(sz a e lim:Nat)(L:List α)(H:Hp)(nx:Nat),e-a<sz→H b=some (L.map f)→b<nx→L.length=n→(∀x∈L,G x)→a≤e→e≤n→lim≤64→mD K a e L→
    Abs.Fn Tryz.prog 85 [.msl b n 1 0 n,.int .i64 a,.int .i64 e,.int .i64 lim,.func g caps] H nx fun r H' nx'=>∃L',PS H H' nx nx' b (L'.map f)∧PermR a e L L'∧aW K a e L':=by
 intro sz
 induction sz with
 |zero=>intro a e lim L H nx h;omega
 |succ sz ih=>
 intro a e lim L H nx hsz hH hbx hn hG hae hen hlim hlow;have dcap:=hc.dcaps;refine fO CE ?_;simp only[b85,ay]
 repeat' (first|refine zW ?_|apply a_n|refine zO ?_|refine vZ ?_|fail)
 refine bo (X:=Nat×Nat×Nat×Bool×Bool×List α) (fun x=>[(0,.msl b n 1 0 n),(1,.int .i64 (x.1:Nat)),(2,.int .i64 (x.2.1:Nat)),(3,.int .i64 (x.2.2.1:Nat)),(4,.func g caps),(10,.bool x.2.2.2.1),(11,.bool x.2.2.2.2.1)]) (fun x H' nxx=>PI K a e L x.1 x.2.1 x.2.2.2.2.2∧PS H H' nx nxx b (x.2.2.2.2.2.map f)∧x.2.2.1≤64) (fun x=>x.2.1-x.1) (a,e,lim,true,true,L) ⟨.start hae (by rw[hn];exact hen) hlow,⟨hH,fun _ _ _=>rfl,aM _⟩,hlim⟩ ag0 ?_;clear hlim hlow lim;rintro⟨a1,e1,lim,wb,wp,M⟩ H1 n1 ⟨hpi,hps,hlim⟩;dsimp only at *;have hlo:=hpi.lo;have hmid:=hpi.mid;have hhi:=hpi.hi;obtain⟨l,hl0⟩:∃l,e1-a1=l:=⟨_,rfl⟩
 rw[hl0];have te:(e1:Int)-(a1:Int)=(l:Int):=by omega
 have hlen:∀M:List α,PI K a e L a1 e1 M→M.length=n:=fun M h=>by rw[h.perm.len,hn]
 have hGA:∀M:List α,PI K a e L a1 e1 M→∀x∈M,G x:=fun M h=>h.perm.mem hG;have hbn:∀(M:List α)(H1:Hp)(n1:Nat),PS H H1 nx n1 b (M.map f)→b<n1:=fun M H1 n1 h=>by have:=h.le;omega
 obtain⟨T,hT,t0,t1,t2,t3,t4,t10,t11⟩:∃T,tl [(0,.msl b n 1 0 n),(1,.int .i64 (a1:Nat)),(2,.int .i64 (e1:Nat)),(3,.int .i64 (lim:Nat)),(4,.func g caps),(10,.bool wb),(11,.bool wp)]=T∧T 0=.msl b n 1 0 n∧T 1=.int .i64 (a1:Nat)∧T 2=.int .i64 (e1:Nat)∧T 3=.int .i64 (lim:Nat)∧T 4=.func g caps∧T 10=.bool wb∧T 11=.bool wp:=⟨_,rfl,rfl,rfl,rfl,rfl,rfl,rfl,rfl⟩
 rw[hT];clear hT;refine dg ?_;refine aQ (fun T H'' nx''=>T 0=.msl b n 1 0 n∧T 1=.int .i64 (a1:Nat)∧T 2=.int .i64 (e1:Nat)∧T 3=.int .i64 (lim:Nat)∧T 4=.func g caps∧T 10=.bool wb∧T 11=.bool wp∧T 12=.int .i64 (l:Nat)∧H1=H''∧n1=nx'') ?_ ?_
 ·have zz:=aI @t0 (aI @t1 (aI @t2 (aI @t3 (aI @t4 (aI @t10 (aI @t11 @te))))));repeat' (first|apply a_n|refine zO ?_|refine vZ ?_|fail)
  exact⟨(have zz:=@t0;evZ),(have zz:=@t1;evZ),(have zz:=@t2;evZ),(have zz:=@t3;evZ),(have zz:=@t4;evZ),(have zz:=@t10;evZ),(have zz:=@t11;evZ),ev0,rfl,rfl⟩
 clear t0 t1 t2 t3 t4 t10 t11;rintro T _ _ ⟨t0,t1,t2,t3,t4,t10,t11,t12,rfl,rfl⟩;refine aQ (fun T H'' nx''=>T 0=.msl b n 1 0 n∧T 1=.int .i64 (a1:Nat)∧T 2=.int .i64 (e1:Nat)∧T 3=.int .i64 (lim:Nat)∧T 4=.func g caps∧T 10=.bool wb∧T 11=.bool wp∧T 12=.int .i64 (l:Nat)∧13≤l∧H1=H''∧n1=nx'') ?_ ?_
 ·by_cases h12:l≤12
  ·have zz:=aI @t0 (aI @t1 (aI @t2 (aI @t3 (aI @t4 (aI @t10 (aI @t11 @t12))))));repeat' (first|refine zW ?_|apply a_n|refine zO ?_|refine vZ ?_|(refine zGZ ?_ ?_<;>(intro _hg;try (exfalso;omega)))|fail)
   refine aJ ev0 (have zz:=aI @t0 (aI @t1 (aI @t2 (aI @t3 (aI @t4 (aI @t10 (aI @t11 @t12))))));evZ) (B0 hc (b:=b) hps.at_ (hlen _ hpi) (hGA _ hpi) (a:=a1) (e:=e1) hmid (by omega) hn2) ?_;rintro _ _ _ ⟨rfl,N,rfl,hpN,hsN⟩
   repeat' (first|apply a_n|apply a_r|refine zO ?_|refine ae rfl ?_|fail)
   exact⟨N,hps.upd,hpi.done hpN hsN⟩
  ·have zz:=aI @t0 (aI @t1 (aI @t2 (aI @t3 (aI @t4 (aI @t10 (aI @t11 @t12))))));repeat' (first|refine zW ?_|apply a_n|refine zO ?_|refine vZ ?_|(refine zGZ ?_ ?_<;>(intro _hg;try (exfalso;omega)))|fail)
   exact⟨(have zz:=@t0;evZ),(have zz:=@t1;evZ),(have zz:=@t2;evZ),(have zz:=@t3;evZ),(have zz:=@t4;evZ),(have zz:=@t10;evZ),(have zz:=@t11;evZ),(have zz:=@t12;evZ),by omega,rfl,rfl⟩
 clear t0 t1 t2 t3 t4 t10 t11 t12;rintro T _ _ ⟨t0,t1,t2,t3,t4,t10,t11,t12,h13,rfl,rfl⟩;refine aQ (fun T H'' nx''=>T 0=.msl b n 1 0 n∧T 1=.int .i64 (a1:Nat)∧T 2=.int .i64 (e1:Nat)∧T 3=.int .i64 (lim:Nat)∧T 4=.func g caps∧T 10=.bool wb∧T 11=.bool wp∧T 12=.int .i64 (l:Nat)∧0<lim∧H1=H''∧n1=nx'') ?_ ?_
 ·by_cases h12:lim=0
  ·subst h12;have tz:decide (((0:Nat):Int)=0)=true:=rfl;have zz:=aI @t0 (aI @t1 (aI @t2 (aI @t3 (aI @t4 (aI @t10 (aI @t11 (aI @t12 @tz)))))));repeat' (first|refine zW ?_|apply a_n|refine zO ?_|refine vZ ?_|refine cTZ ?_|fail)
   refine aJ ev0 (have zz:=aI @t0 (aI @t1 (aI @t2 (aI @t3 (aI @t4 (aI @t10 (aI @t11 @t12))))));evZ) (Aw hc (b:=b) hps.at_ (hlen _ hpi) (hGA _ hpi) (a:=a1) (e:=e1) hmid (by omega) hn2) ?_;rintro _ _ _ ⟨rfl,N,rfl,hpN,hsN⟩
   repeat' (first|apply a_n|apply a_r|refine zO ?_|refine ae rfl ?_|fail)
   exact⟨N,hps.upd,hpi.done hpN hsN⟩
  ·have tz:decide ((lim:Int)=0)=false:=dN (by omega);have zz:=aI @t0 (aI @t1 (aI @t2 (aI @t3 (aI @t4 (aI @t10 (aI @t11 (aI @t12 @tz)))))));repeat' (first|refine zW ?_|apply a_n|refine zO ?_|refine vZ ?_|refine cFZ ?_|fail)
   exact⟨(have zz:=@t0;evZ),(have zz:=@t1;evZ),(have zz:=@t2;evZ),(have zz:=@t3;evZ),(have zz:=@t4;evZ),(have zz:=@t10;evZ),(have zz:=@t11;evZ),(have zz:=@t12;evZ),by omega,rfl,rfl⟩
 clear t0 t1 t2 t3 t4 t10 t11 t12;rintro T _ _ ⟨t0,t1,t2,t3,t4,t10,t11,t12,hlim1,rfl,rfl⟩;refine aQ (fun T H'' nx''=>∃(lim:Nat)(M:List α),lim≤64∧PI K a e L a1 e1 M∧PS H H'' nx nx'' b (M.map f)∧T 0=.msl b n 1 0 n∧T 1=.int .i64 (a1:Nat)∧T 2=.int .i64 (e1:Nat)∧T 3=.int .i64 (lim:Nat)∧T 4=.func g caps∧T 10=.bool wb∧T 11=.bool wp∧T 12=.int .i64 (l:Nat)) ?_ ?_
 ·cases wb
  ·obtain⟨k,rfl⟩:∃k,lim=k+1:=⟨lim-1,by omega⟩
   have tk:((k+1:Nat):Int)-1=(k:Int):=by omega
   have zz:=aI @t0 (aI @t1 (aI @t2 (aI @t3 (aI @t4 (aI @t10 (aI @t11 @t12))))));repeat' (first|refine zW ?_|apply a_n|refine zO ?_|refine vZ ?_|refine cTZ ?_|fail)
   refine aJ ev0 (have zz:=aI @t0 (aI @t1 (aI @t2 (aI @t3 (aI @t4 (aI @t10 (aI @t11 @t12))))));evZ) (yZ hc (b:=b) hps.at_ (hbn _ _ _ hps) (hlen _ hpi) (a:=a1) (e:=e1) (by omega) (by omega) hn2) ?_;rintro _ _ _ ⟨rfl,N,hN1,hN2,hpN⟩;clear zz;have zz:=aI @t0 (aI @t1 (aI @t2 (aI @t3 (aI @t4 (aI @t10 (aI @t11 (aI @t12 @tk)))))));repeat' (first|apply a_n|refine zO ?_|refine vZ ?_|fail)
   exact⟨k,N,by omega,hpi.swap hpN,hps.rec_ hN1 hN2 (Nat.le_succ _),(have zz:=@t0;evZ),(have zz:=@t1;evZ),(have zz:=@t2;evZ),(have zz:=@t3;evZ),(have zz:=@t4;evZ),(have zz:=@t10;evZ),(have zz:=@t11;evZ),(have zz:=@t12;evZ)⟩
  ·have zz:=aI @t0 (aI @t1 (aI @t2 (aI @t3 (aI @t4 (aI @t10 (aI @t11 @t12))))));repeat' (first|refine zW ?_|apply a_n|refine zO ?_|refine vZ ?_|refine cFZ ?_|fail)
   exact⟨lim,M,hlim,hpi,hps,(have zz:=@t0;evZ),(have zz:=@t1;evZ),(have zz:=@t2;evZ),(have zz:=@t3;evZ),(have zz:=@t4;evZ),(have zz:=@t10;evZ),(have zz:=@t11;evZ),(have zz:=@t12;evZ)⟩
 clear t0 t1 t2 t3 t4 t10 t11 t12 hpi hps hlim hlim1;rintro T H1 n1 ⟨lim,M,hlim,hpi,hps,t0,t1,t2,t3,t4,t10,t11,t12⟩;refine aQ (fun T H'' nx''=>∃(p:Nat)(hint:Int),a1≤p∧p<e1∧PS H H'' nx nx'' b (M.map f)∧T 0=.msl b n 1 0 n∧T 1=.int .i64 (a1:Nat)∧T 2=.int .i64 (e1:Nat)∧T 3=.int .i64 (lim:Nat)∧T 4=.func g caps∧T 10=.bool wb∧T 11=.bool wp∧T 12=.int .i64 (l:Nat)∧T 13=.int .i64 (p:Nat)∧T 14=.int .i64 hint) ?_ ?_
 ·have zz:=aI @t0 (aI @t1 (aI @t2 (aI @t3 (aI @t4 (aI @t10 (aI @t11 @t12))))));repeat' (first|apply a_n|refine zO ?_|refine vZ ?_|fail)
  refine aJ ev0 (have zz:=aI @t0 (aI @t1 (aI @t2 (aI @t3 (aI @t4 (aI @t10 (aI @t11 @t12))))));evZ) (xt hc (b:=b) hps.at_ (hbn _ _ _ hps) (hlen _ hpi) (hGA _ hpi) (a:=a1) (e:=e1) (by omega) (by omega) hn2) ?_;rintro _ _ _ ⟨rfl,p,hint,v,rfl,hp1,hp2,rfl⟩;clear zz;have zz:=aI @t0 (aI @t1 (aI @t2 (aI @t3 (aI @t4 (aI @t10 (aI @t11 @t12))))));repeat' (first|apply a_n|refine zO ?_|refine vZ ?_|fail)
  exact⟨p,hint,hp1,hp2,hps.new hbx,(have zz:=@t0;evZ),(have zz:=@t1;evZ),(have zz:=@t2;evZ),(have zz:=@t3;evZ),(have zz:=@t4;evZ),(have zz:=@t10;evZ),(have zz:=@t11;evZ),(have zz:=@t12;evZ),ev0,ev0⟩
 clear t0 t1 t2 t3 t4 t10 t11 t12 hps;rintro T H1 n1 ⟨p,hint,hp1,hp2,hps,t0,t1,t2,t3,t4,t10,t11,t12,t13,t14⟩;refine aQ (fun T H'' nx''=>∃(p:Nat)(hint:Int)(M:List α),a1≤p∧p<e1∧PI K a e L a1 e1 M∧PS H H'' nx nx'' b (M.map f)∧T 0=.msl b n 1 0 n∧T 1=.int .i64 (a1:Nat)∧T 2=.int .i64 (e1:Nat)∧T 3=.int .i64 (lim:Nat)∧T 4=.func g caps∧T 10=.bool wb∧T 11=.bool wp∧T 12=.int .i64 (l:Nat)∧T 13=.int .i64 (p:Nat)∧T 14=.int .i64 hint) ?_ ?_
 ·by_cases h2:hint=2
  ·subst h2;obtain⟨p2,hp3⟩:∃p2,e1-1-(p-a1)=p2:=⟨_,rfl⟩
   have tp:(e1:Int)-1-((p:Int)-(a1:Int))=(p2:Int):=by omega
   have tz:decide ((2:Int)=2)=true:=rfl;have zz:=aI @t0 (aI @t1 (aI @t2 (aI @t3 (aI @t4 (aI @t10 (aI @t11 (aI @t12 (aI @t13 (aI @t14 @tz)))))))));repeat' (first|refine zW ?_|apply a_n|refine zO ?_|refine vZ ?_|(refine zGZ ?_ ?_<;>(intro _hg;try (exfalso;omega)))|fail)
   refine aJ ev0 (have zz:=aI @t0 (aI @t1 (aI @t2 (aI @t3 (aI @t4 (aI @t10 (aI @t11 @t12))))));evZ) (BD hc (b:=b) hps.at_ (hlen _ hpi) (a:=a1) (e:=e1) (by omega) (by omega) hn2) ?_;rintro _ _ _ ⟨rfl,N,rfl,hpN⟩;clear zz;have zz:=aI @t0 (aI @t1 (aI @t2 (aI @t3 (aI @t4 (aI @t10 (aI @t11 (aI @t12 (aI @t13 (aI @t14 @tp)))))))));repeat' (first|refine zW ?_|apply a_n|refine zO ?_|refine vZ ?_|fail)
   exact⟨p2,1,N,by omega,by omega,hpi.swap hpN,hps.upd,(have zz:=@t0;evZ),(have zz:=@t1;evZ),(have zz:=@t2;evZ),(have zz:=@t3;evZ),(have zz:=@t4;evZ),(have zz:=@t10;evZ),(have zz:=@t11;evZ),(have zz:=@t12;evZ),ev0,ev0⟩
  ·have tz:decide (hint=2)=false:=dN h2;have zz:=aI @t0 (aI @t1 (aI @t2 (aI @t3 (aI @t4 (aI @t10 (aI @t11 (aI @t12 (aI @t13 (aI @t14 @tz)))))))));repeat' (first|refine zW ?_|apply a_n|refine zO ?_|refine vZ ?_|refine cFZ ?_|fail)
   exact⟨p,hint,M,hp1,hp2,hpi,hps,(have zz:=@t0;evZ),(have zz:=@t1;evZ),(have zz:=@t2;evZ),(have zz:=@t3;evZ),(have zz:=@t4;evZ),(have zz:=@t10;evZ),(have zz:=@t11;evZ),(have zz:=@t12;evZ),(have zz:=@t13;evZ),(have zz:=@t14;evZ)⟩
 clear t0 t1 t2 t3 t4 t10 t11 t12 t13 t14 hps hpi hp1 hp2;rintro T H1 n1 ⟨p,hint,M,hp1,hp2,hpi,hps,t0,t1,t2,t3,t4,t10,t11,t12,t13,t14⟩;refine aQ (fun T H'' nx''=>∃(M:List α),PI K a e L a1 e1 M∧PS H H'' nx nx'' b (M.map f)∧T 0=.msl b n 1 0 n∧T 1=.int .i64 (a1:Nat)∧T 2=.int .i64 (e1:Nat)∧T 3=.int .i64 (lim:Nat)∧T 4=.func g caps∧T 10=.bool wb∧T 11=.bool wp∧T 12=.int .i64 (l:Nat)∧T 13=.int .i64 (p:Nat)) ?_ ?_
 ·cases wb
  ·cases wp
   ·have zz:=aI @t0 (aI @t1 (aI @t2 (aI @t3 (aI @t4 (aI @t10 (aI @t11 (aI @t12 (aI @t13 @t14))))))));repeat' (first|refine zW ?_|apply a_n|refine zO ?_|refine vZ ?_|refine gFZ ?_|refine cFZ ?_|fail)
    exact⟨M,hpi,hps,(have zz:=@t0;evZ),(have zz:=@t1;evZ),(have zz:=@t2;evZ),(have zz:=@t3;evZ),(have zz:=@t4;evZ),(have zz:=@t10;evZ),(have zz:=@t11;evZ),(have zz:=@t12;evZ),(have zz:=@t13;evZ)⟩
   ·have zz:=aI @t0 (aI @t1 (aI @t2 (aI @t3 (aI @t4 (aI @t10 (aI @t11 (aI @t12 (aI @t13 @t14))))))));repeat' (first|refine zW ?_|apply a_n|refine zO ?_|refine vZ ?_|refine gFZ ?_|refine cFZ ?_|fail)
    exact⟨M,hpi,hps,(have zz:=@t0;evZ),(have zz:=@t1;evZ),(have zz:=@t2;evZ),(have zz:=@t3;evZ),(have zz:=@t4;evZ),(have zz:=@t10;evZ),(have zz:=@t11;evZ),(have zz:=@t12;evZ),(have zz:=@t13;evZ)⟩
  ·cases wp
   ·have zz:=aI @t0 (aI @t1 (aI @t2 (aI @t3 (aI @t4 (aI @t10 (aI @t11 (aI @t12 (aI @t13 @t14))))))));repeat' (first|refine zW ?_|apply a_n|refine zO ?_|refine vZ ?_|refine gTZ ?_|refine gFZ ?_|refine cFZ ?_|fail)
    exact⟨M,hpi,hps,(have zz:=@t0;evZ),(have zz:=@t1;evZ),(have zz:=@t2;evZ),(have zz:=@t3;evZ),(have zz:=@t4;evZ),(have zz:=@t10;evZ),(have zz:=@t11;evZ),(have zz:=@t12;evZ),(have zz:=@t13;evZ)⟩
   ·by_cases h1:hint=1
    ·subst h1;have tz:decide ((1:Int)=1)=true:=rfl;have zz:=aI @t0 (aI @t1 (aI @t2 (aI @t3 (aI @t4 (aI @t10 (aI @t11 (aI @t12 (aI @t13 (aI @t14 @tz)))))))));repeat' (first|refine zW ?_|apply a_n|refine zO ?_|refine vZ ?_|refine gTZ ?_|(refine zGZ ?_ ?_<;>(intro _hg;try (exfalso;omega)))|fail)
     refine aJ ev0 (have zz:=aI @t0 (aI @t1 (aI @t2 (aI @t3 (aI @t4 (aI @t10 (aI @t11 @t12))))));evZ) (wQ hc (b:=b) hps.at_ (hlen _ hpi) (hGA _ hpi) (a:=a1) (e:=e1) (by omega) (by omega) hn2 hpi.low) ?_;rintro _ _ _ ⟨rfl,N,t,rfl,rfl,hpN,hsN⟩;cases t
     ·clear zz;have zz:=aI @t0 (aI @t1 (aI @t2 (aI @t3 (aI @t4 (aI @t10 (aI @t11 (aI @t12 (aI @t13 @t14))))))));repeat' (first|apply a_n|refine zO ?_|refine cFZ ?_|fail)
      exact⟨N,hpi.swap hpN,hps.upd,(have zz:=@t0;evZ),(have zz:=@t1;evZ),(have zz:=@t2;evZ),(have zz:=@t3;evZ),(have zz:=@t4;evZ),(have zz:=@t10;evZ),(have zz:=@t11;evZ),(have zz:=@t12;evZ),(have zz:=@t13;evZ)⟩
     ·clear zz;have zz:=aI @t0 (aI @t1 (aI @t2 (aI @t3 (aI @t4 (aI @t10 (aI @t11 (aI @t12 (aI @t13 @t14))))))));repeat' (first|apply a_n|apply a_r|refine zO ?_|refine cTZ ?_|refine ae rfl ?_|fail)
      exact⟨N,hps.upd,hpi.done hpN (hsN rfl)⟩
    ·have tz:decide (hint=1)=false:=dN h1;have zz:=aI @t0 (aI @t1 (aI @t2 (aI @t3 (aI @t4 (aI @t10 (aI @t11 (aI @t12 (aI @t13 (aI @t14 @tz)))))))));repeat' (first|refine zW ?_|apply a_n|refine zO ?_|refine vZ ?_|refine gTZ ?_|refine cFZ ?_|fail)
     exact⟨M,hpi,hps,(have zz:=@t0;evZ),(have zz:=@t1;evZ),(have zz:=@t2;evZ),(have zz:=@t3;evZ),(have zz:=@t4;evZ),(have zz:=@t10;evZ),(have zz:=@t11;evZ),(have zz:=@t12;evZ),(have zz:=@t13;evZ)⟩
 clear t0 t1 t2 t3 t4 t10 t11 t12 t13 t14 hps hpi hint;rintro T H1 n1 ⟨M,hpi,hps,t0,t1,t2,t3,t4,t10,t11,t12,t13⟩;have hbb:=hps.at_;have hl:=hlen _ hpi;have hGM:=hGA _ hpi;refine aQ (fun T H'' nx''=>T 0=.msl b n 1 0 n∧T 1=.int .i64 (a1:Nat)∧T 2=.int .i64 (e1:Nat)∧T 3=.int .i64 (lim:Nat)∧T 4=.func g caps∧T 10=.bool wb∧T 11=.bool wp∧T 12=.int .i64 (l:Nat)∧T 13=.int .i64 (p:Nat)∧H1=H''∧n1=nx'') ?_ ?_
 ·by_cases ha0:a1=0
  ·have tz:decide ((0:Int)<(a1:Int))=false:=dN (by omega);have zz:=aI @t0 (aI @t1 (aI @t2 (aI @t3 (aI @t4 (aI @t10 (aI @t11 (aI @t12 (aI @t13 @tz))))))));repeat' (first|refine zW ?_|refine zM ?_|apply a_n|refine zO ?_|refine vZ ?_|refine gFZ ?_|refine cFZ ?_|fail)
   exact⟨(have zz:=@t0;evZ),(have zz:=@t1;evZ),(have zz:=@t2;evZ),(have zz:=@t3;evZ),(have zz:=@t4;evZ),(have zz:=@t10;evZ),(have zz:=@t11;evZ),(have zz:=@t12;evZ),(have zz:=@t13;evZ),rfl,rfl⟩
  have tz:decide ((0:Int)<(a1:Int))=true:=cA (by omega);obtain⟨k,hk⟩:∃k,a1-1=k:=⟨_,rfl⟩
  have tk:(a1:Int)-1=(k:Int):=by omega
  have lc:=hc.run (M.getD k default) (M.getD p default) (hGM _ (an (by omega))) (hGM _ (an (by omega)));have d1:=hc.dat (M.getD k default);have d2:=hc.dat (M.getD p default);generalize hKK:K (M.getD k default) (M.getD p default)=kk at lc;by_cases hlt:kk<0
  ·have zz:=aI @t0 (aI @t1 (aI @t2 (aI @t3 (aI @t4 (aI @t10 (aI @t11 (aI @t12 (aI @t13 (aI @tz (aI @tk (aI @hbb (aI @bD (aI hc.cells hc.one)))))))))))));repeat' (first|refine zW ?_|refine zM ?_|apply a_n|refine zO ?_|refine vZ ?_|refine cZ ?_ (hp:=lc) (hs:=by(first|refine ak ?_ rfl|apply au);(repeat' (first|exact ai|apply aD|apply aw|exact d1|exact d2|exact av dcap));first|done|fail)|refine gTZ ?_|(refine zGZ ?_ ?_<;>(intro _hg;try (exfalso;omega)))|fail)
   exact⟨(have zz:=@t0;evZ),(have zz:=@t1;evZ),(have zz:=@t2;evZ),(have zz:=@t3;evZ),(have zz:=@t4;evZ),(have zz:=@t10;evZ),(have zz:=@t11;evZ),(have zz:=@t12;evZ),(have zz:=@t13;evZ),rfl,rfl⟩
  ·have zz:=aI @t0 (aI @t1 (aI @t2 (aI @t3 (aI @t4 (aI @t10 (aI @t11 (aI @t12 (aI @t13 (aI @tz (aI @tk (aI @hbb (aI @bD (aI hc.cells hc.one)))))))))))));repeat' (first|refine zW ?_|refine zM ?_|apply a_n|refine zO ?_|refine vZ ?_|refine cZ ?_ (hp:=lc) (hs:=by(first|refine ak ?_ rfl|apply au);(repeat' (first|exact ai|apply aD|apply aw|exact d1|exact d2|exact av dcap));first|done|fail)|refine gTZ ?_|(refine zGZ ?_ ?_<;>(intro _hg;try (exfalso;omega)))|fail)
   refine aJ ev0 (have zz:=aI @t0 (aI @t1 (aI @t2 (aI @t3 (aI @t4 (aI @t10 (aI @t11 (aI @t12 @t13)))))));evZ) (yp hc (b:=b) hps.at_ (hlen _ hpi) (hGA _ hpi) (a:=a1) (e:=e1) (pv:=p) (by omega) (by omega) hn2 ⟨hp1,hp2⟩) ?_;rintro _ _ _ ⟨rfl,N,m,rfl,hm1,hm2,rfl,hpN,q1,q2⟩;clear zz;have zz:=aI @t0 (aI @t1 (aI @t2 (aI @t3 (aI @t4 (aI @t10 (aI @t11 (aI @t12 @t13)))))));repeat' (first|refine zW ?_|apply a_n|apply a_x|refine zO ?_|refine vZ ?_|fail)
   exact⟨(m,e1,lim,wb,wp,N),by dsimp only;omega,⟨hpi.equal hc.ord hpN (by rw[hk,hKK];exact hlt) (by omega) ⟨hm1,hm2⟩ q1 q2,hps.upd,hlim⟩,(have zz:=aI @t0 (aI @t1 (aI @t2 (aI @t3 (aI @t4 (aI @t10 (aI @t11 @t12))))));agZ)⟩
 clear t0 t1 t2 t3 t4 t10 t11 t12 t13;rintro T _ _ ⟨t0,t1,t2,t3,t4,t10,t11,t12,t13,rfl,rfl⟩;refine aQ (fun T H'' nx''=>∃(M:List α)(m:Nat)(t:Bool),PI K a e L a1 e1 M∧TwoS K a1 e1 m M∧PS H H'' nx nx'' b (M.map f)∧T 0=.msl b n 1 0 n∧T 1=.int .i64 (a1:Nat)∧T 2=.int .i64 (e1:Nat)∧T 3=.int .i64 (lim:Nat)∧T 4=.func g caps∧T 10=.bool wb∧T 11=.bool wp∧T 12=.int .i64 (l:Nat)∧T 16=.int .i64 (m:Nat)∧T 17=.bool t) ?_ ?_
 ·have zz:=aI @t0 (aI @t1 (aI @t2 (aI @t3 (aI @t4 (aI @t10 (aI @t11 (aI @t12 @t13)))))));repeat' (first|apply a_n|refine zO ?_|refine vZ ?_|fail)
  refine aJ ev0 (have zz:=aI @t0 (aI @t1 (aI @t2 (aI @t3 (aI @t4 (aI @t10 (aI @t11 (aI @t12 @t13)))))));evZ) (AQ hc (b:=b) hps.at_ (hlen _ hpi) (hGA _ hpi) (a:=a1) (e:=e1) (pv:=p) (by omega) (by omega) hn2 ⟨hp1,hp2⟩) ?_;rintro _ _ _ ⟨rfl,N,m,t,rfl,hm1,hm2,rfl,hpN,q1,q2⟩;clear zz;have zz:=aI @t0 (aI @t1 (aI @t2 (aI @t3 (aI @t4 (aI @t10 (aI @t11 (aI @t12 @t13)))))));repeat' (first|apply a_n|refine zO ?_|refine vZ ?_|fail)
  exact⟨N,m,t,hpi.swap hpN,⟨⟨hm1,hm2⟩,fun p k1 k2=>hc.ord.asym _ _ (q1 p k1 k2),q2⟩,hps.upd,(have zz:=@t0;evZ),(have zz:=@t1;evZ),(have zz:=@t2;evZ),(have zz:=@t3;evZ),(have zz:=@t4;evZ),(have zz:=@t10;evZ),(have zz:=@t11;evZ),(have zz:=@t12;evZ),ev0,ev0⟩
 clear t0 t1 t2 t3 t4 t10 t11 t12 t13 hbb hl hGM hpi hps hp1 hp2 p;rintro T H1 n1 ⟨M,m,t,hpi,hts,hps,t0,t1,t2,t3,t4,t10,t11,t12,t16,t17⟩;have hm:=hts.mid;have hl:=hlen _ hpi
 have tq:bb .quo false false (.int .i64 (l:Int)) (.int .i64 8)=some (.int .i64 ((l/8:Nat):Int)):=by
  rw[gd (by omega) (by omega) (by omega)]
  congr 2
 have tm:(m:Int)+1=((m+1:Nat):Int):=by omega
 by_cases hlr:(m:Int)-(a1:Int)<(e1:Int)-(m:Int)
 ·have tz:decide ((m:Int)-(a1:Int)<(e1:Int)-(m:Int))=true:=cA hlr;have zz:=aI @t0 (aI @t1 (aI @t2 (aI @t3 (aI @t4 (aI @t10 (aI @t11 (aI @t12 (aI @t16 (aI @t17 (aI @tq @tz))))))))));repeat' (first|refine zW ?_|apply a_n|refine zO ?_|refine vZ ?_|refine cTZ ?_|fail)
  refine aJ ev0 (have zz:=aI @t0 (aI @t1 (aI @t2 (aI @t3 (aI @t4 (aI @t10 (aI @t11 (aI @t12 (aI @t16 @t17))))))));evZ) (ih a1 m lim M H1 n1 (by omega) hps.at_ (hbn _ _ _ hps) hl (hGA _ hpi) (by omega) (by omega) hlim (hpi.low.sub rfl (by omega))) ?_;rintro _ H2 n2 ⟨N,hps2,hpN,hsN⟩;clear zz;have zz:=aI @t0 (aI @t1 (aI @t2 (aI @t3 (aI @t4 (aI @t10 (aI @t11 (aI @t12 (aI @t16 (aI @t17 @tm)))))))));repeat' (first|apply a_n|refine zO ?_|refine vZ ?_|fail)
  exact⟨(m+1,e1,lim,decide (((l/8:Nat):Int)≤(m:Int)-(a1:Int)),t,N),by dsimp only;omega,⟨hpi.left hc.ord hts hpN hsN,hps.rec_ hps2.at_ hps2.fr hps2.le,hlim⟩,(have zz:=aI @t0 (aI @t1 (aI @t2 (aI @t3 (aI @t4 (aI @t10 (aI @t11 (aI @t12 (aI @t16 @t17))))))));agZ)⟩
 ·have tz:decide ((m:Int)-(a1:Int)<(e1:Int)-(m:Int))=false:=dN hlr;have zz:=aI @t0 (aI @t1 (aI @t2 (aI @t3 (aI @t4 (aI @t10 (aI @t11 (aI @t12 (aI @t16 (aI @t17 (aI @tq (aI @tz @tm)))))))))));repeat' (first|refine zW ?_|apply a_n|refine zO ?_|refine vZ ?_|refine cFZ ?_|fail)
  refine aJ ev0 (have zz:=aI @t0 (aI @t1 (aI @t2 (aI @t3 (aI @t4 (aI @t10 (aI @t11 (aI @t12 (aI @t16 @t17))))))));evZ) (ih (m+1) e1 lim M H1 n1 (by omega) hps.at_ (hbn _ _ _ hps) hl (hGA _ hpi) (by omega) (by omega) hlim (fun q k0 k1 k2=>by rw[jE];exact hts.ge q k1 k2)) ?_;rintro _ H2 n2 ⟨N,hps2,hpN,hsN⟩;clear zz;have zz:=aI @t0 (aI @t1 (aI @t2 (aI @t3 (aI @t4 (aI @t10 (aI @t11 (aI @t12 (aI @t16 @t17))))))));repeat' (first|apply a_n|refine zO ?_|refine vZ ?_|fail)
  exact⟨(a1,m,lim,decide (((l/8:Nat):Int)≤(e1:Int)-(m:Int)),t,N),by dsimp only;omega,⟨hpi.right hc.ord hts hpN hsN,hps.rec_ hps2.at_ hps2.fr hps2.le,hlim⟩,(have zz:=aI @t0 (aI @t1 (aI @t2 (aI @t3 (aI @t4 (aI @t10 (aI @t11 (aI @t12 (aI @t16 @t17))))))));agZ)⟩
end
end Go.Proofs.YtcbkggfipdldaaaGreat
namespace Go.Proofs.YtcbkggfipdldaaaGreat
open Go Go.Abs
open Nat (reduceEqDiff reduceAdd reduceLeDiff)
section
variable{α:Type}[Inhabited α]{f:α→AV}{K:α→α→Int}{G:α→Prop}{g:Nat}{caps:List AV}
attribute [local irreducible] aG al bh a7 aV aU aB aX a9 bt Go.Abs.Fn aZ Go.Abs.Pure ax aO Yl
set_option maxRecDepth 100000 in
theorem yJ{H:Hp}{nx:Nat}:Abs.Fn Tryz.prog 95 [.int .u64 0] H nx fun r H' nx'=>nx'=nx∧H'=H∧r=.int .i64 0:=by
 refine fO pg ?_;simp only[b95,ay];generalize hT:AV.str (ByteArray.mk (Array.mk [0,1,2,2,3,3,3,3,4,4,4,4,4,4,4,4,5,5,5,5,5,5,5,5,5,5,5,5,5,5,5,5,6,6,6,6,6,6,6,6,6,6,6,6,6,6,6,6,6,6,6,6,6,6,6,6,6,6,6,6,6,6,6,6,7,7,7,7,7,7,7,7,7,7,7,7,7,7,7,7,7,7,7,7,7,7,7,7,7,7,7,7,7,7,7,7,7,7,7,7,7,7,7,7,7,7,7,7,7,7,7,7,7,7,7,7,7,7,7,7,7,7,7,7,7,7,7,7,8,8,8,8,8,8,8,8,8,8,8,8,8,8,8,8,8,8,8,8,8,8,8,8,8,8,8,8,8,8,8,8,8,8,8,8,8,8,8,8,8,8,8,8,8,8,8,8,8,8,8,8,8,8,8,8,8,8,8,8,8,8,8,8,8,8,8,8,8,8,8,8,8,8,8,8,8,8,8,8,8,8,8,8,8,8,8,8,8,8,8,8,8,8,8,8,8,8,8,8,8,8,8,8,8,8,8,8,8,8,8,8,8,8,8,8,8,8,8,8,8,8,8,8,8,8,8,8]))=tb;have ht:jT tb (.int .u8 0)=some (.int .u8 0):=by rw[←hT];exact sC (x:=0) (by decide)
 clear hT;have w8:IntKind.wrap .u8 0=0:=by decide
 have zz:=aI @w8 @ht;repeat' (first|refine zW ?_|apply a_n|refine zO ?_|refine vZ ?_|(refine zGZ ?_ ?_<;>(intro _hg;try (exfalso;omega)))|refine ae rfl ?_|refine r1Z ?_|fail)
 exact⟨rfl,rfl,by congr 1⟩
theorem Bc{H:Hp}{nx:Nat}:Abs.Fn Tryz.prog 71 [.int .u64 0] H nx fun r H' nx'=>nx'=nx∧H'=H∧r=.int .i64 0:=by
 refine fO As ?_;simp only[b71,ay]
 repeat' (first|refine zW ?_|apply a_n|refine zO ?_|refine vZ ?_|refine cFZ ?_|fail)
 refine aJ ev0 ev0 yJ ?_;rintro _ _ _ ⟨rfl,rfl,rfl⟩
 repeat' (first|apply a_n|refine zO ?_|refine vZ ?_|refine ae rfl ?_|refine r1Z ?_|fail)
 exact⟨rfl,rfl,rfl⟩
theorem BK{H:Hp}{nx:Nat}:Abs.Fn Tryz.prog 109 [.esl,.int .i64 0,.int .i64 0,.func g caps] H nx fun r H' nx'=>nx'=nx∧H'=H:=by
 refine fO zQ ?_;simp only[AO,ay]
 repeat' (first|refine zW ?_|apply a_n|refine zO ?_|refine vZ ?_|fail)
 refine bo (X:=Unit) (fun x=>[(0,.esl),(1,.int .i64 0),(2,.int .i64 0),(3,.func g caps),(8,.int .i64 1)]) (fun x H' nx'=>H'=H∧nx'=nx) (fun x=>0) () ⟨rfl,rfl⟩ (by simp (disch:=omega) only[agr,ZG,reduceEqDiff,↓reduceIte,Int.zero_add,true_and]) ?_;rintro _ _ _ ⟨rfl,rfl⟩
 repeat' (first|refine zW ?_|apply a_n|apply a_x|refine zO ?_|refine vZ ?_|(refine zGZ ?_ ?_<;>(intro _hg;try (exfalso;omega)))|refine ae rfl ?_|fail)
 exact⟨rfl,rfl⟩
theorem CG{H:Hp}{nx:Nat}:Abs.Fn Tryz.prog 85 [.esl,.int .i64 0,.int .i64 0,.int .i64 0,.func g caps] H nx fun r H' nx'=>nx'=nx∧H'=H:=by
 refine fO CE ?_;simp only[b85,ay]
 repeat' (first|refine zW ?_|apply a_n|refine zO ?_|refine vZ ?_|fail)
 refine bo (X:=Unit) (fun x=>[(0,.esl),(1,.int .i64 0),(2,.int .i64 0),(3,.int .i64 0),(4,.func g caps)]) (fun x H' nx'=>H'=H∧nx'=nx) (fun x=>0) () ⟨rfl,rfl⟩ ag0 ?_;rintro _ _ _ ⟨rfl,rfl⟩
 repeat' (first|refine zW ?_|apply a_n|refine zO ?_|refine vZ ?_|(refine zGZ ?_ ?_<;>(intro _hg;try (exfalso;omega)))|fail)
 refine aJ ev0 ev0 BK ?_;rintro _ _ _ ⟨rfl,rfl⟩
 repeat' (first|apply a_n|apply a_r|refine zO ?_|refine ae rfl ?_|fail)
 exact⟨rfl,rfl⟩
theorem yW{H:Hp}{nx:Nat}:Abs.Fn Tryz.prog 69 [.esl,.func g caps] H nx fun r H' nx'=>nx'=nx∧H'=H:=by
 refine fO Ct ?_;simp only[b69,ay];have w8:IntKind.wrap .u64 0=0:=by decide
 have zz:=@w8;repeat' (first|refine zW ?_|apply a_n|refine zO ?_|refine vZ ?_|fail)
 refine aJ ev0 (have zz:=@w8;evZ) Bc ?_;rintro _ _ _ ⟨rfl,rfl,rfl⟩
 repeat' (first|apply a_n|refine zO ?_|refine vZ ?_|fail)
 refine aJ ev0 ev0 CG ?_;rintro _ _ _ ⟨rfl,rfl⟩
 repeat' (first|apply a_n|refine zO ?_|refine ae rfl ?_|fail)
 exact⟨rfl,rfl⟩
theorem yP(hc:Cmp Tryz.prog f K G g caps){L:List α}{H:Hp}{b nx n:Nat}(hH:H b=some (L.map f))(hbx:b<nx)(hn:L.length=n)(hn0:0<n)(hG:∀x∈L,G x)(hn2:n≤1000000000):
    Abs.Fn Tryz.prog 69 [.msl b n 1 0 n,.func g caps] H nx fun r H' nx'=>∃L',PS H H' nx nx' b (L'.map f)∧L'.Perm L∧aW K 0 n L':=by
 refine fO Ct ?_;simp only[b69,ay];have w:IntKind.wrap .u64 (n:Int)=n:=e9 (by omega) (by omega);have zz:=@w;repeat' (first|refine zW ?_|apply a_n|refine zO ?_|refine vZ ?_|fail)
 refine aJ ev0 (have zz:=@w;evZ) (sM hn0 (by omega)) ?_;rintro _ _ _ ⟨rfl,rfl,k,rfl,h3,h4⟩
 have hk:k≤62:=by
  rcases oV 62 k with h|h
  ·have:=Nat.pow_le_pow_right (n:=2) (by omega) h;omega
  ·exact h
 repeat' (first|apply a_n|refine zO ?_|refine vZ ?_|fail)
 refine aJ ev0 (have zz:=@Int.natCast_zero;evZ) (Cq hc hn2 (n+1) 0 n k L _ _ (by omega) hH hbx hn hG (by omega) (aM _) (by omega) (fun q h=>by omega)) ?_;rintro _ _ _ ⟨N,hps,hp,hs⟩
 repeat' (first|apply a_n|refine zO ?_|refine ae rfl ?_|fail)
 exact⟨N,hps,hp.perm,hs⟩
end
end Go.Proofs.YtcbkggfipdldaaaGreat
namespace Go.Proofs.YtcbkggfipdldaaaGreat
open Go Go.Abs
def _root_.List.c3{α:Type}(l:List α)(f:α→AV):List AV:=l.flatMap fun x=>(f x).cells
structure Cmp3{α:Type}(P:Program)(f:α→AV)(K:α→α→Int)(G:α→Prop)(g:Nat)(caps:List AV):Prop where
 len:∀x,(f x).cells.length=3
 agg:∀x,AV.agg (f x).cells=f x
 ones:∀x,AV.ones (f x).cells=true
 dat:∀x,Dat (f x)
 dcaps:∀x∈caps,Dat x
 run:∀x y,G x→G y→Go.Abs.Pure P g (f x::f y::caps) (.int .i64 (K x y))
 ord:Ord K
section
variable{α:Type}{f:α→AV}(h:∀x,(f x).cells.length=3)
include h
theorem br(M:List α):(M.c3 f).length=M.length*3:=by
 unfold List.c3
 induction M with
 |nil=>rfl
 |cons a l ih=>rw[o6,p7,ih,h,de];omega
theorem qE:∀(M:List α)(k:Nat),(M.c3 f).drop (k*3)=(M.drop k).c3 f
 |[],k=>by simp[List.c3]
 |a::l,0=>by simp
 |a::l,k+1=>by
  have e:((a::l).c3 f).drop ((k+1)*3)=(l.c3 f).drop (k*3):=by
   show((f a).cells++l.c3 f).drop _=_;rw[List.drop_append,jD (by rw[h];omega),List.nil_append,h]
   congr 1;omega
  rw[e,qE l k];rfl
theorem uC:∀(M:List α)(k:Nat),(M.c3 f).take (k*3)=(M.take k).c3 f
 |[],k=>by simp[List.c3]
 |a::l,0=>by simp[List.c3]
 |a::l,k+1=>by
  show((f a).cells++l.c3 f).take _=(f a).cells++(l.take k).c3 f;rw[List.take_append,jz (by rw[h];omega),h,show(k+1)*3-3=k*3 by omega,uC l k]
theorem rdC[Inhabited α](M:List α)(k:Nat)(hk:k<M.length):((M.c3 f).drop (k*3)).take 3=(f (M.getD k default)).cells:=by
 rw[qE h,bO hk];show((f (M.getD k default)).cells++_).take 3=_;rw[List.take_append_of_le_length (by rw[h];omega),jz (by rw[h];omega)]
theorem Ad{M:List α}{k:Nat}{x:α}(hk:k<M.length):bv (M.c3 f) (k*3) (f x).cells=(M.set k x).c3 f:=by
 simp only[bv];rw[h,show k*3+3=(k+1)*3 by omega,qE h,uC h,zg,if_pos hk];simp only[List.c3,List.flatMap_append,o6,uu]
theorem cl[Inhabited α]{M:List α}{i j:Nat}(hi:i<M.length)(hj:j<M.length):∃M1:List α,M1.length=M.length∧bv (M.c3 f) (i*3) (f (M.getD j default)).cells=M1.c3 f∧bv (M1.c3 f) (j*3) (f (M.getD i default)).cells=(swp M i j).c3 f∧(M.c3 f).length=M.length*3∧(M1.c3 f).length=M.length*3∧(f (M.getD i default)).cells.length=3∧(f (M.getD j default)).cells.length=3:=
 ⟨M.set i (M.getD j default),by simp,Ad h hi,by rw[Ad h (by simpa using hj)];rfl,br h M,by rw[br h];simp,h _,h _⟩
end
theorem bB{c:Prop}[Decidable c]{g:List AV→AV}{x:List AV}:Option.map g (if c then some x else none)=if c then some (g x) else none:=by
 split<;>rfl
section
variable{α:Type}[Inhabited α]{f:α→AV}{K:α→α→Int}{G:α→Prop}{g:Nat}{caps:List AV}
attribute [local irreducible] aG al bh a7 aV aU aB aX a9 bt Go.Abs.Fn aZ Go.Abs.Pure ax aO Yl
theorem Cr(hc:Cmp3 Tryz.prog f K G g caps){L:List α}{H:Hp}{b nx n a e:Nat}(hH:H b=some (L.c3 f))(hn:L.length=n)(hG:∀x∈L,G x)(hae:a≤e)(hen:e≤n)(hn2:n≤1000000000):
    Abs.Fn Tryz.prog 86 [.msl b (n*3) 3 0 n,.int .i64 a,.int .i64 e,.func g caps] H nx fun r H' nx'=>nx'=nx∧∃L',H'=am H b (L'.c3 f)∧PermR a e L L'∧aW K a e L':=by
 refine fO Dk ?_;simp only[b86,ay]
 repeat' (first|refine zW ?_|apply a_n|refine zO ?_|refine vZ ?_|fail)
 refine bo (X:=Nat×List α) (fun x=>[(0,.msl b (n*3) 3 0 n),(1,.int .i64 a),(2,.int .i64 e),(3,.func g caps),(8,.int .i64 (x.1:Nat))]) (fun x H' nx'=>a+1≤x.1∧(x.1≤e∨x.1=a+1)∧H'=am H b (x.2.c3 f)∧nx'=nx∧PermR a e L x.2∧aW K a x.1 x.2) (fun x=>e+1-x.1) (a+1,L) ⟨aM _,.inr rfl,eh hH,rfl,.refl,aW.one (aM _)⟩ ag0 ?_;rintro⟨i,M0⟩ H' nx' ⟨h1,h2,rfl,rfl,hp0,hs0⟩;dsimp only at *;have hl0:M0.length=n:=by rw[hp0.len,hn]
 by_cases hi:i<e
 rotate_left
 ·repeat' (first|refine zW ?_|apply a_n|apply a_x|refine zO ?_|refine vZ ?_|(refine zGZ ?_ ?_<;>(intro _hg;try (exfalso;omega)))|refine ae rfl ?_|fail)
  exact⟨rfl,M0,rfl,hp0,hs0.mono (aM _) (by omega)⟩
 repeat' (first|refine zW ?_|apply a_n|refine zO ?_|refine vZ ?_|(refine zGZ ?_ ?_<;>(intro _hg;try (exfalso;omega)))|fail)
 refine bo (X:=Nat×List α) (fun x=>[(0,.msl b (n*3) 3 0 n),(1,.int .i64 a),(2,.int .i64 e),(3,.func g caps),(8,.int .i64 (i:Nat)),(9,.int .i64 (x.1:Nat))]) (fun x H' nxx=>a≤x.1∧x.1≤i∧H'=am H b (x.2.c3 f)∧nxx=nx'∧PermR a e L x.2∧dY K a i x.1 x.2) (fun x=>x.1) (i,M0) ⟨by omega,aM _,rfl,rfl,hp0,.start hs0⟩ ag0 ?_;clear hp0 hs0 hl0;rintro⟨j,M⟩ H' nxx ⟨a1,a2,rfl,rfl,hp,hal⟩;dsimp only at *;have hl:M.length=n:=by rw[hp.len,hn]
 have hGM:=hp.mem hG;by_cases hja:j=a
 ·subst hja
  repeat' (first|refine zW ?_|refine zM ?_|apply a_n|apply a_x|refine zO ?_|refine vZ ?_|refine gFZ ?_|(refine zGZ ?_ ?_<;>(intro _hg;try (exfalso;omega)))|refine cFZ ?_|fail)
  exact⟨(i+1,M),by dsimp only;omega,⟨by dsimp only;omega,.inl (by dsimp only;omega),rfl,rfl,hp,hal.done hc.ord (.inl rfl)⟩,ag0⟩
 ·obtain⟨k,rfl⟩:∃k,j=k+1:=⟨j-1,by omega⟩
  have tj:((k+1:Nat):Int)-1=(k:Int):=by omega
  have lc:=hc.run (M.getD (k+1) default) (M.getD k default) (hGM _ (an (by omega))) (hGM _ (an (by omega)));have d1:=hc.dat (M.getD (k+1) default);have d2:=hc.dat (M.getD k default);have dcap:=hc.dcaps;generalize hKK:K (M.getD (k+1) default) (M.getD k default)=kk at lc;by_cases hlt:kk<0
  ·obtain⟨M1,hl1,lm1,lm2,c1,c2,c3,c4⟩:=cl (f:=f) hc.len (M:=M) (i:=k+1) (j:=k) (by omega) (by omega);have lm3:=lm2;simp only[bv] at lm1 lm2;have zz:=aI @tj (aI @bD (aI @lm1 (aI @lm2 (aI (rdC hc.len) (aI (br hc.len) (aI @bB (aI hc.agg hc.ones)))))));repeat' (first|refine zW ?_|refine zM ?_|apply a_n|refine zO ?_|refine vZ ?_|refine cZ ?_ (hp:=lc) (hs:=by(first|refine ak ?_ rfl|apply au);(repeat' (first|exact ai|apply aD|apply aw|exact d1|exact d2|exact av dcap));first|done|fail)|refine stZ ?_|refine gTZ ?_|(refine zGZ ?_ ?_<;>(intro _hg;try (exfalso;omega)))|fail)
   refine⟨(k,swp M (k+1) k),by dsimp only;omega,⟨by dsimp only;omega,by dsimp only;omega,?_,rfl,hp.trans (PermR.swap (by omega) (by omega) (by omega)),hal.step hc.ord (by omega) (by omega) (by omega) (by rw[hKK];exact hlt)⟩,(have zz:=@tj;agZ)⟩;dsimp only;rw[ao,ao,lm3]
  ·have zz:=aI @tj (aI @bD (aI (rdC hc.len) (aI (br hc.len) (aI @bB (aI hc.agg hc.ones)))));repeat' (first|refine zW ?_|refine zM ?_|apply a_n|apply a_x|refine zO ?_|refine vZ ?_|refine cZ ?_ (hp:=lc) (hs:=by(first|refine ak ?_ rfl|apply au);(repeat' (first|exact ai|apply aD|apply aw|exact d1|exact d2|exact av dcap));first|done|fail)|refine gTZ ?_|(refine zGZ ?_ ?_<;>(intro _hg;try (exfalso;omega)))|fail)
   exact⟨(i+1,M),by dsimp only;omega,⟨by dsimp only;omega,.inl (by dsimp only;omega),rfl,rfl,hp,hal.done hc.ord (.inr ⟨by omega,by rw[jE,hKK];exact hlt⟩)⟩,ag0⟩
end
end Go.Proofs.YtcbkggfipdldaaaGreat
namespace Go.Proofs.YtcbkggfipdldaaaGreat
open Go Go.Abs
section
variable{α:Type}[Inhabited α]{f:α→AV}{K:α→α→Int}{G:α→Prop}{g:Nat}{caps:List AV}
attribute [local irreducible] aG al bh a7 aV aU aB aX a9 bt Go.Abs.Fn aZ Go.Abs.Pure ax aO Yl
theorem w9(hc:Cmp3 Tryz.prog f K G g caps){L:List α}{H:Hp}{b nx n a lo hi:Nat}(hH:H b=some (L.c3 f))(hn:L.length=n)(hG:∀x∈L,G x)(hhi:a+hi≤n)(hn2:n≤1000000000)(hlo:lo≤n)(hheap:ed K a hi (lo+1) L):
    Abs.Fn Tryz.prog 117 [.msl b (n*3) 3 0 n,.int .i64 lo,.int .i64 hi,.int .i64 a,.func g caps] H nx fun r H' nx'=>nx'=nx∧∃L',H'=am H b (L'.c3 f)∧PermR a (a+hi) L L'∧ed K a hi lo L':=by
 refine fO B9 ?_;simp only[CF,ay]
 repeat' (first|refine zW ?_|apply a_n|refine zO ?_|refine vZ ?_|fail)
 refine bo (X:=Nat×List α) (fun x=>[(0,.msl b (n*3) 3 0 n),(2,.int .i64 hi),(3,.int .i64 a),(4,.func g caps),(10,.int .i64 (x.1:Nat))]) (fun x H' nx'=>x.1≤n∧H'=am H b (x.2.c3 f)∧nx'=nx∧PermR a (a+hi) L x.2∧SiftR K a hi lo x.1 x.2) (fun x=>n+1-x.1) (lo,L) ⟨hlo,eh hH,rfl,.refl,.start hheap⟩ ag0 ?_;rintro⟨root,M⟩ H' nx' ⟨h0,rfl,rfl,hp,hs⟩;dsimp only at *;have hl:M.length=n:=by rw[hp.len,hn]
 have hGM:=hp.mem hG;by_cases hch:2*root+1<hi
 rotate_left
 ·repeat' (first|refine zW ?_|apply a_n|apply a_x|refine zO ?_|refine vZ ?_|(refine zGZ ?_ ?_<;>(intro _hg;try (exfalso;omega)))|refine ae rfl ?_|fail)
  exact⟨rfl,M,rfl,hp,hs.leaf (by omega)⟩
 have dcap:=hc.dcaps;have tch:(2:Int)*(root:Int)+1=((2*root+1:Nat):Int):=by omega
 have tch2:((2*root+1:Nat):Int)+1=((2*root+1+1:Nat):Int):=by omega
 have w1:IntKind.wrap .i64 (2*(root:Int))=2*(root:Int):=j5 (by omega) (by omega)
 obtain⟨c,hkid,hchi,hbest,hsel⟩:∃c,Kid root c∧c<hi∧(∀d,Kid root d→d<hi→¬K (M.getD (a+c) default) (M.getD (a+d) default)<0)∧((c=2*root+1+1∧K (M.getD (a+(2*root+1)) default) (M.getD (a+(2*root+1+1)) default)<0)∨(c=2*root+1∧(2*root+1+1<hi→¬K (M.getD (a+(2*root+1)) default) (M.getD (a+(2*root+1+1)) default)<0))):=by
  by_cases h2:2*root+1+1<hi∧K (M.getD (a+(2*root+1)) default) (M.getD (a+(2*root+1+1)) default)<0
  ·refine⟨2*root+1+1,.inr rfl,h2.1,fun d hd hd2=>?_,.inl ⟨rfl,h2.2⟩⟩;rcases hd with rfl|rfl
   ·exact hc.ord.asym _ _ h2.2
   ·exact hc.ord.irr _
  ·refine⟨2*root+1,.inl rfl,hch,fun d hd hd2=>?_,.inr ⟨rfl,fun h h3=>h2 ⟨h,h3⟩⟩⟩;rcases hd with rfl|rfl
   ·exact hc.ord.irr _
   ·exact fun h3=>h2 ⟨hd2,h3⟩
 have lc2:=hc.run (M.getD (a+root) default) (M.getD (a+c) default) (hGM _ (an (by omega))) (hGM _ (an (by omega)));have e1:=hc.dat (M.getD (a+root) default);have e2:=hc.dat (M.getD (a+c) default);generalize hK2:K (M.getD (a+root) default) (M.getD (a+c) default)=k2 at lc2;refine dg ?_;refine aQ (fun T H'' nx''=>T 0=.msl b (n*3) 3 0 n∧T 2=.int .i64 hi∧T 3=.int .i64 a∧T 4=.func g caps∧T 10=.int .i64 (root:Nat)∧T 11=.int .i64 ((2*root+1:Nat):Int)∧H''=am H b (M.c3 f)∧nx'=nx'') ?_ ?_
 ·have zz:=aI @w1 @tch;repeat' (first|apply a_n|refine zO ?_|refine vZ ?_|fail)
  exact⟨rfl,rfl,rfl,rfl,rfl,rfl,rfl,rfl⟩
 rintro T _ _ ⟨t0,t2,t3,t4,t10,t11,rfl,rfl⟩;refine aQ (fun T H'' nx''=>T 0=.msl b (n*3) 3 0 n∧T 2=.int .i64 hi∧T 3=.int .i64 a∧T 4=.func g caps∧T 10=.int .i64 (root:Nat)∧T 11=.int .i64 ((2*root+1:Nat):Int)∧H''=am H b (M.c3 f)∧nx'=nx'') ?_ ?_
 ·have zz:=aI @t0 (aI @t2 (aI @t3 (aI @t4 (aI @t10 @t11))));repeat' (first|refine zW ?_|apply a_n|refine zO ?_|refine vZ ?_|(refine zGZ ?_ ?_<;>(intro _hg;try (exfalso;omega)))|fail)
  all_goals exact⟨(have zz:=@t0;evZ),(have zz:=@t2;evZ),(have zz:=@t3;evZ),(have zz:=@t4;evZ),(have zz:=@t10;evZ),(have zz:=@t11;evZ),rfl,rfl⟩
 clear t0 t2 t3 t4 t10 t11;rintro T _ _ ⟨t0,t2,t3,t4,t10,t11,rfl,rfl⟩;refine aQ (fun T H'' nx''=>T 0=.msl b (n*3) 3 0 n∧T 2=.int .i64 hi∧T 3=.int .i64 a∧T 4=.func g caps∧T 10=.int .i64 (root:Nat)∧T 11=.int .i64 (c:Nat)∧H''=am H b (M.c3 f)∧nx'=nx'') ?_ ?_
 ·by_cases h2:2*root+1+1<hi
  ·have lc1:=hc.run (M.getD (a+(2*root+1)) default) (M.getD (a+(2*root+1+1)) default) (hGM _ (an (by omega))) (hGM _ (an (by omega)));have e3:=hc.dat (M.getD (a+(2*root+1)) default);have e4:=hc.dat (M.getD (a+(2*root+1+1)) default);generalize hK1:K (M.getD (a+(2*root+1)) default) (M.getD (a+(2*root+1+1)) default)=k1 at lc1 hsel;have hlt:decide (((2*root+1+1:Nat):Int)<(hi:Int))=true:=cA (by omega);generalize 2*root+1=ch at *;rcases hsel with⟨rfl,hk1⟩|⟨rfl,hk1⟩
   ·have zz:=aI @t0 (aI @t2 (aI @t3 (aI @t4 (aI @t10 (aI @t11 (aI @tch2 (aI @hlt (aI @cz (aI @f8 (aI (rdC hc.len) (aI (br hc.len) (aI @bB (aI hc.agg hc.ones)))))))))))));repeat' (first|refine zW ?_|refine zM ?_|apply a_n|refine zO ?_|refine vZ ?_|refine cZ ?_ (hp:=lc1) (hs:=by(first|refine ak ?_ rfl|apply au);(repeat' (first|exact ai|apply aD|apply aw|exact e3|exact e4|exact av dcap));first|done|fail)|refine gTZ ?_|(refine zGZ ?_ ?_<;>(intro _hg;try (exfalso;omega)))|fail)
    all_goals exact⟨(have zz:=@t0;evZ),(have zz:=@t2;evZ),(have zz:=@t3;evZ),(have zz:=@t4;evZ),(have zz:=@t10;evZ),(have zz:=@t11;evZ),rfl,rfl⟩
   ·have hk1:=hk1 h2;have zz:=aI @t0 (aI @t2 (aI @t3 (aI @t4 (aI @t10 (aI @t11 (aI @tch2 (aI @hlt (aI @cz (aI @f8 (aI (rdC hc.len) (aI (br hc.len) (aI @bB (aI hc.agg hc.ones)))))))))))));repeat' (first|refine zW ?_|refine zM ?_|apply a_n|refine zO ?_|refine vZ ?_|refine cZ ?_ (hp:=lc1) (hs:=by(first|refine ak ?_ rfl|apply au);(repeat' (first|exact ai|apply aD|apply aw|exact e3|exact e4|exact av dcap));first|done|fail)|refine gTZ ?_|(refine zGZ ?_ ?_<;>(intro _hg;try (exfalso;omega)))|fail)
    all_goals exact⟨(have zz:=@t0;evZ),(have zz:=@t2;evZ),(have zz:=@t3;evZ),(have zz:=@t4;evZ),(have zz:=@t10;evZ),(have zz:=@t11;evZ),rfl,rfl⟩
  ·have hlt:decide (((2*root+1+1:Nat):Int)<(hi:Int))=false:=dN (by omega)
   have hcc:c=2*root+1:=by
    rcases hsel with⟨rfl,_⟩|⟨rfl,_⟩
    ·omega
    ·rfl
   subst hcc;have zz:=aI @t0 (aI @t2 (aI @t3 (aI @t4 (aI @t10 (aI @t11 (aI @tch2 @hlt))))));repeat' (first|refine zW ?_|refine zM ?_|apply a_n|refine zO ?_|refine vZ ?_|refine gFZ ?_|refine cFZ ?_|fail)
   all_goals exact⟨(have zz:=@t0;evZ),(have zz:=@t2;evZ),(have zz:=@t3;evZ),(have zz:=@t4;evZ),(have zz:=@t10;evZ),(have zz:=@t11;evZ),rfl,rfl⟩
 clear t0 t2 t3 t4 t10 t11 hsel;rintro T _ _ ⟨t0,t2,t3,t4,t10,t11,rfl,rfl⟩;by_cases hk2:k2<0
 ·obtain⟨M1,hl1,lm1,lm2,c1,c2,c3,c4⟩:=cl (f:=f) hc.len (M:=M) (i:=a+root) (j:=a+c) (by omega) (by omega);have lm3:=lm2;simp only[bv] at lm1 lm2;have zz:=aI @t0 (aI @t2 (aI @t3 (aI @t4 (aI @t10 (aI @t11 (aI @cz (aI @lm1 (aI @lm2 (aI (rdC hc.len) (aI (br hc.len) (aI @bB (aI hc.agg hc.ones))))))))))));repeat' (first|refine zW ?_|refine zM ?_|apply a_n|refine zO ?_|refine vZ ?_|refine cZ ?_ (hp:=lc2) (hs:=by(first|refine ak ?_ rfl|apply au);(repeat' (first|exact ai|apply aD|apply aw|exact e1|exact e2|exact av dcap));first|done|fail)|refine stZ ?_|(refine zGZ ?_ ?_<;>(intro _hg;try (exfalso;omega)))|fail)
  have hrc:root<c:=by unfold Kid at hkid;omega
  have hcn:c<n:=by omega
  refine⟨(c,swp M (a+root) (a+c)),by dsimp only;omega,⟨by dsimp only;omega,?_,rfl,hp.trans (PermR.swap (by omega) (by omega) (by omega)),hs.step hc.ord hkid hchi (by omega) hbest (by rw[hK2];exact hk2)⟩,(have zz:=aI @t0 (aI @t2 (aI @t3 @t4));agZ)⟩;dsimp only;rw[ao,ao,lm3]
 ·have zz:=aI @t0 (aI @t2 (aI @t3 (aI @t4 (aI @t10 (aI @t11 (aI @cz (aI (rdC hc.len) (aI (br hc.len) (aI @bB (aI hc.agg hc.ones))))))))));repeat' (first|refine zW ?_|refine zM ?_|apply a_n|apply a_r|refine zO ?_|refine vZ ?_|refine cZ ?_ (hp:=lc2) (hs:=by(first|refine ak ?_ rfl|apply au);(repeat' (first|exact ai|apply aD|apply aw|exact e1|exact e2|exact av dcap));first|done|fail)|(refine zGZ ?_ ?_<;>(intro _hg;try (exfalso;omega)))|refine ae rfl ?_|fail)
  exact⟨rfl,M,rfl,hp,hs.stop hc.ord hbest (by rw[hK2];exact hk2)⟩
end
end Go.Proofs.YtcbkggfipdldaaaGreat
namespace Go.Proofs.YtcbkggfipdldaaaGreat
open Go Go.Abs
open Nat (reduceEqDiff reduceAdd reduceLeDiff)
section
variable{α:Type}[Inhabited α]{f:α→AV}{K:α→α→Int}{G:α→Prop}{g:Nat}{caps:List AV}
attribute [local irreducible] aG al bh a7 aV aU aB aX a9 bt Go.Abs.Fn aZ Go.Abs.Pure ax aO Yl
theorem A7(hc:Cmp3 Tryz.prog f K G g caps){L:List α}{H:Hp}{b nx n a e:Nat}(hH:H b=some (L.c3 f))(hn:L.length=n)(hG:∀x∈L,G x)(hae:a≤e)(hen:e≤n)(hn2:n≤1000000000):
    Abs.Fn Tryz.prog 87 [.msl b (n*3) 3 0 n,.int .i64 a,.int .i64 e,.func g caps] H nx fun r H' nx'=>nx'=nx∧∃L',H'=am H b (L'.c3 f)∧PermR a e L L'∧aW K a e L':=by
 obtain⟨h,rfl⟩:∃h,e=a+h:=⟨e-a,by omega⟩
 refine fO DB ?_;simp only[b87,ay];have dcap:=hc.dcaps;have te:((a+h:Nat):Int)-(a:Int)=(h:Int):=by omega
 obtain⟨r,tr,hr,hrn⟩:∃r:Nat,bb .quo false false (.int .i64 ((h:Int)-1)) (.int .i64 2)=some (.int .i64 (r:Int))∧h≤2*(r+1)+1∧r≤h:=by
  rcases mS h with e|e
  ·subst e;exact⟨0,rfl,by omega,by omega⟩
  ·refine⟨(h-1)/2,?_,by omega,by omega⟩;rw[gd (by omega) (by omega) (by omega)]
   congr 2
   omega
 have zz:=aI @te @tr;repeat' (first|refine zW ?_|apply a_n|refine zO ?_|refine vZ ?_|fail)
 refine bo (X:=Nat×List α) (fun x=>[(0,.msl b (n*3) 3 0 n),(1,.int .i64 a),(3,.func g caps),(8,.int .i64 a),(9,.int .i64 0),(10,.int .i64 h),(11,.int .i64 ((x.1:Nat)-1))]) (fun x H' nxx=>x.1≤n+1∧H'=am H b (x.2.c3 f)∧nx=nxx∧PermR a (a+h) L x.2∧ed K a h x.1 x.2) (fun x=>x.1) (r+1,L) ⟨by dsimp only;omega,eh hH,rfl,.refl,ed.start (by dsimp only;omega)⟩ (by simp (disch:=omega) only[agr,ZG,reduceEqDiff,↓reduceIte,Int.add_sub_cancel]) ?_;rintro⟨i,M⟩ H' nxx ⟨h1,rfl,rfl,hp,hh⟩;dsimp only at *;have hl:M.length=n:=by rw[hp.len,hn]
 have hGM:=hp.mem hG;rcases mS i with e|e
 ·subst e
  repeat' (first|refine zW ?_|apply a_n|apply a_x|refine zO ?_|refine vZ ?_|(refine zGZ ?_ ?_<;>(intro _hg;try (exfalso;omega)))|fail)
  clear zz;clear hGM;refine bo (X:=Nat×List α) (fun x=>[(0,.msl b (n*3) 3 0 n),(3,.func g caps),(8,.int .i64 a),(9,.int .i64 0),(12,.int .i64 ((x.1:Nat)-1))]) (fun x H' nxx'=>x.1≤h∧H'=am H b (x.2.c3 f)∧nx=nxx'∧PermR a (a+h) L x.2∧ed K a x.1 0 x.2∧TailR K a (a+h) (a+x.1) x.2) (fun x=>x.1) (h,M) ⟨aM _,rfl,rfl,hp,hh,.start⟩ (by simp (disch:=omega) only[agr,ZG,reduceEqDiff,↓reduceIte,Int.add_sub_cancel]) ?_;clear hp hh hl;rintro⟨i,M⟩ H' nxx ⟨h1,rfl,rfl,hp,hh,ht⟩;dsimp only at *;have hl:M.length=n:=by rw[hp.len,hn]
  have hGM:=hp.mem hG;rcases mS i with e|e
  ·subst e
   repeat' (first|refine zW ?_|apply a_n|apply a_x|refine zO ?_|refine vZ ?_|(refine zGZ ?_ ?_<;>(intro _hg;try (exfalso;omega)))|refine ae rfl ?_|fail)
   exact⟨rfl,M,rfl,hp,ht.done⟩
  ·obtain⟨k,rfl⟩:∃k,i=k+1:=⟨i-1,by omega⟩
   have tj:((k+1:Nat):Int)-1=(k:Int):=by omega
   obtain⟨M1,hl1,lm1,lm2,c1,c2,c3,c4⟩:=cl (f:=f) hc.len (M:=M) (i:=a) (j:=a+k) (by omega) (by omega);have lm3:=lm2;simp only[bv] at lm1 lm2;have hp1:PermR a (a+h) L (swp M a (a+k)):=hp.trans (PermR.swap (by omega) (by omega) (by omega));have hsl:(swp M a (a+k)).length=n:=by rw[hp1.len,hn]
   have zz:=aI @tj (aI @cz (aI @lm1 (aI @lm2 (aI (rdC hc.len) (aI (br hc.len) (aI @bB (aI hc.agg hc.ones)))))));repeat' (first|refine zW ?_|apply a_n|refine zO ?_|refine vZ ?_|refine stZ ?_|(refine zGZ ?_ ?_<;>(intro _hg;try (exfalso;omega)))|fail)
   refine aJ ev0 (have zz:=aI @tj @Int.natCast_zero;evZ) (w9 hc (b:=b) (L:=swp M a (a+k)) (a:=a) (lo:=0) (hi:=k) (by rw[ao,ao,aj,←lm3]) hsl (hp1.mem hG) (by omega) (by omega) (by omega) (hh.swapTop (by omega))) ?_;rintro _ _ _ ⟨rfl,N,rfl,hpN,hhN⟩;clear zz;have zz:=@tj;repeat' (first|apply a_n|refine zO ?_|refine vZ ?_|fail)
   exact⟨(k,N),by dsimp only;omega,⟨by dsimp only;omega,by dsimp only;rw[ao,ao,ao],rfl,hp1.trans (hpN.mono (aM _) (by omega)),hhN,ht.step hc.ord hh (by omega) (by omega) hpN⟩,ag0⟩
 ·obtain⟨k,rfl⟩:∃k,i=k+1:=⟨i-1,by omega⟩
  have tj:((k+1:Nat):Int)-1=(k:Int):=by omega
  clear zz;have zz:=@tj;repeat' (first|refine zW ?_|apply a_n|refine zO ?_|refine vZ ?_|(refine zGZ ?_ ?_<;>(intro _hg;try (exfalso;omega)))|fail)
  refine aJ ev0 ev0 (w9 hc (L:=M) (a:=a) (lo:=k) (hi:=h) aj hl hGM (by omega) (by omega) (by omega) hh) ?_;rintro _ _ _ ⟨rfl,N,rfl,hpN,hhN⟩;clear zz;have zz:=@tj;repeat' (first|apply a_n|refine zO ?_|refine vZ ?_|fail)
  exact⟨(k,N),by dsimp only;omega,⟨by dsimp only;omega,by dsimp only;rw[ao],rfl,hp.trans hpN,hhN⟩,ag0⟩
end
end Go.Proofs.YtcbkggfipdldaaaGreat
namespace Go.Proofs.YtcbkggfipdldaaaGreat
open Go Go.Abs
section
variable{α:Type}[Inhabited α]{f:α→AV}{K:α→α→Int}{G:α→Prop}{g:Nat}{caps:List AV}
attribute [local irreducible] aG al bh a7 aV aU aB aX a9 bt Go.Abs.Fn aZ Go.Abs.Pure ax aO Yl
theorem Ca(hc:Cmp3 Tryz.prog f K G g caps){L:List α}{H:Hp}{b nx n a e:Nat}(hH:H b=some (L.c3 f))(hn:L.length=n)(hae:a<e)(hen:e≤n)(hn2:n≤1000000000):
    Abs.Fn Tryz.prog 90 [.msl b (n*3) 3 0 n,.int .i64 a,.int .i64 e,.func g caps] H nx fun r H' nx'=>nx'=nx∧∃L',H'=am H b (L'.c3 f)∧PermR a e L L':=by
 obtain⟨m,rfl⟩:∃m,e=m+1:=⟨e-1,by omega⟩
 have te:((m+1:Nat):Int)-1=(m:Int):=by omega
 refine fO DP ?_;simp only[b90,ay];have zz:=@te;repeat' (first|refine zW ?_|apply a_n|refine zO ?_|refine vZ ?_|fail)
 refine bo (X:=Nat×Nat×List α) (fun x=>[(0,.msl b (n*3) 3 0 n),(8,.int .i64 (x.1:Nat)),(9,.int .i64 (x.2.1:Nat))]) (fun x H' nxx=>a≤x.1∧x.2.1≤m∧H'=am H b (x.2.2.c3 f)∧nx=nxx∧PermR a (m+1) L x.2.2) (fun x=>x.2.1) (a,m,L) ⟨aM _,aM _,eh hH,rfl,.refl⟩ ag0 ?_;rintro⟨i,j,M⟩ H' nxx ⟨h1,h2,rfl,rfl,hp⟩;dsimp only at *;have hl:M.length=n:=by rw[hp.len,hn]
 by_cases hij:i<j
 ·obtain⟨k,rfl⟩:∃k,j=k+1:=⟨j-1,by omega⟩
  have tj:((k+1:Nat):Int)-1=(k:Int):=by omega
  have ti:((i:Nat):Int)+1=((i+1:Nat):Int):=by omega
  obtain⟨M1,hl1,lm1,lm2,c1,c2,c3,c4⟩:=cl (f:=f) hc.len (M:=M) (i:=i) (j:=k+1) (by omega) (by omega);have lm3:=lm2;simp only[bv] at lm1 lm2;clear zz;have zz:=aI @tj (aI @ti (aI @lm1 (aI @lm2 (aI (rdC hc.len) (aI (br hc.len) (aI @bB (aI hc.agg hc.ones)))))));repeat' (first|refine zW ?_|apply a_n|refine zO ?_|refine vZ ?_|refine stZ ?_|(refine zGZ ?_ ?_<;>(intro _hg;try (exfalso;omega)))|fail)
  exact⟨(i+1,k,swp M i (k+1)),by dsimp only;omega,⟨by dsimp only;omega,by dsimp only;omega,by dsimp only;rw[ao,ao,lm3],rfl,hp.trans (PermR.swap (by omega) (by omega) (by omega))⟩,ag0⟩
 ·repeat' (first|refine zW ?_|apply a_n|apply a_x|refine zO ?_|refine vZ ?_|(refine zGZ ?_ ?_<;>(intro _hg;try (exfalso;omega)))|refine ae rfl ?_|fail)
  exact⟨rfl,M,rfl,hp⟩
theorem nV(hc:Cmp3 Tryz.prog f K G g caps){L:List α}{H:Hp}{b c nx n i j s:Nat}(hH:H b=some (L.c3 f))(hcc:H c=some [.int .i64 (s:Nat)])(hn:L.length=n)(hG:∀x∈L,G x)(hi:i<n)(hj:j<n)(hn2:n≤1000000000)(hs:s≤100):
    Abs.Fn Tryz.prog 130 [.msl b (n*3) 3 0 n,.int .i64 i,.int .i64 j,.ptr c 1 0,.func g caps] H nx fun r H' nx'=>nx'=nx∧∃i' j' s':Nat,r=.tup [.int .i64 i',.int .i64 j']∧((i'=i∧j'=j)∨(i'=j∧j'=i))∧s'≤s+1∧H'=am H c [.int .i64 s']:=by
 refine fO Cm ?_;simp only[BE,ay];have dcap:=hc.dcaps;have lc:=hc.run (L.getD j default) (L.getD i default) (hG _ (an (by omega))) (hG _ (an (by omega)));have e1:=hc.dat (L.getD j default);have e2:=hc.dat (L.getD i default);have ts:((s:Nat):Int)+1=((s+1:Nat):Int):=by omega
 have ls:∀x y:AV,bv [x] 0 [y]=[y]:=fun _ _=>rfl;simp only[bv,de,dF,bQ] at ls;generalize hKK:K (L.getD j default) (L.getD i default)=kk at lc;by_cases hlt:kk<0
 ·have zz:=aI @hH (aI @hcc (aI @bD (aI (rdC hc.len) (aI (br hc.len) (aI @bB (aI hc.agg (aI hc.ones (aI @ts (aI @ls @SV3)))))))));repeat' (first|refine zW ?_|refine zM ?_|apply a_n|apply a_r|refine zO ?_|refine vZ ?_|refine cZ ?_ (hp:=lc) (hs:=by(first|refine ak ?_ rfl|apply au);(repeat' (first|exact ai|apply aD|apply aw|exact e1|exact e2|exact av dcap));first|done|fail)|refine stZ ?_|(refine zGZ ?_ ?_<;>(intro _hg;try (exfalso;omega)))|refine ae rfl ?_|refine r2Z ?_|fail)
  exact⟨rfl,j,i,s+1,rfl,.inr ⟨rfl,rfl⟩,aM _,rfl⟩
 ·have zz:=aI @hH (aI @hcc (aI @bD (aI (rdC hc.len) (aI (br hc.len) (aI @bB (aI hc.agg hc.ones))))));repeat' (first|refine zW ?_|refine zM ?_|apply a_n|refine zO ?_|refine vZ ?_|refine cZ ?_ (hp:=lc) (hs:=by(first|refine ak ?_ rfl|apply au);(repeat' (first|exact ai|apply aD|apply aw|exact e1|exact e2|exact av dcap));first|done|fail)|(refine zGZ ?_ ?_<;>(intro _hg;try (exfalso;omega)))|refine ae rfl ?_|refine r2Z ?_|fail)
  exact⟨rfl,i,j,s,rfl,.inl ⟨rfl,rfl⟩,Nat.le_succ _,eh hcc⟩
end
end Go.Proofs.YtcbkggfipdldaaaGreat
namespace Go.Proofs.YtcbkggfipdldaaaGreat
open Go Go.Abs
section
variable{α:Type}[Inhabited α]{f:α→AV}{K:α→α→Int}{G:α→Prop}{g:Nat}{caps:List AV}
attribute [local irreducible] aG al bh a7 aV aU aB aX a9 bt Go.Abs.Fn aZ Go.Abs.Pure ax aO Yl
theorem ot(hc:Cmp3 Tryz.prog f K G g caps){L:List α}{H:Hp}{b c nx n i j k s lo hi:Nat}(hH:H b=some (L.c3 f))(hbc:b≠c)(hcc:H c=some [.int .i64 (s:Nat)])(hn:L.length=n)(hG:∀x∈L,G x)(hi1:lo≤i∧i<hi)(hj1:lo≤j∧j<hi)(hk1:lo≤k∧k<hi)(hhi:hi≤n)(hn2:n≤1000000000)(hs:s≤50):
    Abs.Fn Tryz.prog 121 [.msl b (n*3) 3 0 n,.int .i64 i,.int .i64 j,.int .i64 k,.ptr c 1 0,.func g caps] H nx fun r H' nx'=>nx'=nx∧∃p s':Nat,r=.int .i64 p∧lo≤p∧p<hi∧s'≤s+3∧H'=am H c [.int .i64 s']:=by
 refine fO CD ?_;simp only[BX,ay]
 repeat' (first|refine zW ?_|apply a_n|refine zO ?_|refine vZ ?_|fail)
 refine aJ ev0 ev0 (nV hc (b:=b) hH hcc hn hG (i:=i) (j:=j) (by omega) (by omega) hn2 (by omega)) ?_;rintro _ _ _ ⟨rfl,i1,j1,s1,rfl,h1,hs1,rfl⟩
 repeat' (first|refine zW ?_|apply a_n|refine zO ?_|refine vZ ?_|fail)
 refine aJ ev0 ev0 (nV hc (b:=b) (by rw[af hbc];exact hH) aj hn hG (i:=j1) (j:=k) (by omega) (by omega) hn2 (by omega)) ?_;rintro _ _ _ ⟨rfl,j2,k2,s2,rfl,h2,hs2,rfl⟩
 repeat' (first|refine zW ?_|apply a_n|refine zO ?_|refine vZ ?_|fail)
 refine aJ ev0 ev0 (nV hc (b:=b) (by rw[ao,af hbc];exact hH) aj hn hG (i:=i1) (j:=j2) (by omega) (by omega) hn2 (by omega)) ?_;rintro _ _ _ ⟨rfl,i3,j3,s3,rfl,h3,hs3,rfl⟩
 repeat' (first|refine zW ?_|apply a_n|refine zO ?_|refine vZ ?_|refine ae rfl ?_|refine r1Z ?_|fail)
 exact⟨rfl,j3,s3,rfl,by omega,by omega,by omega,by rw[ao,ao]⟩
theorem nu(hc:Cmp3 Tryz.prog f K G g caps){L:List α}{H:Hp}{b c nx n i s lo hi:Nat}(hH:H b=some (L.c3 f))(hbc:b≠c)(hcc:H c=some [.int .i64 (s:Nat)])(hn:L.length=n)(hG:∀x∈L,G x)(hi1:lo+1≤i∧i+1<hi)(hhi:hi≤n)(hn2:n≤1000000000)(hs:s≤50):
    Abs.Fn Tryz.prog 120 [.msl b (n*3) 3 0 n,.int .i64 i,.ptr c 1 0,.func g caps] H nx fun r H' nx'=>nx'=nx∧∃p s':Nat,r=.int .i64 p∧lo≤p∧p<hi∧s'≤s+3∧H'=am H c [.int .i64 s']:=by
 obtain⟨m,rfl⟩:∃m,i=m+1:=⟨i-1,by omega⟩
 have t1:((m+1:Nat):Int)-1=(m:Int):=by omega
 have t2:((m+1:Nat):Int)+1=((m+1+1:Nat):Int):=by omega
 refine fO A8 ?_;simp only[Cx,ay];have zz:=aI @t1 @t2;repeat' (first|refine zW ?_|apply a_n|refine zO ?_|refine vZ ?_|fail)
 refine aJ ev0 ev0 (ot hc (b:=b) hH hbc hcc hn hG (i:=m) (j:=m+1) (k:=m+1+1) (lo:=lo) (hi:=hi) (by omega) (by omega) (by omega) hhi hn2 hs) ?_;rintro _ _ _ ⟨rfl,p,s1,rfl,h1,h2,hs1,rfl⟩
 repeat' (first|apply a_n|refine zO ?_|refine vZ ?_|refine ae rfl ?_|refine r1Z ?_|fail)
 exact⟨rfl,p,s1,rfl,h1,h2,hs1,rfl⟩
theorem xx(hc:Cmp3 Tryz.prog f K G g caps){L:List α}{H:Hp}{b nx n a e:Nat}(hH:H b=some (L.c3 f))(hbx:b<nx)(hn:L.length=n)(hG:∀x∈L,G x)(hae:a+8≤e)(hen:e≤n)(hn2:n≤1000000000):
    Abs.Fn Tryz.prog 89 [.msl b (n*3) 3 0 n,.int .i64 a,.int .i64 e,.func g caps] H nx fun r H' nx'=>nx'=nx+1∧∃(p:Nat)(hint:Int)(v:List AV),r=.tup [.int .i64 p,.int .i64 hint]∧a≤p∧p<e∧H'=am H nx v:=by
 obtain⟨l,rfl⟩:∃l,e=a+l:=⟨e-a,by omega⟩
 have te:((a+l:Nat):Int)-(a:Int)=(l:Int):=by omega
 obtain⟨q,hq⟩:∃q,l/4=q:=⟨_,rfl⟩
 have tq:bb .quo false false (.int .i64 (l:Int)) (.int .i64 4)=some (.int .i64 (q:Int)):=by
  rw[gd (by omega) (by omega) (by omega)]
  congr 2
  omega
 have w1:(a:Int)+(q:Int)*1=((a+q:Nat):Int):=by omega
 have w2:(a:Int)+(q:Int)*2=((a+q*2:Nat):Int):=by omega
 have w3:(a:Int)+(q:Int)*3=((a+q*3:Nat):Int):=by omega
 have hbn:b≠nx:=by omega
 refine fO DC ?_;simp only[b89,ay];have last:∀(s:Nat)(H1:Hp),H1=am (am H nx [.int .i64 0]) nx [.int .i64 s]→H1 nx=some [.int .i64 (s:Nat)]:=fun s H1 h=>by rw[h];exact aj
 have hHn:∀v,am H nx v b=some (L.c3 f):=fun v=>by rw[af hbn];exact hH
 by_cases h50:50≤l
 ·have zz:=aI @te (aI @tq (aI @w1 (aI @w2 @w3)));repeat' (first|refine zW ?_|apply a_n|refine zO ?_|refine vZ ?_|refine alZ ?_|(refine zGZ ?_ ?_<;>(intro _hg;try (exfalso;omega)))|fail)
  refine aJ ev0 ev0 (nu hc (b:=b) (c:=nx) (s:=0) (i:=a+q) (lo:=a) (hi:=a+l) (hHn _) hbn aj hn hG (by omega) (by omega) hn2 (by omega)) ?_;rintro _ _ _ ⟨rfl,p1,s1,rfl,k1,k2,hs1,rfl⟩;rw[ao]
  repeat' (first|refine zW ?_|apply a_n|refine zO ?_|refine vZ ?_|fail)
  refine aJ ev0 ev0 (nu hc (b:=b) (c:=nx) (s:=s1) (i:=a+q*2) (lo:=a) (hi:=a+l) (hHn _) hbn aj hn hG (by omega) (by omega) hn2 (by omega)) ?_;rintro _ _ _ ⟨rfl,p2,s2,rfl,k3,k4,hs2,rfl⟩;rw[ao]
  repeat' (first|apply a_n|refine zO ?_|refine vZ ?_|fail)
  refine aJ ev0 ev0 (nu hc (b:=b) (c:=nx) (s:=s2) (i:=a+q*3) (lo:=a) (hi:=a+l) (hHn _) hbn aj hn hG (by omega) (by omega) hn2 (by omega)) ?_;rintro _ _ _ ⟨rfl,p3,s3,rfl,k5,k6,hs3,rfl⟩;rw[ao]
  repeat' (first|apply a_n|refine zO ?_|refine vZ ?_|fail)
  refine aJ ev0 ev0 (ot hc (b:=b) (c:=nx) (s:=s3) (i:=p1) (j:=p2) (k:=p3) (lo:=a) (hi:=a+l) (hHn _) hbn aj hn hG (by omega) (by omega) (by omega) (by omega) hn2 (by omega)) ?_;rintro _ _ _ ⟨rfl,p4,s4,rfl,k7,k8,hs4,rfl⟩;rw[ao]
  repeat' (first|refine zW ?_|apply a_n|refine zO ?_|refine vZ ?_|(refine zGZ ?_ ?_<;>(intro _hg;try (exfalso;omega)))|refine ae rfl ?_|refine r2Z ?_|fail)
  all_goals exact⟨rfl,p4,_,_,rfl,by omega,by omega,rfl⟩
 ·have zz:=aI @te (aI @tq (aI @w1 (aI @w2 @w3)));repeat' (first|refine zW ?_|apply a_n|refine zO ?_|refine vZ ?_|refine alZ ?_|(refine zGZ ?_ ?_<;>(intro _hg;try (exfalso;omega)))|fail)
  refine aJ ev0 ev0 (ot hc (b:=b) (c:=nx) (s:=0) (i:=a+q) (j:=a+q*2) (k:=a+q*3) (lo:=a) (hi:=a+l) (hHn _) hbn aj hn hG (by omega) (by omega) (by omega) (by omega) hn2 (by omega)) ?_;rintro _ _ _ ⟨rfl,p4,s4,rfl,k7,k8,hs4,rfl⟩;rw[ao]
  repeat' (first|refine zW ?_|apply a_n|refine zO ?_|refine vZ ?_|(refine zGZ ?_ ?_<;>(intro _hg;try (exfalso;omega)))|refine ae rfl ?_|refine r2Z ?_|fail)
  all_goals exact⟨rfl,p4,_,_,rfl,by omega,by omega,rfl⟩
end
end Go.Proofs.YtcbkggfipdldaaaGreat
namespace Go.Proofs.YtcbkggfipdldaaaGreat
open Go Go.Abs
section
variable{α:Type}[Inhabited α]{f:α→AV}{K:α→α→Int}{G:α→Prop}{g:Nat}{caps:List AV}
attribute [local irreducible] aG al bh a7 aV aU aB aX a9 bt Go.Abs.Fn aZ Go.Abs.Pure ax aO Yl
set_option maxHeartbeats 1000000 in
theorem wC(hc:Cmp3 Tryz.prog f K G g caps){L:List α}{H:Hp}{b nx n a e:Nat}(hH:H b=some (L.c3 f))(hn:L.length=n)(hG:∀x∈L,G x)(hae:a<e)(hen:e≤n)(hn2:n≤1000000000)(hlow:mD K a e L):
    Abs.Fn Tryz.prog 91 [.msl b (n*3) 3 0 n,.int .i64 a,.int .i64 e,.func g caps] H nx fun r H' nx'=>nx'=nx∧∃L' t,r=.bool t∧H'=am H b (L'.c3 f)∧PermR a e L L'∧(t=true→aW K a e L'):=by
 have dcap:=hc.dcaps;refine fO DS ?_;simp only[b91,ay]
 repeat' (first|refine zW ?_|apply a_n|refine zO ?_|refine vZ ?_|fail)
 refine bo (X:=Nat×Nat×List α) (fun x=>[(0,.msl b (n*3) 3 0 n),(1,.int .i64 a),(2,.int .i64 e),(3,.func g caps),(9,.int .i64 (x.2.1:Nat)),(10,.int .i64 (x.1:Nat))]) (fun x H' nxx=>x.1≤5∧a+1≤x.2.1∧x.2.1≤e∧H'=am H b (x.2.2.c3 f)∧nx=nxx∧PermR a e L x.2.2∧aW K a x.2.1 x.2.2) (fun x=>5-x.1) (0,a+1,L) ⟨by dsimp only;omega,aM _,hae,eh hH,rfl,.refl,aW.one (aM _)⟩ ag0 ?_;rintro⟨jj,i0,M0⟩ H' nxx ⟨h1,h2,h3,rfl,rfl,hp0,hs0⟩;dsimp only at *;by_cases h5:jj=5
 ·subst h5
  repeat' (first|refine zW ?_|apply a_n|apply a_x|refine zO ?_|refine vZ ?_|(refine zGZ ?_ ?_<;>(intro _hg;try (exfalso;omega)))|refine ae rfl ?_|refine r1Z ?_|fail)
  exact⟨rfl,M0,false,rfl,rfl,hp0,fun h=>absurd h (by decide)⟩
 have hl:M0.length=n:=by rw[hp0.len,hn]
 have hGM:=hp0.mem hG;refine aQ (fun T H'' nx''=>T 0=.msl b (n*3) 3 0 n∧T 1=.int .i64 a∧T 2=.int .i64 e∧T 3=.func g caps∧T 9=.int .i64 (i0:Nat)∧T 10=.int .i64 (jj:Nat)∧H''=am H b ((M0).c3 f)∧nx=nx'') ?_ ?_
 ·repeat' (first|refine zW ?_|apply a_n|refine zO ?_|refine vZ ?_|(refine zGZ ?_ ?_<;>(intro _hg;try (exfalso;omega)))|fail)
  exact⟨rfl,rfl,rfl,rfl,rfl,rfl,rfl,rfl⟩
 rintro T _ _ ⟨t0,t1,t2,t3,t9,t10,rfl,rfl⟩;refine aQ (fun T H'' nx''=>∃(i:Nat)(M:List α),a+1≤i∧i≤e∧PermR a e L M∧aW K a i M∧T 0=.msl b (n*3) 3 0 n∧T 1=.int .i64 a∧T 2=.int .i64 e∧T 3=.func g caps∧T 9=.int .i64 (i:Nat)∧T 10=.int .i64 (jj:Nat)∧H''=am H b ((M).c3 f)∧nx=nx'') ?_ ?_
 rotate_left
 ·clear t0 t1 t2 t3 t9 t10;rintro T _ _ ⟨i,M,k1,k2,hp,hs,t0,t1,t2,t3,t9,t10,rfl,rfl⟩;have zz:=aI @t0 (aI @t1 (aI @t2 (aI @t3 (aI @t9 @t10))));repeat' (first|apply a_n|refine zO ?_|refine vZ ?_|fail)
  exact⟨(jj+1,i,M),by dsimp only;omega,⟨by dsimp only;omega,k1,k2,rfl,rfl,hp,hs⟩,(have zz:=aI @t0 (aI @t1 (aI @t2 (aI @t3 (aI @t9 @t10))));agZ)⟩
 refine dg ?_;refine aQ (fun T H'' nx''=>∃(i:Nat),a+1≤i∧i≤e∧aW K a i M0∧(i<e→K (M0.getD i default) (M0.getD (i-1) default)<0)∧T 0=.msl b (n*3) 3 0 n∧T 1=.int .i64 a∧T 2=.int .i64 e∧T 3=.func g caps∧T 9=.int .i64 (i:Nat)∧T 10=.int .i64 (jj:Nat)∧H''=am H b ((M0).c3 f)∧nx=nx'') ?_ ?_
 ·have zz:=aI @t0 (aI @t1 (aI @t2 (aI @t3 (aI @t9 @t10))));repeat' (first|refine zW ?_|apply a_n|refine zO ?_|fail)
  refine bo (X:=Nat) (fun i=>[(0,.msl b (n*3) 3 0 n),(1,.int .i64 a),(2,.int .i64 e),(3,.func g caps),(9,.int .i64 (i:Nat)),(10,.int .i64 (jj:Nat))]) (fun i H' nxx=>a+1≤i∧i≤e∧H'=am H b (M0.c3 f)∧nx=nxx∧aW K a i M0) (fun i=>e-i) i0 ⟨h2,h3,rfl,rfl,hs0⟩ (have zz:=aI @t0 (aI @t1 (aI @t2 (aI @t3 (aI @t9 @t10))));agZ) ?_;clear zz;clear hs0 h2 h3;rintro i H' nxx ⟨h2,h3,rfl,rfl,hs⟩;by_cases hie:i=e
  ·subst hie
   repeat' (first|refine zW ?_|refine zM ?_|apply a_n|apply a_x|refine zO ?_|refine vZ ?_|refine gFZ ?_|(refine zGZ ?_ ?_<;>(intro _hg;try (exfalso;omega)))|refine cFZ ?_|fail)
   exact⟨i,h2,h3,hs,fun h=>absurd h (Nat.lt_irrefl _),rfl,rfl,rfl,rfl,rfl,rfl,rfl,rfl⟩
  obtain⟨m,rfl⟩:∃m,i=m+1:=⟨i-1,by omega⟩
  have tj:((m+1:Nat):Int)-1=(m:Int):=by omega
  have lc:=hc.run (M0.getD (m+1) default) (M0.getD m default) (hGM _ (an (by omega))) (hGM _ (an (by omega)));have e1:=hc.dat (M0.getD (m+1) default);have e2:=hc.dat (M0.getD m default);generalize hKK:K (M0.getD (m+1) default) (M0.getD m default)=kk at lc;by_cases hlt:kk<0
  ·have zz:=aI @tj (aI @bD (aI (rdC hc.len) (aI (br hc.len) (aI @bB (aI hc.agg hc.ones)))));repeat' (first|refine zW ?_|refine zM ?_|apply a_n|apply a_x|refine zO ?_|refine vZ ?_|refine cZ ?_ (hp:=lc) (hs:=by(first|refine ak ?_ rfl|apply au);(repeat' (first|exact ai|apply aD|apply aw|exact e1|exact e2|exact av dcap));first|done|fail)|refine gTZ ?_|(refine zGZ ?_ ?_<;>(intro _hg;try (exfalso;omega)))|fail)
   exact⟨m+1,h2,h3,hs,fun _=>by rw[jE,hKK];exact hlt,rfl,rfl,rfl,rfl,rfl,rfl,rfl,rfl⟩
  ·have zz:=aI @tj (aI @bD (aI (rdC hc.len) (aI (br hc.len) (aI @bB (aI hc.agg hc.ones)))));repeat' (first|refine zW ?_|refine zM ?_|apply a_n|refine zO ?_|refine vZ ?_|refine cZ ?_ (hp:=lc) (hs:=by(first|refine ak ?_ rfl|apply au);(repeat' (first|exact ai|apply aD|apply aw|exact e1|exact e2|exact av dcap));first|done|fail)|refine gTZ ?_|(refine zGZ ?_ ?_<;>(intro _hg;try (exfalso;omega)))|fail)
   exact⟨m+1+1,by omega,⟨by omega,by omega,rfl,rfl,hs.snoc hc.ord (by omega) (by rw[jE,hKK];exact hlt)⟩,ag0⟩
 clear t0 t1 t2 t3 t9 t10 hs0 h2 h3;rintro T _ _ ⟨i,h2,h3,hs,hless,t0,t1,t2,t3,t9,t10,rfl,rfl⟩;by_cases hie:i=e
 ·subst hie;have ten:decide ((i:Int)=(i:Int))=true:=cA rfl;have zz:=aI @t0 (aI @t1 (aI @t2 (aI @t3 (aI @t9 (aI @t10 @ten)))));repeat' (first|refine zW ?_|apply a_n|apply a_r|refine zO ?_|refine vZ ?_|(refine zGZ ?_ ?_<;>(intro _hg;try (exfalso;omega)))|refine ae rfl ?_|refine r1Z ?_|fail)
  exact⟨rfl,M0,true,rfl,rfl,hp0,fun _=>hs⟩
 replace hless:=hless (by omega);have ten:decide ((i:Int)=(e:Int))=false:=dN (by omega);refine aQ (fun T H'' nx''=>T 0=.msl b (n*3) 3 0 n∧T 1=.int .i64 a∧T 2=.int .i64 e∧T 3=.func g caps∧T 9=.int .i64 (i:Nat)∧T 10=.int .i64 (jj:Nat)∧H''=am H b ((M0).c3 f)∧nx=nx'') ?_ ?_
 ·have zz:=aI @t0 (aI @t1 (aI @t2 (aI @t3 (aI @t9 (aI @t10 @ten)))));repeat' (first|refine zW ?_|apply a_n|refine zO ?_|refine vZ ?_|refine cFZ ?_|fail)
  exact⟨(have zz:=@t0;evZ),(have zz:=@t1;evZ),(have zz:=@t2;evZ),(have zz:=@t3;evZ),(have zz:=@t9;evZ),(have zz:=@t10;evZ),rfl,rfl⟩
 clear t0 t1 t2 t3 t9 t10 ten;rintro T _ _ ⟨t0,t1,t2,t3,t9,t10,rfl,rfl⟩;refine aQ (fun T H'' nx''=>T 0=.msl b (n*3) 3 0 n∧T 1=.int .i64 a∧T 2=.int .i64 e∧T 3=.func g caps∧T 9=.int .i64 (i:Nat)∧T 10=.int .i64 (jj:Nat)∧H''=am H b ((M0).c3 f)∧nx=nx'') ?_ ?_
 ·have zz:=aI @t0 (aI @t1 (aI @t2 (aI @t3 (aI @t9 @t10))));repeat' (first|refine zW ?_|apply a_n|apply a_r|refine zO ?_|refine vZ ?_|(refine zGZ ?_ ?_<;>(intro _hg;try (exfalso;omega)))|refine ae rfl ?_|refine r1Z ?_|fail)
  ·exact⟨rfl,M0,false,rfl,rfl,hp0,fun h=>absurd h (by decide)⟩
  ·exact⟨(have zz:=@t0;evZ),(have zz:=@t1;evZ),(have zz:=@t2;evZ),(have zz:=@t3;evZ),(have zz:=@t9;evZ),(have zz:=@t10;evZ),rfl,rfl⟩
 clear t0 t1 t2 t3 t9 t10;rintro T _ _ ⟨t0,t1,t2,t3,t9,t10,rfl,rfl⟩;obtain⟨m,rfl⟩:∃m,i=m+1:=⟨i-1,by omega⟩
 have tj:((m+1:Nat):Int)-1=(m:Int):=by omega
 rw[jE] at hless;obtain⟨M1,hl1,lm1,lm2,c1,c2,c3,c4⟩:=cl (f:=f) hc.len (M:=M0) (i:=m+1) (j:=m) (by omega) (by omega);have lm3:=lm2;simp only[bv] at lm1 lm2;refine aQ (fun T H'' nx''=>T 0=.msl b (n*3) 3 0 n∧T 1=.int .i64 a∧T 2=.int .i64 e∧T 3=.func g caps∧T 9=.int .i64 (m+1:Nat)∧T 10=.int .i64 (jj:Nat)∧H''=am H b ((swp M0 (m+1) m).c3 f)∧nx=nx'') ?_ ?_
 ·have zz:=aI @t0 (aI @t1 (aI @t2 (aI @t3 (aI @t9 (aI @t10 (aI @bD (aI (rdC hc.len) (aI (br hc.len) (aI @bB (aI hc.agg (aI hc.ones (aI @tj (aI @lm1 @lm2)))))))))))));repeat' (first|apply a_n|refine zO ?_|refine vZ ?_|refine stZ ?_|fail)
  exact⟨(have zz:=@t0;evZ),(have zz:=@t1;evZ),(have zz:=@t2;evZ),(have zz:=@t3;evZ),(have zz:=@t9;evZ),(have zz:=@t10;evZ),by rw[ao,ao,lm3],rfl⟩
 clear t0 t1 t2 t3 t9 t10;have hp1:PermR a e L (swp M0 (m+1) m):=hp0.trans (PermR.swap (by omega) (by omega) (by omega));have hal:=(dY.start hs).step hc.ord (by omega) (aM _) (by omega) hless;clear hs hless lm1 lm2 lm3 hl1 c1 c2 c3 c4 M1;generalize swp M0 (m+1) m=M2 at hp1 hal;clear hp0 hGM hl;rintro T _ _ ⟨t0,t1,t2,t3,t9,t10,rfl,rfl⟩;refine aQ (fun T H'' nx''=>∃M:List α,PermR a e L M∧aW K a (m+1) M∧T 0=.msl b (n*3) 3 0 n∧T 1=.int .i64 a∧T 2=.int .i64 e∧T 3=.func g caps∧T 9=.int .i64 (m+1:Nat)∧T 10=.int .i64 (jj:Nat)∧H''=am H b ((M).c3 f)∧nx=nx'') ?_ ?_
 ·by_cases h2a:m=a
  ·subst h2a;have td:decide ((2:Int)≤((m+1:Nat):Int)-(m:Int))=false:=dN (by omega);have zz:=aI @t0 (aI @t1 (aI @t2 (aI @t3 (aI @t9 (aI @t10 @td)))));repeat' (first|refine zW ?_|apply a_n|refine zO ?_|refine vZ ?_|refine cFZ ?_|fail)
   exact⟨M2,hp1,(hal.done hc.ord (.inl rfl)).mono (aM _) (by omega),(have zz:=@t0;evZ),(have zz:=@t1;evZ),(have zz:=@t2;evZ),(have zz:=@t3;evZ),(have zz:=@t9;evZ),(have zz:=@t10;evZ),rfl,rfl⟩
  have td:decide ((2:Int)≤((m+1:Nat):Int)-(a:Int))=true:=cA (by omega);have zz:=aI @t0 (aI @t1 (aI @t2 (aI @t3 (aI @t9 (aI @t10 (aI @td @tj))))));repeat' (first|refine zW ?_|apply a_n|refine zO ?_|refine vZ ?_|refine cTZ ?_|fail)
  refine bo (X:=Nat×List α) (fun x=>[(0,.msl b (n*3) 3 0 n),(1,.int .i64 a),(2,.int .i64 e),(3,.func g caps),(9,.int .i64 (m+1:Nat)),(10,.int .i64 (jj:Nat)),(11,.int .i64 (x.1:Nat))]) (fun x H' nxx=>a≤x.1∧x.1≤m∧H'=am H b (x.2.c3 f)∧nx=nxx∧PermR a e L x.2∧dY K a (m+1) x.1 x.2) (fun x=>x.1) (m,M2) ⟨by dsimp only;omega,aM _,rfl,rfl,hp1,hal⟩ (have zz:=aI @t0 (aI @t1 (aI @t2 (aI @t3 (aI @t9 @t10))));agZ) ?_;clear zz;clear t0 t1 t2 t3 t9 t10 hp1 hal M2;rintro⟨j,M⟩ H' nxx ⟨a1,a2,rfl,rfl,hp,hal⟩;dsimp only at *;have hl:M.length=n:=by rw[hp.len,hn]
  have hGM:=hp.mem hG;rcases mS j with ej|ej
  ·subst ej
   repeat' (first|refine zW ?_|apply a_n|apply a_x|refine zO ?_|refine vZ ?_|(refine zGZ ?_ ?_<;>(intro _hg;try (exfalso;omega)))|fail)
   exact⟨M,hp,(hal.done hc.ord (.inl (by omega))).mono (aM _) (by omega),rfl,rfl,rfl,rfl,rfl,rfl,rfl,rfl⟩
  obtain⟨k,rfl⟩:∃k,j=k+1:=⟨j-1,by omega⟩
  have tk:((k+1:Nat):Int)-1=(k:Int):=by omega
  have lc:=hc.run (M.getD (k+1) default) (M.getD k default) (hGM _ (an (by omega))) (hGM _ (an (by omega)));have e1:=hc.dat (M.getD (k+1) default);have e2:=hc.dat (M.getD k default);have hlw:=hlow.perm hp (by omega) (by omega);generalize hKK:K (M.getD (k+1) default) (M.getD k default)=kk at lc;by_cases hlt:kk<0
  ·have hak:k+1≠a:=fun h=>by
     subst h;have:=hlw (k+1) (by omega) (aM _) (by omega);rw[jE,hKK] at this;exact this hlt
   obtain⟨M1,hl1,lm1,lm2,c1,c2,c3,c4⟩:=cl (f:=f) hc.len (M:=M) (i:=k+1) (j:=k) (by omega) (by omega);have lm3:=lm2;simp only[bv] at lm1 lm2;have zz:=aI @tk (aI @bD (aI (rdC hc.len) (aI (br hc.len) (aI @bB (aI hc.agg (aI hc.ones (aI @lm1 @lm2)))))));repeat' (first|refine zW ?_|refine zM ?_|apply a_n|refine zO ?_|refine vZ ?_|refine cZ ?_ (hp:=lc) (hs:=by(first|refine ak ?_ rfl|apply au);(repeat' (first|exact ai|apply aD|apply aw|exact e1|exact e2|exact av dcap));first|done|fail)|refine stZ ?_|(refine zGZ ?_ ?_<;>(intro _hg;try (exfalso;omega)))|fail)
   exact⟨(k,swp M (k+1) k),by dsimp only;omega,⟨by dsimp only;omega,by dsimp only;omega,by dsimp only;rw[ao,ao,lm3],rfl,hp.trans (PermR.swap (by omega) (by omega) (by omega)),hal.step hc.ord (by omega) (by omega) (by omega) (by rw[hKK];exact hlt)⟩,(have zz:=@tk;agZ)⟩
  ·have hd:k+1=a∨(a<k+1∧¬K (M.getD (k+1) default) (M.getD (k+1-1) default)<0):=by
     by_cases h:k+1=a
     ·exact .inl h
     ·exact .inr ⟨by omega,by rw[jE,hKK];exact hlt⟩
   have zz:=aI @tk (aI @bD (aI (rdC hc.len) (aI (br hc.len) (aI @bB (aI hc.agg hc.ones)))));repeat' (first|refine zW ?_|refine zM ?_|apply a_n|apply a_x|refine zO ?_|refine vZ ?_|refine cZ ?_ (hp:=lc) (hs:=by(first|refine ak ?_ rfl|apply au);(repeat' (first|exact ai|apply aD|apply aw|exact e1|exact e2|exact av dcap));first|done|fail)|(refine zGZ ?_ ?_<;>(intro _hg;try (exfalso;omega)))|fail)
   exact⟨M,hp,(hal.done hc.ord hd).mono (aM _) (by omega),rfl,rfl,rfl,rfl,rfl,rfl,rfl,rfl⟩
 clear t0 t1 t2 t3 t9 t10 hp1 hal M2;rintro T _ _ ⟨M2,hp1,hs,t0,t1,t2,t3,t9,t10,rfl,rfl⟩;by_cases h2a:m+1+2≤e
 rotate_left
 ·have td:decide ((2:Int)≤(e:Int)-((m+1:Nat):Int))=false:=dN (by omega);have zz:=aI @t0 (aI @t1 (aI @t2 (aI @t3 (aI @t9 (aI @t10 @td)))));repeat' (first|refine zW ?_|apply a_n|refine zO ?_|refine vZ ?_|refine cFZ ?_|fail)
  exact⟨m+1,M2,h2,h3,hp1,hs,(have zz:=@t0;evZ),(have zz:=@t1;evZ),(have zz:=@t2;evZ),(have zz:=@t3;evZ),(have zz:=@t9;evZ),(have zz:=@t10;evZ),rfl,rfl⟩
 have td:decide ((2:Int)≤(e:Int)-((m+1:Nat):Int))=true:=cA (by omega);have tj2:((m+1:Nat):Int)+1=((m+1+1:Nat):Int):=by omega
 have zz:=aI @t0 (aI @t1 (aI @t2 (aI @t3 (aI @t9 (aI @t10 (aI @td @tj2))))));repeat' (first|refine zW ?_|apply a_n|refine zO ?_|refine vZ ?_|refine cTZ ?_|fail)
 refine bo (X:=Nat×List α) (fun x=>[(0,.msl b (n*3) 3 0 n),(1,.int .i64 a),(2,.int .i64 e),(3,.func g caps),(9,.int .i64 (m+1:Nat)),(10,.int .i64 (jj:Nat)),(12,.int .i64 (x.1:Nat))]) (fun x H' nxx=>m+1+1≤x.1∧x.1≤e∧H'=am H b (x.2.c3 f)∧nx=nxx∧PermR a e L x.2∧aW K a (m+1) x.2) (fun x=>e-x.1) (m+1+1,M2) ⟨aM _,by dsimp only;omega,rfl,rfl,hp1,hs⟩ (have zz:=aI @t0 (aI @t1 (aI @t2 (aI @t3 (aI @t9 @t10))));agZ) ?_;clear zz;clear t0 t1 t2 t3 t9 t10 hp1 hs M2;rintro⟨j,M⟩ H' nxx ⟨a1,a2,rfl,rfl,hp,hs⟩;dsimp only at *;have hl:M.length=n:=by rw[hp.len,hn]
 have hGM:=hp.mem hG;by_cases hje:j=e
 ·subst hje
  repeat' (first|refine zW ?_|apply a_n|apply a_x|refine zO ?_|refine vZ ?_|(refine zGZ ?_ ?_<;>(intro _hg;try (exfalso;omega)))|fail)
  exact⟨m+1,M,h2,h3,hp,hs,rfl,rfl,rfl,rfl,rfl,rfl,rfl,rfl⟩
 obtain⟨k,rfl⟩:∃k,j=k+1:=⟨j-1,by omega⟩
 have tk:((k+1:Nat):Int)-1=(k:Int):=by omega
 have lc:=hc.run (M.getD (k+1) default) (M.getD k default) (hGM _ (an (by omega))) (hGM _ (an (by omega)));have e1:=hc.dat (M.getD (k+1) default);have e2:=hc.dat (M.getD k default);generalize hKK:K (M.getD (k+1) default) (M.getD k default)=kk at lc;by_cases hlt:kk<0
 ·obtain⟨M1,hl1,lm1,lm2,c1,c2,c3,c4⟩:=cl (f:=f) hc.len (M:=M) (i:=k+1) (j:=k) (by omega) (by omega);have lm3:=lm2;simp only[bv] at lm1 lm2;have zz:=aI @tk (aI @bD (aI (rdC hc.len) (aI (br hc.len) (aI @bB (aI hc.agg (aI hc.ones (aI @lm1 @lm2)))))));repeat' (first|refine zW ?_|refine zM ?_|apply a_n|refine zO ?_|refine vZ ?_|refine cZ ?_ (hp:=lc) (hs:=by(first|refine ak ?_ rfl|apply au);(repeat' (first|exact ai|apply aD|apply aw|exact e1|exact e2|exact av dcap));first|done|fail)|refine stZ ?_|(refine zGZ ?_ ?_<;>(intro _hg;try (exfalso;omega)))|fail)
  exact⟨(k+1+1,swp M (k+1) k),by dsimp only;omega,⟨by dsimp only;omega,by dsimp only;omega,by dsimp only;rw[ao,ao,lm3],rfl,hp.trans (PermR.swap (by omega) (by omega) (by omega)),hs.out (e:=e) (PermR.swap (by omega) (by omega) (by omega))⟩,ag0⟩
 ·have zz:=aI @tk (aI @bD (aI (rdC hc.len) (aI (br hc.len) (aI @bB (aI hc.agg hc.ones)))));repeat' (first|refine zW ?_|refine zM ?_|apply a_n|apply a_x|refine zO ?_|refine vZ ?_|refine cZ ?_ (hp:=lc) (hs:=by(first|refine ak ?_ rfl|apply au);(repeat' (first|exact ai|apply aD|apply aw|exact e1|exact e2|exact av dcap));first|done|fail)|(refine zGZ ?_ ?_<;>(intro _hg;try (exfalso;omega)))|fail)
  exact⟨m+1,M,h2,h3,hp,hs,rfl,rfl,rfl,rfl,rfl,rfl,rfl,rfl⟩
end
end Go.Proofs.YtcbkggfipdldaaaGreat
namespace Go.Proofs.YtcbkggfipdldaaaGreat
open Go Go.Abs
section
variable{α:Type}[Inhabited α]{f:α→AV}{K:α→α→Int}{G:α→Prop}{g:Nat}{caps:List AV}
attribute [local irreducible] aG al bh a7 aV aU aB aX a9 bt Go.Abs.Fn aZ Go.Abs.Pure ax aO Yl
set_option maxHeartbeats 1000000 in
theorem xj(hc:Cmp3 Tryz.prog f K G g caps){L:List α}{H:Hp}{b nx n a e pv:Nat}(hH:H b=some (L.c3 f))(hn:L.length=n)(hG:∀x∈L,G x)(hae:a<e)(hen:e≤n)(hn2:n≤1000000000)(hpv:a≤pv∧pv<e):
    Abs.Fn Tryz.prog 92 [.msl b (n*3) 3 0 n,.int .i64 a,.int .i64 e,.int .i64 pv,.func g caps] H nx fun r H' nx'=>nx'=nx∧∃(L':List α)(m:Nat),r=.int .i64 m∧a<m∧m≤e∧H'=am H b (L'.c3 f)∧PermR a e L L'∧(∀p,a≤p→p<m→¬K (L.getD pv default) (L'.getD p default)<0)∧(∀q,m≤q→q<e→K (L.getD pv default) (L'.getD q default)<0):=by
 have dcap:=hc.dcaps;obtain⟨v,hv0⟩:∃v,L.getD pv default=v:=⟨_,rfl⟩
 rw[hv0];obtain⟨P,hP⟩:∃P:α→Prop,∀x,P x↔ ¬K v x<0:=⟨_,fun _=>Iff.rfl⟩
 obtain⟨N,hN⟩:∃N,swp L a pv=N:=⟨_,rfl⟩
 have hp1:PermR a e L N:=hN▸PermR.swap (by omega) (by omega) (by omega)
 have hv1:N.getD a default=v:=by
  rw[←hN,dq (by omega) (by omega),←hv0];split
  ·rename_i h;rw[h]
  ·rw[if_pos rfl]
 obtain⟨M1,hl1,lm1,lm2,c1,c2,c3,c4⟩:=cl (f:=f) hc.len (M:=L) (i:=a) (j:=pv) (by omega) (by omega);rw[hN] at lm2;have lm3:=lm2;simp only[bv] at lm1 lm2;obtain⟨m,hm⟩:∃m,e=m+1:=⟨e-1,by omega⟩
 have te:(e:Int)-1=(m:Int):=by omega
 have ta:((a:Nat):Int)+1=((a+1:Nat):Int):=by omega
 refine fO DV ?_;simp only[b92,ay];have zz:=aI @hH (aI @te (aI @ta (aI @bD (aI (rdC hc.len) (aI (br hc.len) (aI @bB (aI hc.agg (aI hc.ones (aI @lm1 @lm2)))))))));repeat' (first|refine zW ?_|apply a_n|refine zO ?_|refine vZ ?_|refine stZ ?_|fail)
 refine bo (X:=Nat×Nat×List α) (fun x=>[(0,.msl b (n*3) 3 0 n),(1,.int .i64 a),(4,.func g caps),(11,.int .i64 (x.1:Nat)),(12,.int .i64 (x.2.1:Nat))]) (fun x H' nxx=>PartR P a e (x.2.1+1-x.1) x.1 x.2.1 x.2.2∧H'=am H b (x.2.2.c3 f)∧nx=nxx∧PermR a e L x.2.2∧x.2.2.getD a default=v) (fun x=>x.2.1+1-x.1) (a+1,m,N) ⟨by dsimp only;rw[hm];exact .start (by omega),by dsimp only;rw[ao,lm3],rfl,hp1,hv1⟩ ag0 ?_;clear zz;clear lm1 lm2 lm3 hl1 c1 c2 c3 c4 M1 hp1 hv1 hN N te ta hm m;rintro⟨i,j,M⟩ H' nxx ⟨hpt,rfl,rfl,hp,hv⟩;dsimp only at *;have hl:M.length=n:=by rw[hp.len,hn]
 have hGM:=hp.mem hG;generalize hmu:j+1-i=mu at hpt ⊢;clear hmu;obtain⟨T,hT,t0,t1,t4,t11,t12⟩:∃T,tl [(0,.msl b (n*3) 3 0 n),(1,.int .i64 a),(4,.func g caps),(11,.int .i64 (i:Nat)),(12,.int .i64 (j:Nat))]=T∧T 0=.msl b (n*3) 3 0 n∧T 1=.int .i64 a∧T 4=.func g caps∧T 11=.int .i64 (i:Nat)∧T 12=.int .i64 (j:Nat):=⟨_,rfl,rfl,rfl,rfl,rfl,rfl⟩
 rw[hT];clear hT;refine dg ?_;refine aQ (fun T H'' nx''=>∃i:Nat,PartR P a e mu i j M∧(i≤j→¬P (M.getD i default))∧T 0=.msl b (n*3) 3 0 n∧T 1=.int .i64 a∧T 4=.func g caps∧T 11=.int .i64 (i:Nat)∧T 12=.int .i64 (j:Nat)∧H''=am H b ((M).c3 f)∧nx=nx'') ?_ ?_
 ·have zz:=aI @t0 (aI @t1 (aI @t4 (aI @t11 @t12)));repeat' (first|refine zW ?_|apply a_n|refine zO ?_|fail)
  refine bo (X:=Nat) (fun i=>[(0,.msl b (n*3) 3 0 n),(1,.int .i64 a),(4,.func g caps),(11,.int .i64 (i:Nat)),(12,.int .i64 (j:Nat))]) (fun i H' nxx=>PartR P a e mu i j M∧H'=am H b (M.c3 f)∧nx=nxx) (fun i=>j+1-i) i ⟨hpt,rfl,rfl⟩ (have zz:=aI @t0 (aI @t1 (aI @t4 (aI @t11 @t12)));agZ) ?_;clear zz;clear t0 t1 t4 t11 t12 hpt i;rintro i H' nxx ⟨hpt,rfl,rfl⟩;have hlo:=hpt.lo;have hmid:=hpt.mid;have hhi:=hpt.hi;have ii:((i:Nat):Int)+1=((i+1:Nat):Int):=by omega
  by_cases hij:j<i
  ·repeat' (first|refine zW ?_|refine zM ?_|apply a_n|apply a_x|refine zO ?_|refine vZ ?_|refine gFZ ?_|(refine zGZ ?_ ?_<;>(intro _hg;try (exfalso;omega)))|refine cFZ ?_|fail)
   exact⟨i,hpt,fun h=>absurd h (by omega),rfl,rfl,rfl,rfl,rfl,rfl,rfl⟩
  have lc:=hc.run (M.getD (a) default) (M.getD (i) default) (hGM _ (an (by omega))) (hGM _ (an (by omega)));have e1:=hc.dat (M.getD (a) default);have e2:=hc.dat (M.getD (i) default);have hPk:P (M.getD (i) default)↔ ¬K (M.getD (a) default) (M.getD (i) default)<0:=by rw[hP,hv]
  generalize hKK:K (M.getD (a) default) (M.getD (i) default)=kk at lc hPk;by_cases hlt:kk<0
  ·have zz:=aI @ii (aI @bD (aI (rdC hc.len) (aI (br hc.len) (aI @bB (aI hc.agg hc.ones)))));repeat' (first|refine zW ?_|refine zM ?_|apply a_n|apply a_x|refine zO ?_|refine vZ ?_|refine cZ ?_ (hp:=lc) (hs:=by(first|refine ak ?_ rfl|apply au);(repeat' (first|exact ai|apply aD|apply aw|exact e1|exact e2|exact av dcap));first|done|fail)|refine gTZ ?_|(refine zGZ ?_ ?_<;>(intro _hg;try (exfalso;omega)))|fail)
   exact⟨i,hpt,fun _=>(by rw[hPk];first|exact hlt|exact fun h=>h hlt),rfl,rfl,rfl,rfl,rfl,rfl,rfl⟩
  ·have zz:=aI @ii (aI @bD (aI (rdC hc.len) (aI (br hc.len) (aI @bB (aI hc.agg hc.ones)))));repeat' (first|refine zW ?_|refine zM ?_|apply a_n|refine zO ?_|refine vZ ?_|refine cZ ?_ (hp:=lc) (hs:=by(first|refine ak ?_ rfl|apply au);(repeat' (first|exact ai|apply aD|apply aw|exact e1|exact e2|exact av dcap));first|done|fail)|refine gTZ ?_|(refine zGZ ?_ ?_<;>(intro _hg;try (exfalso;omega)))|fail)
   exact⟨i+1,by omega,⟨hpt.stepUp (by omega) (by rw[hPk];exact hlt),rfl,rfl⟩,ag0⟩
 clear t0 t1 t4 t11 t12 hpt i;rintro T _ _ ⟨i,hpt,hni,t0,t1,t4,t11,t12,rfl,rfl⟩;refine aQ (fun T H'' nx''=>∃j:Nat,PartR P a e mu i j M∧(i≤j→¬P (M.getD i default))∧(i≤j→P (M.getD j default))∧T 0=.msl b (n*3) 3 0 n∧T 1=.int .i64 a∧T 4=.func g caps∧T 11=.int .i64 (i:Nat)∧T 12=.int .i64 (j:Nat)∧H''=am H b ((M).c3 f)∧nx=nx'') ?_ ?_
 ·have zz:=aI @t0 (aI @t1 (aI @t4 (aI @t11 @t12)));repeat' (first|refine zW ?_|apply a_n|refine zO ?_|fail)
  refine bo (X:=Nat) (fun j=>[(0,.msl b (n*3) 3 0 n),(1,.int .i64 a),(4,.func g caps),(11,.int .i64 (i:Nat)),(12,.int .i64 (j:Nat))]) (fun j H' nxx=>PartR P a e mu i j M∧(i≤j→¬P (M.getD i default))∧H'=am H b (M.c3 f)∧nx=nxx) (fun j=>j) j ⟨hpt,hni,rfl,rfl⟩ (have zz:=aI @t0 (aI @t1 (aI @t4 (aI @t11 @t12)));agZ) ?_;clear zz;clear t0 t1 t4 t11 t12 hpt hni j;rintro j H' nxx ⟨hpt,hni,rfl,rfl⟩;have hlo:=hpt.lo;have hmid:=hpt.mid;have hhi:=hpt.hi;by_cases hij:j<i
  ·repeat' (first|refine zW ?_|refine zM ?_|apply a_n|apply a_x|refine zO ?_|refine vZ ?_|refine gFZ ?_|(refine zGZ ?_ ?_<;>(intro _hg;try (exfalso;omega)))|refine cFZ ?_|fail)
   exact⟨j,hpt,hni,fun h=>absurd h (by omega),rfl,rfl,rfl,rfl,rfl,rfl,rfl⟩
  obtain⟨k,rfl⟩:∃k,j=k+1:=⟨j-1,by omega⟩
  have tk:((k+1:Nat):Int)-1=(k:Int):=by omega
  have lc:=hc.run (M.getD (a) default) (M.getD (k+1) default) (hGM _ (an (by omega))) (hGM _ (an (by omega)));have e1:=hc.dat (M.getD (a) default);have e2:=hc.dat (M.getD (k+1) default);have hPk:P (M.getD (k+1) default)↔ ¬K (M.getD (a) default) (M.getD (k+1) default)<0:=by rw[hP,hv]
  generalize hKK:K (M.getD (a) default) (M.getD (k+1) default)=kk at lc hPk;by_cases hlt:kk<0
  ·have zz:=aI @tk (aI @bD (aI (rdC hc.len) (aI (br hc.len) (aI @bB (aI hc.agg hc.ones)))));repeat' (first|refine zW ?_|refine zM ?_|apply a_n|refine zO ?_|refine vZ ?_|refine cZ ?_ (hp:=lc) (hs:=by(first|refine ak ?_ rfl|apply au);(repeat' (first|exact ai|apply aD|apply aw|exact e1|exact e2|exact av dcap));first|done|fail)|refine gTZ ?_|(refine zGZ ?_ ?_<;>(intro _hg;try (exfalso;omega)))|fail)
   exact⟨k,by omega,⟨hpt.stepDn (by omega) (by rw[hPk];first|exact hlt|exact fun h=>h hlt),fun _=>hni (by omega),rfl,rfl⟩,ag0⟩
  ·have zz:=aI @tk (aI @bD (aI (rdC hc.len) (aI (br hc.len) (aI @bB (aI hc.agg hc.ones)))));repeat' (first|refine zW ?_|refine zM ?_|apply a_n|apply a_x|refine zO ?_|refine vZ ?_|refine cZ ?_ (hp:=lc) (hs:=by(first|refine ak ?_ rfl|apply au);(repeat' (first|exact ai|apply aD|apply aw|exact e1|exact e2|exact av dcap));first|done|fail)|refine gTZ ?_|(refine zGZ ?_ ?_<;>(intro _hg;try (exfalso;omega)))|fail)
   exact⟨k+1,hpt,hni,fun _=>(by rw[hPk];exact hlt),rfl,rfl,rfl,rfl,rfl,rfl,rfl⟩
 clear t0 t1 t4 t11 t12 hpt hni j;rintro T _ _ ⟨j,hpt,hni,hnj,t0,t1,t4,t11,t12,rfl,rfl⟩;have hlo:=hpt.lo;have hmid:=hpt.mid;have hhi:=hpt.hi;by_cases hji:j<i
 ·have zz:=aI @t0 (aI @t1 (aI @t4 (aI @t11 @t12)));repeat' (first|refine zW ?_|apply a_n|apply a_x|refine zO ?_|refine vZ ?_|(refine zGZ ?_ ?_<;>(intro _hg;try (exfalso;omega)))|refine ae rfl ?_|refine r1Z ?_|fail)
  refine⟨rfl,M,i,rfl,by omega,by omega,rfl,hp,fun p h1 h2=>?_,fun q h1 h2=>by have:=hpt.dn q (by omega) h2;rw[hP] at this;exact s9 this⟩;by_cases ep:p=a
  ·rw[ep,hv];exact hc.ord.irr _
  ·exact(hP _).1 (hpt.up p (by omega) h2)
 obtain⟨k,rfl⟩:∃k,j=k+1:=⟨j-1,by omega⟩
 have tk:((k+1:Nat):Int)-1=(k:Int):=by omega
 have ii:((i:Nat):Int)+1=((i+1:Nat):Int):=by omega
 obtain⟨M1,hl1,lm1,lm2,c1,c2,c3,c4⟩:=cl (f:=f) hc.len (M:=M) (i:=i) (j:=k+1) (by omega) (by omega);have lm3:=lm2;simp only[bv] at lm1 lm2;have zz:=aI @t0 (aI @t1 (aI @t4 (aI @t11 (aI @t12 (aI @tk (aI @ii (aI @bD (aI (rdC hc.len) (aI (br hc.len) (aI @bB (aI hc.agg (aI hc.ones (aI @lm1 @lm2)))))))))))));repeat' (first|refine zW ?_|apply a_n|refine zO ?_|refine vZ ?_|refine stZ ?_|(refine zGZ ?_ ?_<;>(intro _hg;try (exfalso;omega)))|fail)
 obtain⟨hq1,hq2⟩:=hpt.swap (by omega) (by omega) (hni (by omega)) (hnj (by omega));exact⟨(i+1,k,swp M i (k+1)),hq2,⟨hq1,by dsimp only;rw[ao,ao,lm3],rfl,hp.trans (PermR.swap (by omega) (by omega) (by omega)),by dsimp only;rw[gI (by omega) (by omega) (by omega) (by omega)];exact hv⟩,(have zz:=aI @t0 (aI @t1 (aI @t4 (aI @t11 @t12)));agZ)⟩
set_option maxHeartbeats 1000000 in
theorem Av(hc:Cmp3 Tryz.prog f K G g caps){L:List α}{H:Hp}{b nx n a e pv:Nat}(hH:H b=some (L.c3 f))(hn:L.length=n)(hG:∀x∈L,G x)(hae:a<e)(hen:e≤n)(hn2:n≤1000000000)(hpv:a≤pv∧pv<e):
    Abs.Fn Tryz.prog 93 [.msl b (n*3) 3 0 n,.int .i64 a,.int .i64 e,.int .i64 pv,.func g caps] H nx fun r H' nx'=>nx'=nx∧∃(L':List α)(m:Nat)(t:Bool),r=.tup [.int .i64 m,.bool t]∧a≤m∧m<e∧H'=am H b (L'.c3 f)∧PermR a e L L'∧(∀p,a≤p→p<m→K (L'.getD p default) (L'.getD m default)<0)∧(∀q,m<q→q<e→¬K (L'.getD q default) (L'.getD m default)<0):=by
 have dcap:=hc.dcaps;obtain⟨v,hv0⟩:∃v,L.getD pv default=v:=⟨_,rfl⟩
 obtain⟨P,hP⟩:∃P:α→Prop,∀x,P x↔K x v<0:=⟨_,fun _=>Iff.rfl⟩
 obtain⟨M,hN⟩:∃N,swp L a pv=N:=⟨_,rfl⟩
 have hp:PermR a e L M:=hN▸PermR.swap (by omega) (by omega) (by omega)
 have hv:M.getD a default=v:=by
  rw[←hN,dq (by omega) (by omega),←hv0];split
  ·rename_i h;rw[h]
  ·rw[if_pos rfl]
 obtain⟨M1,hl1,lm1,lm2,c1,c2,c3,c4⟩:=cl (f:=f) hc.len (M:=L) (i:=a) (j:=pv) (by omega) (by omega);rw[hN] at lm2;have lm3:=lm2;simp only[bv] at lm1 lm2;obtain⟨m,hm⟩:∃m,e=m+1:=⟨e-1,by omega⟩
 have te:(e:Int)-1=(m:Int):=by omega
 have ta:((a:Nat):Int)+1=((a+1:Nat):Int):=by omega
 refine fO DW ?_;simp only[b93,ay];refine aQ (fun T H'' nx''=>T 0=.msl b (n*3) 3 0 n∧T 1=.int .i64 a∧T 2=.int .i64 e∧T 3=.int .i64 pv∧T 4=.func g caps∧H=H''∧nx=nx'') ?_ ?_
 ·repeat' (first|apply a_n|refine zO ?_|refine vZ ?_|fail)
  exact⟨rfl,rfl,rfl,rfl,rfl,rfl,rfl⟩
 rintro T _ _ ⟨t0,t1,t2,t3,t4,rfl,rfl⟩;refine aQ (fun T H'' nx''=>T 0=.msl b (n*3) 3 0 n∧T 1=.int .i64 a∧T 2=.int .i64 e∧T 3=.int .i64 pv∧T 4=.func g caps∧H''=am H b (M.c3 f)∧nx=nx'') ?_ ?_
 ·have zz:=aI @t0 (aI @t1 (aI @t2 (aI @t3 (aI @t4 (aI @hH (aI @bD (aI (rdC hc.len) (aI (br hc.len) (aI @bB (aI hc.agg (aI hc.ones (aI @lm1 @lm2))))))))))));repeat' (first|apply a_n|refine zO ?_|refine vZ ?_|refine stZ ?_|fail)
  exact⟨(have zz:=@t0;evZ),(have zz:=@t1;evZ),(have zz:=@t2;evZ),(have zz:=@t3;evZ),(have zz:=@t4;evZ),by rw[ao,lm3],rfl⟩
 clear t0 t1 t2 t3 t4 lm1 lm2 lm3 hl1 c1 c2 c3 c4 M1 hN;rintro T _ _ ⟨t0,t1,t2,t3,t4,rfl,rfl⟩;refine aQ (fun T H'' nx''=>∃mu i j:Nat,PartR P a e mu i j M∧T 0=.msl b (n*3) 3 0 n∧T 1=.int .i64 a∧T 4=.func g caps∧T 12=.int .i64 (i:Nat)∧T 13=.int .i64 (j:Nat)∧H''=am H b ((M).c3 f)∧nx=nx'') ?_ ?_
 ·have zz:=aI @t0 (aI @t1 (aI @t2 (aI @t3 (aI @t4 (aI @ta @te)))));repeat' (first|apply a_n|refine zO ?_|refine vZ ?_|fail)
  exact⟨_,a+1,m,by rw[hm];exact .start (by omega),(have zz:=@t0;evZ),(have zz:=@t1;evZ),(have zz:=@t4;evZ),ev0,ev0,rfl,rfl⟩
 clear t0 t1 t2 t3 t4 ta te hm m;rintro T _ _ ⟨mu,i,j,hpt,t0,t1,t4,t12,t13,rfl,rfl⟩;have hl:M.length=n:=by rw[hp.len,hn]
 have hGM:=hp.mem hG;refine aQ (fun T H'' nx''=>∃i:Nat,PartR P a e mu i j M∧(i≤j→¬P (M.getD i default))∧T 0=.msl b (n*3) 3 0 n∧T 1=.int .i64 a∧T 4=.func g caps∧T 12=.int .i64 (i:Nat)∧T 13=.int .i64 (j:Nat)∧H''=am H b ((M).c3 f)∧nx=nx'') ?_ ?_
 ·have zz:=aI @t0 (aI @t1 (aI @t4 (aI @t12 @t13)));repeat' (first|refine zW ?_|apply a_n|refine zO ?_|fail)
  refine bo (X:=Nat) (fun i=>[(0,.msl b (n*3) 3 0 n),(1,.int .i64 a),(4,.func g caps),(12,.int .i64 (i:Nat)),(13,.int .i64 (j:Nat))]) (fun i H' nxx=>PartR P a e mu i j M∧H'=am H b (M.c3 f)∧nx=nxx) (fun i=>j+1-i) i ⟨hpt,rfl,rfl⟩ (have zz:=aI @t0 (aI @t1 (aI @t4 (aI @t12 @t13)));agZ) ?_;clear zz;clear t0 t1 t4 t12 t13 hpt i;rintro i H' nxx ⟨hpt,rfl,rfl⟩;have hlo:=hpt.lo;have hmid:=hpt.mid;have hhi:=hpt.hi;have ii:((i:Nat):Int)+1=((i+1:Nat):Int):=by omega
  by_cases hij:j<i
  ·repeat' (first|refine zW ?_|refine zM ?_|apply a_n|apply a_x|refine zO ?_|refine vZ ?_|refine gFZ ?_|(refine zGZ ?_ ?_<;>(intro _hg;try (exfalso;omega)))|refine cFZ ?_|fail)
   exact⟨i,hpt,fun h=>absurd h (by omega),rfl,rfl,rfl,rfl,rfl,rfl,rfl⟩
  have lc:=hc.run (M.getD (i) default) (M.getD (a) default) (hGM _ (an (by omega))) (hGM _ (an (by omega)));have e1:=hc.dat (M.getD (i) default);have e2:=hc.dat (M.getD (a) default);have hPk:P (M.getD (i) default)↔K (M.getD (i) default) (M.getD (a) default)<0:=by rw[hP,hv]
  generalize hKK:K (M.getD (i) default) (M.getD (a) default)=kk at lc hPk;by_cases hlt:kk<0
  ·have zz:=aI @ii (aI @bD (aI (rdC hc.len) (aI (br hc.len) (aI @bB (aI hc.agg hc.ones)))));repeat' (first|refine zW ?_|refine zM ?_|apply a_n|refine zO ?_|refine vZ ?_|refine cZ ?_ (hp:=lc) (hs:=by(first|refine ak ?_ rfl|apply au);(repeat' (first|exact ai|apply aD|apply aw|exact e1|exact e2|exact av dcap));first|done|fail)|refine gTZ ?_|(refine zGZ ?_ ?_<;>(intro _hg;try (exfalso;omega)))|fail)
   exact⟨i+1,by omega,⟨hpt.stepUp (by omega) (by rw[hPk];exact hlt),rfl,rfl⟩,ag0⟩
  ·have zz:=aI @ii (aI @bD (aI (rdC hc.len) (aI (br hc.len) (aI @bB (aI hc.agg hc.ones)))));repeat' (first|refine zW ?_|refine zM ?_|apply a_n|apply a_x|refine zO ?_|refine vZ ?_|refine cZ ?_ (hp:=lc) (hs:=by(first|refine ak ?_ rfl|apply au);(repeat' (first|exact ai|apply aD|apply aw|exact e1|exact e2|exact av dcap));first|done|fail)|refine gTZ ?_|(refine zGZ ?_ ?_<;>(intro _hg;try (exfalso;omega)))|fail)
   exact⟨i,hpt,fun _=>(by rw[hPk];first|exact hlt|exact fun h=>h hlt),rfl,rfl,rfl,rfl,rfl,rfl,rfl⟩
 clear t0 t1 t4 t12 t13 hpt i;rintro T _ _ ⟨i,hpt,hni,t0,t1,t4,t12,t13,rfl,rfl⟩;refine aQ (fun T H'' nx''=>∃j:Nat,PartR P a e mu i j M∧(i≤j→¬P (M.getD i default))∧(i≤j→P (M.getD j default))∧T 0=.msl b (n*3) 3 0 n∧T 1=.int .i64 a∧T 4=.func g caps∧T 12=.int .i64 (i:Nat)∧T 13=.int .i64 (j:Nat)∧H''=am H b ((M).c3 f)∧nx=nx'') ?_ ?_
 ·have zz:=aI @t0 (aI @t1 (aI @t4 (aI @t12 @t13)));repeat' (first|refine zW ?_|apply a_n|refine zO ?_|fail)
  refine bo (X:=Nat) (fun j=>[(0,.msl b (n*3) 3 0 n),(1,.int .i64 a),(4,.func g caps),(12,.int .i64 (i:Nat)),(13,.int .i64 (j:Nat))]) (fun j H' nxx=>PartR P a e mu i j M∧(i≤j→¬P (M.getD i default))∧H'=am H b (M.c3 f)∧nx=nxx) (fun j=>j) j ⟨hpt,hni,rfl,rfl⟩ (have zz:=aI @t0 (aI @t1 (aI @t4 (aI @t12 @t13)));agZ) ?_;clear zz;clear t0 t1 t4 t12 t13 hpt hni j;rintro j H' nxx ⟨hpt,hni,rfl,rfl⟩;have hlo:=hpt.lo;have hmid:=hpt.mid;have hhi:=hpt.hi;by_cases hij:j<i
  ·repeat' (first|refine zW ?_|refine zM ?_|apply a_n|apply a_x|refine zO ?_|refine vZ ?_|refine gFZ ?_|(refine zGZ ?_ ?_<;>(intro _hg;try (exfalso;omega)))|refine cFZ ?_|fail)
   exact⟨j,hpt,hni,fun h=>absurd h (by omega),rfl,rfl,rfl,rfl,rfl,rfl,rfl⟩
  obtain⟨k,rfl⟩:∃k,j=k+1:=⟨j-1,by omega⟩
  have tk:((k+1:Nat):Int)-1=(k:Int):=by omega
  have lc:=hc.run (M.getD (k+1) default) (M.getD (a) default) (hGM _ (an (by omega))) (hGM _ (an (by omega)));have e1:=hc.dat (M.getD (k+1) default);have e2:=hc.dat (M.getD (a) default);have hPk:P (M.getD (k+1) default)↔K (M.getD (k+1) default) (M.getD (a) default)<0:=by rw[hP,hv]
  generalize hKK:K (M.getD (k+1) default) (M.getD (a) default)=kk at lc hPk;by_cases hlt:kk<0
  ·have zz:=aI @tk (aI @bD (aI (rdC hc.len) (aI (br hc.len) (aI @bB (aI hc.agg hc.ones)))));repeat' (first|refine zW ?_|refine zM ?_|apply a_n|apply a_x|refine zO ?_|refine vZ ?_|refine cZ ?_ (hp:=lc) (hs:=by(first|refine ak ?_ rfl|apply au);(repeat' (first|exact ai|apply aD|apply aw|exact e1|exact e2|exact av dcap));first|done|fail)|refine gTZ ?_|(refine zGZ ?_ ?_<;>(intro _hg;try (exfalso;omega)))|fail)
   exact⟨k+1,hpt,hni,fun _=>(by rw[hPk];exact hlt),rfl,rfl,rfl,rfl,rfl,rfl,rfl⟩
  ·have zz:=aI @tk (aI @bD (aI (rdC hc.len) (aI (br hc.len) (aI @bB (aI hc.agg hc.ones)))));repeat' (first|refine zW ?_|refine zM ?_|apply a_n|refine zO ?_|refine vZ ?_|refine cZ ?_ (hp:=lc) (hs:=by(first|refine ak ?_ rfl|apply au);(repeat' (first|exact ai|apply aD|apply aw|exact e1|exact e2|exact av dcap));first|done|fail)|refine gTZ ?_|(refine zGZ ?_ ?_<;>(intro _hg;try (exfalso;omega)))|fail)
   exact⟨k,by omega,⟨hpt.stepDn (by omega) (by rw[hPk];first|exact hlt|exact fun h=>h hlt),fun _=>hni (by omega),rfl,rfl⟩,ag0⟩
 clear t0 t1 t4 t12 t13 hpt hni j;rintro T _ _ ⟨j,hpt,hni,hnj,t0,t1,t4,t12,t13,rfl,rfl⟩;have hlo:=hpt.lo;have hmid:=hpt.mid;have hhi:=hpt.hi;by_cases hji:j<i
 ·clear hni hnj;obtain⟨z1,z2,z3,z4⟩:=hpt.done hc.ord (by omega) hji hv hP;obtain⟨M1,hl1,lm1,lm2,c1,c2,c3,c4⟩:=cl (f:=f) hc.len (M:=M) (i:=j) (j:=a) (by omega) (by omega);have lm3:=lm2;simp only[bv] at lm1 lm2;have zz:=aI @t0 (aI @t1 (aI @t4 (aI @t12 (aI @t13 (aI @bD (aI (rdC hc.len) (aI (br hc.len) (aI @bB (aI hc.agg (aI hc.ones (aI @lm1 @lm2)))))))))));repeat' (first|refine zW ?_|apply a_n|apply a_r|refine zO ?_|refine vZ ?_|refine stZ ?_|(refine zGZ ?_ ?_<;>(intro _hg;try (exfalso;omega)))|refine ae rfl ?_|refine r2Z ?_|fail)
  exact⟨rfl,swp M j a,j,true,rfl,z1,z2,by rw[ao,ao,lm3],hp.trans (PermR.swap (by omega) (by omega) (by omega)),z3,z4⟩
 obtain⟨k,rfl⟩:∃k,j=k+1:=⟨j-1,by omega⟩
 have tk:((k+1:Nat):Int)-1=(k:Int):=by omega
 have ii:((i:Nat):Int)+1=((i+1:Nat):Int):=by omega
 obtain⟨M1,hl1,lm1,lm2,c1,c2,c3,c4⟩:=cl (f:=f) hc.len (M:=M) (i:=i) (j:=k+1) (by omega) (by omega);have lm3:=lm2;simp only[bv] at lm1 lm2;have zz:=aI @t0 (aI @t1 (aI @t4 (aI @t12 (aI @t13 (aI @tk (aI @ii (aI @bD (aI (rdC hc.len) (aI (br hc.len) (aI @bB (aI hc.agg (aI hc.ones (aI @lm1 @lm2)))))))))))));repeat' (first|refine zW ?_|apply a_n|refine zO ?_|refine vZ ?_|refine stZ ?_|(refine zGZ ?_ ?_<;>(intro _hg;try (exfalso;omega)))|fail)
 obtain⟨hq1,hq2⟩:=hpt.swap (by omega) (by omega) (hni (by omega)) (hnj (by omega));have hp2:PermR a e L (swp M i (k+1)):=hp.trans (PermR.swap (by omega) (by omega) (by omega));have hv2:(swp M i (k+1)).getD a default=v:=by rw[gI (by omega) (by omega) (by omega) (by omega)];exact hv
 refine bo (X:=Nat×Nat×List α) (fun x=>[(0,.msl b (n*3) 3 0 n),(1,.int .i64 a),(4,.func g caps),(12,.int .i64 (x.1:Nat)),(13,.int .i64 (x.2.1:Nat))]) (fun x H' nxx=>PartR P a e (x.2.1+1-x.1) x.1 x.2.1 x.2.2∧H'=am H b (x.2.2.c3 f)∧nx=nxx∧PermR a e L x.2.2∧x.2.2.getD a default=v) (fun x=>x.2.1+1-x.1) (i+1,k,swp M i (k+1)) ⟨hq1,by dsimp only;rw[ao,ao,lm3],rfl,hp2,hv2⟩ (have zz:=aI @t0 (aI @t1 (aI @t4 (aI @t12 @t13)));agZ) ?_;clear zz;clear t0 t1 t4 t12 t13 lm1 lm2 lm3 hl1 c1 c2 c3 c4 M1 hp2 hv2 hq1 hq2 hpt hni hnj hp hv hGM;rintro⟨i,j,M⟩ H' nxx ⟨hpt,rfl,rfl,hp,hv⟩;dsimp only at *;have hl:M.length=n:=by rw[hp.len,hn]
 have hGM:=hp.mem hG;generalize hmu:j+1-i=mu at hpt ⊢;clear hmu;obtain⟨T,hT,t0,t1,t4,t12,t13⟩:∃T,tl [(0,.msl b (n*3) 3 0 n),(1,.int .i64 a),(4,.func g caps),(12,.int .i64 (i:Nat)),(13,.int .i64 (j:Nat))]=T∧T 0=.msl b (n*3) 3 0 n∧T 1=.int .i64 a∧T 4=.func g caps∧T 12=.int .i64 (i:Nat)∧T 13=.int .i64 (j:Nat):=⟨_,rfl,rfl,rfl,rfl,rfl,rfl⟩
 rw[hT];clear hT;refine dg ?_;refine aQ (fun T H'' nx''=>∃i:Nat,PartR P a e mu i j M∧(i≤j→¬P (M.getD i default))∧T 0=.msl b (n*3) 3 0 n∧T 1=.int .i64 a∧T 4=.func g caps∧T 12=.int .i64 (i:Nat)∧T 13=.int .i64 (j:Nat)∧H''=am H b ((M).c3 f)∧nx=nx'') ?_ ?_
 ·have zz:=aI @t0 (aI @t1 (aI @t4 (aI @t12 @t13)));repeat' (first|refine zW ?_|apply a_n|refine zO ?_|fail)
  refine bo (X:=Nat) (fun i=>[(0,.msl b (n*3) 3 0 n),(1,.int .i64 a),(4,.func g caps),(12,.int .i64 (i:Nat)),(13,.int .i64 (j:Nat))]) (fun i H' nxx=>PartR P a e mu i j M∧H'=am H b (M.c3 f)∧nx=nxx) (fun i=>j+1-i) i ⟨hpt,rfl,rfl⟩ (have zz:=aI @t0 (aI @t1 (aI @t4 (aI @t12 @t13)));agZ) ?_;clear zz;clear t0 t1 t4 t12 t13 hpt i;rintro i H' nxx ⟨hpt,rfl,rfl⟩;have hlo:=hpt.lo;have hmid:=hpt.mid;have hhi:=hpt.hi;have ii:((i:Nat):Int)+1=((i+1:Nat):Int):=by omega
  by_cases hij:j<i
  ·repeat' (first|refine zW ?_|refine zM ?_|apply a_n|apply a_x|refine zO ?_|refine vZ ?_|refine gFZ ?_|(refine zGZ ?_ ?_<;>(intro _hg;try (exfalso;omega)))|refine cFZ ?_|fail)
   exact⟨i,hpt,fun h=>absurd h (by omega),rfl,rfl,rfl,rfl,rfl,rfl,rfl⟩
  have lc:=hc.run (M.getD (i) default) (M.getD (a) default) (hGM _ (an (by omega))) (hGM _ (an (by omega)));have e1:=hc.dat (M.getD (i) default);have e2:=hc.dat (M.getD (a) default);have hPk:P (M.getD (i) default)↔K (M.getD (i) default) (M.getD (a) default)<0:=by rw[hP,hv]
  generalize hKK:K (M.getD (i) default) (M.getD (a) default)=kk at lc hPk;by_cases hlt:kk<0
  ·have zz:=aI @ii (aI @bD (aI (rdC hc.len) (aI (br hc.len) (aI @bB (aI hc.agg hc.ones)))));repeat' (first|refine zW ?_|refine zM ?_|apply a_n|refine zO ?_|refine vZ ?_|refine cZ ?_ (hp:=lc) (hs:=by(first|refine ak ?_ rfl|apply au);(repeat' (first|exact ai|apply aD|apply aw|exact e1|exact e2|exact av dcap));first|done|fail)|refine gTZ ?_|(refine zGZ ?_ ?_<;>(intro _hg;try (exfalso;omega)))|fail)
   exact⟨i+1,by omega,⟨hpt.stepUp (by omega) (by rw[hPk];exact hlt),rfl,rfl⟩,ag0⟩
  ·have zz:=aI @ii (aI @bD (aI (rdC hc.len) (aI (br hc.len) (aI @bB (aI hc.agg hc.ones)))));repeat' (first|refine zW ?_|refine zM ?_|apply a_n|apply a_x|refine zO ?_|refine vZ ?_|refine cZ ?_ (hp:=lc) (hs:=by(first|refine ak ?_ rfl|apply au);(repeat' (first|exact ai|apply aD|apply aw|exact e1|exact e2|exact av dcap));first|done|fail)|refine gTZ ?_|(refine zGZ ?_ ?_<;>(intro _hg;try (exfalso;omega)))|fail)
   exact⟨i,hpt,fun _=>(by rw[hPk];first|exact hlt|exact fun h=>h hlt),rfl,rfl,rfl,rfl,rfl,rfl,rfl⟩
 clear t0 t1 t4 t12 t13 hpt i;rintro T _ _ ⟨i,hpt,hni,t0,t1,t4,t12,t13,rfl,rfl⟩;refine aQ (fun T H'' nx''=>∃j:Nat,PartR P a e mu i j M∧(i≤j→¬P (M.getD i default))∧(i≤j→P (M.getD j default))∧T 0=.msl b (n*3) 3 0 n∧T 1=.int .i64 a∧T 4=.func g caps∧T 12=.int .i64 (i:Nat)∧T 13=.int .i64 (j:Nat)∧H''=am H b ((M).c3 f)∧nx=nx'') ?_ ?_
 ·have zz:=aI @t0 (aI @t1 (aI @t4 (aI @t12 @t13)));repeat' (first|refine zW ?_|apply a_n|refine zO ?_|fail)
  refine bo (X:=Nat) (fun j=>[(0,.msl b (n*3) 3 0 n),(1,.int .i64 a),(4,.func g caps),(12,.int .i64 (i:Nat)),(13,.int .i64 (j:Nat))]) (fun j H' nxx=>PartR P a e mu i j M∧(i≤j→¬P (M.getD i default))∧H'=am H b (M.c3 f)∧nx=nxx) (fun j=>j) j ⟨hpt,hni,rfl,rfl⟩ (have zz:=aI @t0 (aI @t1 (aI @t4 (aI @t12 @t13)));agZ) ?_;clear zz;clear t0 t1 t4 t12 t13 hpt hni j;rintro j H' nxx ⟨hpt,hni,rfl,rfl⟩;have hlo:=hpt.lo;have hmid:=hpt.mid;have hhi:=hpt.hi;by_cases hij:j<i
  ·repeat' (first|refine zW ?_|refine zM ?_|apply a_n|apply a_x|refine zO ?_|refine vZ ?_|refine gFZ ?_|(refine zGZ ?_ ?_<;>(intro _hg;try (exfalso;omega)))|refine cFZ ?_|fail)
   exact⟨j,hpt,hni,fun h=>absurd h (by omega),rfl,rfl,rfl,rfl,rfl,rfl,rfl⟩
  obtain⟨k,rfl⟩:∃k,j=k+1:=⟨j-1,by omega⟩
  have tk:((k+1:Nat):Int)-1=(k:Int):=by omega
  have lc:=hc.run (M.getD (k+1) default) (M.getD (a) default) (hGM _ (an (by omega))) (hGM _ (an (by omega)));have e1:=hc.dat (M.getD (k+1) default);have e2:=hc.dat (M.getD (a) default);have hPk:P (M.getD (k+1) default)↔K (M.getD (k+1) default) (M.getD (a) default)<0:=by rw[hP,hv]
  generalize hKK:K (M.getD (k+1) default) (M.getD (a) default)=kk at lc hPk;by_cases hlt:kk<0
  ·have zz:=aI @tk (aI @bD (aI (rdC hc.len) (aI (br hc.len) (aI @bB (aI hc.agg hc.ones)))));repeat' (first|refine zW ?_|refine zM ?_|apply a_n|apply a_x|refine zO ?_|refine vZ ?_|refine cZ ?_ (hp:=lc) (hs:=by(first|refine ak ?_ rfl|apply au);(repeat' (first|exact ai|apply aD|apply aw|exact e1|exact e2|exact av dcap));first|done|fail)|refine gTZ ?_|(refine zGZ ?_ ?_<;>(intro _hg;try (exfalso;omega)))|fail)
   exact⟨k+1,hpt,hni,fun _=>(by rw[hPk];exact hlt),rfl,rfl,rfl,rfl,rfl,rfl,rfl⟩
  ·have zz:=aI @tk (aI @bD (aI (rdC hc.len) (aI (br hc.len) (aI @bB (aI hc.agg hc.ones)))));repeat' (first|refine zW ?_|refine zM ?_|apply a_n|refine zO ?_|refine vZ ?_|refine cZ ?_ (hp:=lc) (hs:=by(first|refine ak ?_ rfl|apply au);(repeat' (first|exact ai|apply aD|apply aw|exact e1|exact e2|exact av dcap));first|done|fail)|refine gTZ ?_|(refine zGZ ?_ ?_<;>(intro _hg;try (exfalso;omega)))|fail)
   exact⟨k,by omega,⟨hpt.stepDn (by omega) (by rw[hPk];first|exact hlt|exact fun h=>h hlt),fun _=>hni (by omega),rfl,rfl⟩,ag0⟩
 clear t0 t1 t4 t12 t13 hpt hni j;rintro T _ _ ⟨j,hpt,hni,hnj,t0,t1,t4,t12,t13,rfl,rfl⟩;have hlo:=hpt.lo;have hmid:=hpt.mid;have hhi:=hpt.hi;by_cases hji:j<i
 ·clear hni hnj;obtain⟨z1,z2,z3,z4⟩:=hpt.done hc.ord (by omega) hji hv hP;obtain⟨M1,hl1,lm1,lm2,c1,c2,c3,c4⟩:=cl (f:=f) hc.len (M:=M) (i:=j) (j:=a) (by omega) (by omega);have lm3:=lm2;simp only[bv] at lm1 lm2;have zz:=aI @t0 (aI @t1 (aI @t4 (aI @t12 (aI @t13 (aI @bD (aI (rdC hc.len) (aI (br hc.len) (aI @bB (aI hc.agg (aI hc.ones (aI @lm1 @lm2)))))))))));repeat' (first|refine zW ?_|apply a_n|apply a_x|refine zO ?_|refine vZ ?_|refine stZ ?_|(refine zGZ ?_ ?_<;>(intro _hg;try (exfalso;omega)))|refine ae rfl ?_|refine r2Z ?_|fail)
  exact⟨rfl,swp M j a,j,false,rfl,z1,z2,by rw[ao,ao,lm3],hp.trans (PermR.swap (by omega) (by omega) (by omega)),z3,z4⟩
 obtain⟨k,rfl⟩:∃k,j=k+1:=⟨j-1,by omega⟩
 have tk:((k+1:Nat):Int)-1=(k:Int):=by omega
 have ii:((i:Nat):Int)+1=((i+1:Nat):Int):=by omega
 obtain⟨M1,hl1,lm1,lm2,c1,c2,c3,c4⟩:=cl (f:=f) hc.len (M:=M) (i:=i) (j:=k+1) (by omega) (by omega);have lm3:=lm2;simp only[bv] at lm1 lm2;have zz:=aI @t0 (aI @t1 (aI @t4 (aI @t12 (aI @t13 (aI @tk (aI @ii (aI @bD (aI (rdC hc.len) (aI (br hc.len) (aI @bB (aI hc.agg (aI hc.ones (aI @lm1 @lm2)))))))))))));repeat' (first|refine zW ?_|apply a_n|refine zO ?_|refine vZ ?_|refine stZ ?_|(refine zGZ ?_ ?_<;>(intro _hg;try (exfalso;omega)))|fail)
 obtain⟨hq1,hq2⟩:=hpt.swap (by omega) (by omega) (hni (by omega)) (hnj (by omega));exact⟨(i+1,k,swp M i (k+1)),hq2,⟨hq1,by dsimp only;rw[ao,ao,lm3],rfl,hp.trans (PermR.swap (by omega) (by omega) (by omega)),by dsimp only;rw[gI (by omega) (by omega) (by omega) (by omega)];exact hv⟩,(have zz:=aI @t0 (aI @t1 (aI @t4 (aI @t12 @t13)));agZ)⟩
end
end Go.Proofs.YtcbkggfipdldaaaGreat
namespace Go.Proofs.YtcbkggfipdldaaaGreat
open Go Go.Abs
open Nat (reduceEqDiff reduceAdd reduceLeDiff)
section
variable{α:Type}[Inhabited α]{f:α→AV}{K:α→α→Int}{G:α→Prop}{g:Nat}{caps:List AV}
attribute [local irreducible] aG al bh a7 aV aU aB aX a9 bt Go.Abs.Fn aZ Go.Abs.Pure ax aO Yl
theorem zr(hc:Cmp3 Tryz.prog f K G g caps){L:List α}{H:Hp}{b nx n a e:Nat}(hH:H b=some (L.c3 f))(hbx:b<nx)(hn:L.length=n)(hae:a+8≤e)(hen:e≤n)(hn2:n≤1000000000):
    Abs.Fn Tryz.prog 88 [.msl b (n*3) 3 0 n,.int .i64 a,.int .i64 e,.func g caps] H nx fun r H' nx'=>nx'=nx+1∧∃L',H' b=some (L'.c3 f)∧(∀i,i<nx→i≠b→H' i=H i)∧PermR a e L L':=by
 obtain⟨l,rfl⟩:∃l,e=a+l:=⟨e-a,by omega⟩
 have te:((a+l:Nat):Int)-(a:Int)=(l:Int):=by omega
 obtain⟨w,hw⟩:∃w,a+l/4*2-1=w:=⟨_,rfl⟩
 have tq:bb .quo false false (.int .i64 (l:Int)) (.int .i64 4)=some (.int .i64 ((l/4:Nat):Int)):=by
  rw[gd (by omega) (by omega) (by omega)]
  congr 2
 have w1:(a:Int)+((l/4:Nat):Int)*2-1=(w:Int):=by omega
 have w2:(a:Int)+((l/4:Nat):Int)*2+1=((w+2:Nat):Int):=by omega
 have hbn:b≠nx:=by omega
 have wl:IntKind.wrap .u64 (l:Int)=l:=e9 (by omega) (by omega);refine fO Dd ?_;simp only[b88,ay];have ls:∀x y:AV,bv [x] 0 [y]=[y]:=fun _ _=>rfl;simp only[bv,de,dF,bQ] at ls;have zz:=aI @te (aI @wl @ls);repeat' (first|refine zW ?_|apply a_n|refine zO ?_|refine vZ ?_|refine alZ ?_|refine stZ ?_|(refine zGZ ?_ ?_<;>(intro _hg;try (exfalso;omega)))|fail)
 refine aJ ev0 ev0 (xn (x:=l) (by omega) (by omega)) ?_;rintro _ _ _ ⟨rfl,rfl,k,rfl,hk1,hk2⟩;obtain⟨p,hp⟩:∃p,2^k=p+1:=⟨2^k-1,by omega⟩
 rw[hp] at hk1 hk2 ⊢;clear zz;have zz:=aI @te (aI @tq @w1);repeat' (first|refine zW ?_|apply a_n|refine zO ?_|refine vZ ?_|fail)
 have wm:IntKind.wrap .u64 (((p+1:Nat):Int)-1)=(p:Int):=by rw[e9 (by omega) (by omega)];omega
 refine bo (X:=Nat×List α) (fun x=>[(0,.msl b (n*3) 3 0 n),(1,.int .i64 a),(8,.int .i64 l),(9,.ptr nx 1 0),(10,.int .u64 ((p+1:Nat):Int)),(11,.int .i64 (x.1:Nat))]) (fun x H' nxx=>w≤x.1∧x.1≤w+3∧H' b=some (x.2.c3 f)∧(∃s,H' nx=some [.int .u64 s])∧(∀i,i<nx→i≠b→H' i=H i)∧nxx=nx+1∧PermR a (a+l) L x.2) (fun x=>w+3-x.1) (w,L) ⟨aM _,by dsimp only;omega,by dsimp only;rw[af hbn];first|exact hH|(rw[af hbn];exact hH),⟨_,aj⟩,fun i h1 h2=>by rw[af (by omega)];first|rfl|exact af (by omega),rfl,.refl⟩ (by simp (disch:=omega) only[agr,ZG,reduceEqDiff,↓reduceIte,de,dF,bQ,true_and]) ?_;rintro⟨i,M⟩ H1 nxx ⟨h1,h2,hb1,⟨s,hs⟩,hfr,rfl,hp1⟩;dsimp only at *;have hl:M.length=n:=by rw[hp1.len,hn]
 by_cases hi:i=w+3
 ·subst hi;clear zz;have zz:=aI @tq @w2;repeat' (first|refine zW ?_|apply a_n|apply a_x|refine zO ?_|refine vZ ?_|(refine zGZ ?_ ?_<;>(intro _hg;try (exfalso;omega)))|refine ae rfl ?_|fail)
  exact⟨rfl,M,hb1,hfr,hp1⟩
 have ti:((i:Nat):Int)+1=((i+1:Nat):Int):=by omega
 clear zz;have zz:=aI @tq @w2;repeat' (first|refine zW ?_|apply a_n|refine zO ?_|refine vZ ?_|(refine zGZ ?_ ?_<;>(intro _hg;try (exfalso;omega)))|fail)
 refine aJ ev0 ev0 (xI hs) ?_;rintro _ _ _ ⟨rfl,s1,rfl,rfl⟩;obtain⟨r,hr1,hr2⟩:=sX (a:=s1) (m:=p) (by omega);obtain⟨H2,hH2⟩:∃H2,am H1 nx [.int .u64 s1]=H2:=⟨_,rfl⟩
 have hb2:H2 b=some (M.c3 f):=by rw[←hH2,af hbn];exact hb1
 have hs2:H2 nx=some [.int .u64 s1]:=by rw[←hH2];exact aj
 have hfr2:∀i,i<nx→i≠b→H2 i=H i:=fun i k1 k2=>by rw[←hH2,af (by omega)];exact hfr i k1 k2
 rw[hH2];clear zz;clear hH2 hb1 hs hfr
 obtain⟨z,hz,hzl⟩:∃z:Nat,(if l≤r then(r:Int)-l else(r:Int))=(z:Int)∧z<l:=by
  split
  ·exact⟨r-l,by omega,by omega⟩
  ·exact⟨r,rfl,by omega⟩
 obtain⟨M1,hl1,lm1,lm2,c1,c2,c3,c4⟩:=cl (f:=f) hc.len (M:=M) (i:=i) (j:=a+z) (by omega) (by omega);have lm3:=lm2;simp only[bv] at lm1 lm2;by_cases hrl:l≤r
 ·rw[if_pos hrl] at hz;have zz:=aI @wm (aI @hr1 (aI @hz (aI @hb2 (aI @ti (aI @cz (aI (rdC hc.len) (aI (br hc.len) (aI @bB (aI hc.agg (aI hc.ones (aI @lm1 @lm2)))))))))));repeat' (first|refine zW ?_|apply a_n|refine zO ?_|refine vZ ?_|refine stZ ?_|(refine zGZ ?_ ?_<;>(intro _hg;try (exfalso;omega)))|fail)
  exact⟨(i+1,swp M i (a+z)),by dsimp only;omega,⟨by dsimp only;omega,by dsimp only;omega,by dsimp only;rw[ao,lm3,aj],⟨s1,by rw[ao,af (Ne.symm hbn)];exact hs2⟩,fun i k1 k2=>by rw[ao,af k2];exact hfr2 i k1 k2,rfl,hp1.trans (PermR.swap (by omega) (by omega) (by omega))⟩,ag0⟩
 ·rw[if_neg hrl] at hz;have hz':r=z:=by omega
  subst hz';have zz:=aI @wm (aI @hr1 (aI @hb2 (aI @ti (aI @cz (aI (rdC hc.len) (aI (br hc.len) (aI @bB (aI hc.agg (aI hc.ones (aI @lm1 @lm2))))))))));repeat' (first|refine zW ?_|apply a_n|refine zO ?_|refine vZ ?_|refine stZ ?_|(refine zGZ ?_ ?_<;>(intro _hg;try (exfalso;omega)))|fail)
  exact⟨(i+1,swp M i (a+r)),by dsimp only;omega,⟨by dsimp only;omega,by dsimp only;omega,by dsimp only;rw[ao,lm3,aj],⟨s1,by rw[ao,af (Ne.symm hbn)];exact hs2⟩,fun i k1 k2=>by rw[ao,af k2];exact hfr2 i k1 k2,rfl,hp1.trans (PermR.swap (by omega) (by omega) (by omega))⟩,ag0⟩
end
end Go.Proofs.YtcbkggfipdldaaaGreat
namespace Go.Proofs.YtcbkggfipdldaaaGreat
open Go Go.Abs
section
variable{α:Type}[Inhabited α]{f:α→AV}{K:α→α→Int}{G:α→Prop}{g:Nat}{caps:List AV}
attribute [local irreducible] aG al bh a7 aV aU aB aX a9 bt Go.Abs.Fn aZ Go.Abs.Pure ax aO Yl
set_option maxHeartbeats 1000000 in
theorem Bg(hc:Cmp3 Tryz.prog f K G g caps){b n:Nat}(hn2:n≤1000000000):∀(sz a e lim:Nat)(L:List α)(H:Hp)(nx:Nat),e-a<sz→H b=some (L.c3 f)→b<nx→L.length=n→(∀x∈L,G x)→a≤e→e≤n→lim≤64→mD K a e L→
    Abs.Fn Tryz.prog 70 [.msl b (n*3) 3 0 n,.int .i64 a,.int .i64 e,.int .i64 lim,.func g caps] H nx fun r H' nx'=>∃L',PS H H' nx nx' b (L'.c3 f)∧PermR a e L L'∧aW K a e L':=by
 intro sz
 induction sz with
 |zero=>intro a e lim L H nx h;omega
 |succ sz ih=>
 intro a e lim L H nx hsz hH hbx hn hG hae hen hlim hlow;have dcap:=hc.dcaps;refine fO D9 ?_;simp only[b70,ay]
 repeat' (first|refine zW ?_|apply a_n|refine zO ?_|refine vZ ?_|fail)
 refine bo (X:=Nat×Nat×Nat×Bool×Bool×List α) (fun x=>[(0,.msl b (n*3) 3 0 n),(1,.int .i64 (x.1:Nat)),(2,.int .i64 (x.2.1:Nat)),(3,.int .i64 (x.2.2.1:Nat)),(4,.func g caps),(10,.bool x.2.2.2.1),(11,.bool x.2.2.2.2.1)]) (fun x H' nxx=>PI K a e L x.1 x.2.1 x.2.2.2.2.2∧PS H H' nx nxx b (x.2.2.2.2.2.c3 f)∧x.2.2.1≤64) (fun x=>x.2.1-x.1) (a,e,lim,true,true,L) ⟨.start hae (by rw[hn];exact hen) hlow,⟨hH,fun _ _ _=>rfl,aM _⟩,hlim⟩ ag0 ?_;clear hlim hlow lim;rintro⟨a1,e1,lim,wb,wp,M⟩ H1 n1 ⟨hpi,hps,hlim⟩;dsimp only at *;have hlo:=hpi.lo;have hmid:=hpi.mid;have hhi:=hpi.hi;obtain⟨l,hl0⟩:∃l,e1-a1=l:=⟨_,rfl⟩
 rw[hl0];have te:(e1:Int)-(a1:Int)=(l:Int):=by omega
 have hlen:∀M:List α,PI K a e L a1 e1 M→M.length=n:=fun M h=>by rw[h.perm.len,hn]
 have hGA:∀M:List α,PI K a e L a1 e1 M→∀x∈M,G x:=fun M h=>h.perm.mem hG;have hbn:∀(M:List α)(H1:Hp)(n1:Nat),PS H H1 nx n1 b (M.c3 f)→b<n1:=fun M H1 n1 h=>by have:=h.le;omega
 obtain⟨T,hT,t0,t1,t2,t3,t4,t10,t11⟩:∃T,tl [(0,.msl b (n*3) 3 0 n),(1,.int .i64 (a1:Nat)),(2,.int .i64 (e1:Nat)),(3,.int .i64 (lim:Nat)),(4,.func g caps),(10,.bool wb),(11,.bool wp)]=T∧T 0=.msl b (n*3) 3 0 n∧T 1=.int .i64 (a1:Nat)∧T 2=.int .i64 (e1:Nat)∧T 3=.int .i64 (lim:Nat)∧T 4=.func g caps∧T 10=.bool wb∧T 11=.bool wp:=⟨_,rfl,rfl,rfl,rfl,rfl,rfl,rfl,rfl⟩
 rw[hT];clear hT;refine dg ?_;refine aQ (fun T H'' nx''=>T 0=.msl b (n*3) 3 0 n∧T 1=.int .i64 (a1:Nat)∧T 2=.int .i64 (e1:Nat)∧T 3=.int .i64 (lim:Nat)∧T 4=.func g caps∧T 10=.bool wb∧T 11=.bool wp∧T 12=.int .i64 (l:Nat)∧H1=H''∧n1=nx'') ?_ ?_
 ·have zz:=aI @t0 (aI @t1 (aI @t2 (aI @t3 (aI @t4 (aI @t10 (aI @t11 @te))))));repeat' (first|apply a_n|refine zO ?_|refine vZ ?_|fail)
  exact⟨(have zz:=@t0;evZ),(have zz:=@t1;evZ),(have zz:=@t2;evZ),(have zz:=@t3;evZ),(have zz:=@t4;evZ),(have zz:=@t10;evZ),(have zz:=@t11;evZ),ev0,rfl,rfl⟩
 clear t0 t1 t2 t3 t4 t10 t11;rintro T _ _ ⟨t0,t1,t2,t3,t4,t10,t11,t12,rfl,rfl⟩;refine aQ (fun T H'' nx''=>T 0=.msl b (n*3) 3 0 n∧T 1=.int .i64 (a1:Nat)∧T 2=.int .i64 (e1:Nat)∧T 3=.int .i64 (lim:Nat)∧T 4=.func g caps∧T 10=.bool wb∧T 11=.bool wp∧T 12=.int .i64 (l:Nat)∧13≤l∧H1=H''∧n1=nx'') ?_ ?_
 ·by_cases h12:l≤12
  ·have zz:=aI @t0 (aI @t1 (aI @t2 (aI @t3 (aI @t4 (aI @t10 (aI @t11 @t12))))));repeat' (first|refine zW ?_|apply a_n|refine zO ?_|refine vZ ?_|(refine zGZ ?_ ?_<;>(intro _hg;try (exfalso;omega)))|fail)
   refine aJ ev0 (have zz:=aI @t0 (aI @t1 (aI @t2 (aI @t3 (aI @t4 (aI @t10 (aI @t11 @t12))))));evZ) (Cr hc (b:=b) hps.at_ (hlen _ hpi) (hGA _ hpi) (a:=a1) (e:=e1) hmid (by omega) hn2) ?_;rintro _ _ _ ⟨rfl,N,rfl,hpN,hsN⟩
   repeat' (first|apply a_n|apply a_r|refine zO ?_|refine ae rfl ?_|fail)
   exact⟨N,hps.upd,hpi.done hpN hsN⟩
  ·have zz:=aI @t0 (aI @t1 (aI @t2 (aI @t3 (aI @t4 (aI @t10 (aI @t11 @t12))))));repeat' (first|refine zW ?_|apply a_n|refine zO ?_|refine vZ ?_|(refine zGZ ?_ ?_<;>(intro _hg;try (exfalso;omega)))|fail)
   exact⟨(have zz:=@t0;evZ),(have zz:=@t1;evZ),(have zz:=@t2;evZ),(have zz:=@t3;evZ),(have zz:=@t4;evZ),(have zz:=@t10;evZ),(have zz:=@t11;evZ),(have zz:=@t12;evZ),by omega,rfl,rfl⟩
 clear t0 t1 t2 t3 t4 t10 t11 t12;rintro T _ _ ⟨t0,t1,t2,t3,t4,t10,t11,t12,h13,rfl,rfl⟩;refine aQ (fun T H'' nx''=>T 0=.msl b (n*3) 3 0 n∧T 1=.int .i64 (a1:Nat)∧T 2=.int .i64 (e1:Nat)∧T 3=.int .i64 (lim:Nat)∧T 4=.func g caps∧T 10=.bool wb∧T 11=.bool wp∧T 12=.int .i64 (l:Nat)∧0<lim∧H1=H''∧n1=nx'') ?_ ?_
 ·by_cases h12:lim=0
  ·subst h12;have tz:decide (((0:Nat):Int)=0)=true:=rfl;have zz:=aI @t0 (aI @t1 (aI @t2 (aI @t3 (aI @t4 (aI @t10 (aI @t11 (aI @t12 @tz)))))));repeat' (first|refine zW ?_|apply a_n|refine zO ?_|refine vZ ?_|refine cTZ ?_|fail)
   refine aJ ev0 (have zz:=aI @t0 (aI @t1 (aI @t2 (aI @t3 (aI @t4 (aI @t10 (aI @t11 @t12))))));evZ) (A7 hc (b:=b) hps.at_ (hlen _ hpi) (hGA _ hpi) (a:=a1) (e:=e1) hmid (by omega) hn2) ?_;rintro _ _ _ ⟨rfl,N,rfl,hpN,hsN⟩
   repeat' (first|apply a_n|apply a_r|refine zO ?_|refine ae rfl ?_|fail)
   exact⟨N,hps.upd,hpi.done hpN hsN⟩
  ·have tz:decide ((lim:Int)=0)=false:=dN (by omega);have zz:=aI @t0 (aI @t1 (aI @t2 (aI @t3 (aI @t4 (aI @t10 (aI @t11 (aI @t12 @tz)))))));repeat' (first|refine zW ?_|apply a_n|refine zO ?_|refine vZ ?_|refine cFZ ?_|fail)
   exact⟨(have zz:=@t0;evZ),(have zz:=@t1;evZ),(have zz:=@t2;evZ),(have zz:=@t3;evZ),(have zz:=@t4;evZ),(have zz:=@t10;evZ),(have zz:=@t11;evZ),(have zz:=@t12;evZ),by omega,rfl,rfl⟩
 clear t0 t1 t2 t3 t4 t10 t11 t12;rintro T _ _ ⟨t0,t1,t2,t3,t4,t10,t11,t12,hlim1,rfl,rfl⟩;refine aQ (fun T H'' nx''=>∃(lim:Nat)(M:List α),lim≤64∧PI K a e L a1 e1 M∧PS H H'' nx nx'' b (M.c3 f)∧T 0=.msl b (n*3) 3 0 n∧T 1=.int .i64 (a1:Nat)∧T 2=.int .i64 (e1:Nat)∧T 3=.int .i64 (lim:Nat)∧T 4=.func g caps∧T 10=.bool wb∧T 11=.bool wp∧T 12=.int .i64 (l:Nat)) ?_ ?_
 ·cases wb
  ·obtain⟨k,rfl⟩:∃k,lim=k+1:=⟨lim-1,by omega⟩
   have tk:((k+1:Nat):Int)-1=(k:Int):=by omega
   have zz:=aI @t0 (aI @t1 (aI @t2 (aI @t3 (aI @t4 (aI @t10 (aI @t11 @t12))))));repeat' (first|refine zW ?_|apply a_n|refine zO ?_|refine vZ ?_|refine cTZ ?_|fail)
   refine aJ ev0 (have zz:=aI @t0 (aI @t1 (aI @t2 (aI @t3 (aI @t4 (aI @t10 (aI @t11 @t12))))));evZ) (zr hc (b:=b) hps.at_ (hbn _ _ _ hps) (hlen _ hpi) (a:=a1) (e:=e1) (by omega) (by omega) hn2) ?_;rintro _ _ _ ⟨rfl,N,hN1,hN2,hpN⟩;clear zz;have zz:=aI @t0 (aI @t1 (aI @t2 (aI @t3 (aI @t4 (aI @t10 (aI @t11 (aI @t12 @tk)))))));repeat' (first|apply a_n|refine zO ?_|refine vZ ?_|fail)
   exact⟨k,N,by omega,hpi.swap hpN,hps.rec_ hN1 hN2 (Nat.le_succ _),(have zz:=@t0;evZ),(have zz:=@t1;evZ),(have zz:=@t2;evZ),(have zz:=@t3;evZ),(have zz:=@t4;evZ),(have zz:=@t10;evZ),(have zz:=@t11;evZ),(have zz:=@t12;evZ)⟩
  ·have zz:=aI @t0 (aI @t1 (aI @t2 (aI @t3 (aI @t4 (aI @t10 (aI @t11 @t12))))));repeat' (first|refine zW ?_|apply a_n|refine zO ?_|refine vZ ?_|refine cFZ ?_|fail)
   exact⟨lim,M,hlim,hpi,hps,(have zz:=@t0;evZ),(have zz:=@t1;evZ),(have zz:=@t2;evZ),(have zz:=@t3;evZ),(have zz:=@t4;evZ),(have zz:=@t10;evZ),(have zz:=@t11;evZ),(have zz:=@t12;evZ)⟩
 clear t0 t1 t2 t3 t4 t10 t11 t12 hpi hps hlim hlim1;rintro T H1 n1 ⟨lim,M,hlim,hpi,hps,t0,t1,t2,t3,t4,t10,t11,t12⟩;refine aQ (fun T H'' nx''=>∃(p:Nat)(hint:Int),a1≤p∧p<e1∧PS H H'' nx nx'' b (M.c3 f)∧T 0=.msl b (n*3) 3 0 n∧T 1=.int .i64 (a1:Nat)∧T 2=.int .i64 (e1:Nat)∧T 3=.int .i64 (lim:Nat)∧T 4=.func g caps∧T 10=.bool wb∧T 11=.bool wp∧T 12=.int .i64 (l:Nat)∧T 13=.int .i64 (p:Nat)∧T 14=.int .i64 hint) ?_ ?_
 ·have zz:=aI @t0 (aI @t1 (aI @t2 (aI @t3 (aI @t4 (aI @t10 (aI @t11 @t12))))));repeat' (first|apply a_n|refine zO ?_|refine vZ ?_|fail)
  refine aJ ev0 (have zz:=aI @t0 (aI @t1 (aI @t2 (aI @t3 (aI @t4 (aI @t10 (aI @t11 @t12))))));evZ) (xx hc (b:=b) hps.at_ (hbn _ _ _ hps) (hlen _ hpi) (hGA _ hpi) (a:=a1) (e:=e1) (by omega) (by omega) hn2) ?_;rintro _ _ _ ⟨rfl,p,hint,v,rfl,hp1,hp2,rfl⟩;clear zz;have zz:=aI @t0 (aI @t1 (aI @t2 (aI @t3 (aI @t4 (aI @t10 (aI @t11 @t12))))));repeat' (first|apply a_n|refine zO ?_|refine vZ ?_|fail)
  exact⟨p,hint,hp1,hp2,hps.new hbx,(have zz:=@t0;evZ),(have zz:=@t1;evZ),(have zz:=@t2;evZ),(have zz:=@t3;evZ),(have zz:=@t4;evZ),(have zz:=@t10;evZ),(have zz:=@t11;evZ),(have zz:=@t12;evZ),ev0,ev0⟩
 clear t0 t1 t2 t3 t4 t10 t11 t12 hps;rintro T H1 n1 ⟨p,hint,hp1,hp2,hps,t0,t1,t2,t3,t4,t10,t11,t12,t13,t14⟩;refine aQ (fun T H'' nx''=>∃(p:Nat)(hint:Int)(M:List α),a1≤p∧p<e1∧PI K a e L a1 e1 M∧PS H H'' nx nx'' b (M.c3 f)∧T 0=.msl b (n*3) 3 0 n∧T 1=.int .i64 (a1:Nat)∧T 2=.int .i64 (e1:Nat)∧T 3=.int .i64 (lim:Nat)∧T 4=.func g caps∧T 10=.bool wb∧T 11=.bool wp∧T 12=.int .i64 (l:Nat)∧T 13=.int .i64 (p:Nat)∧T 14=.int .i64 hint) ?_ ?_
 ·by_cases h2:hint=2
  ·subst h2;obtain⟨p2,hp3⟩:∃p2,e1-1-(p-a1)=p2:=⟨_,rfl⟩
   have tp:(e1:Int)-1-((p:Int)-(a1:Int))=(p2:Int):=by omega
   have tz:decide ((2:Int)=2)=true:=rfl;have zz:=aI @t0 (aI @t1 (aI @t2 (aI @t3 (aI @t4 (aI @t10 (aI @t11 (aI @t12 (aI @t13 (aI @t14 @tz)))))))));repeat' (first|refine zW ?_|apply a_n|refine zO ?_|refine vZ ?_|(refine zGZ ?_ ?_<;>(intro _hg;try (exfalso;omega)))|fail)
   refine aJ ev0 (have zz:=aI @t0 (aI @t1 (aI @t2 (aI @t3 (aI @t4 (aI @t10 (aI @t11 @t12))))));evZ) (Ca hc (b:=b) hps.at_ (hlen _ hpi) (a:=a1) (e:=e1) (by omega) (by omega) hn2) ?_;rintro _ _ _ ⟨rfl,N,rfl,hpN⟩;clear zz;have zz:=aI @t0 (aI @t1 (aI @t2 (aI @t3 (aI @t4 (aI @t10 (aI @t11 (aI @t12 (aI @t13 (aI @t14 @tp)))))))));repeat' (first|refine zW ?_|apply a_n|refine zO ?_|refine vZ ?_|fail)
   exact⟨p2,1,N,by omega,by omega,hpi.swap hpN,hps.upd,(have zz:=@t0;evZ),(have zz:=@t1;evZ),(have zz:=@t2;evZ),(have zz:=@t3;evZ),(have zz:=@t4;evZ),(have zz:=@t10;evZ),(have zz:=@t11;evZ),(have zz:=@t12;evZ),ev0,ev0⟩
  ·have tz:decide (hint=2)=false:=dN h2;have zz:=aI @t0 (aI @t1 (aI @t2 (aI @t3 (aI @t4 (aI @t10 (aI @t11 (aI @t12 (aI @t13 (aI @t14 @tz)))))))));repeat' (first|refine zW ?_|apply a_n|refine zO ?_|refine vZ ?_|refine cFZ ?_|fail)
   exact⟨p,hint,M,hp1,hp2,hpi,hps,(have zz:=@t0;evZ),(have zz:=@t1;evZ),(have zz:=@t2;evZ),(have zz:=@t3;evZ),(have zz:=@t4;evZ),(have zz:=@t10;evZ),(have zz:=@t11;evZ),(have zz:=@t12;evZ),(have zz:=@t13;evZ),(have zz:=@t14;evZ)⟩
 clear t0 t1 t2 t3 t4 t10 t11 t12 t13 t14 hps hpi hp1 hp2;rintro T H1 n1 ⟨p,hint,M,hp1,hp2,hpi,hps,t0,t1,t2,t3,t4,t10,t11,t12,t13,t14⟩;refine aQ (fun T H'' nx''=>∃(M:List α),PI K a e L a1 e1 M∧PS H H'' nx nx'' b (M.c3 f)∧T 0=.msl b (n*3) 3 0 n∧T 1=.int .i64 (a1:Nat)∧T 2=.int .i64 (e1:Nat)∧T 3=.int .i64 (lim:Nat)∧T 4=.func g caps∧T 10=.bool wb∧T 11=.bool wp∧T 12=.int .i64 (l:Nat)∧T 13=.int .i64 (p:Nat)) ?_ ?_
 ·cases wb
  ·cases wp
   ·have zz:=aI @t0 (aI @t1 (aI @t2 (aI @t3 (aI @t4 (aI @t10 (aI @t11 (aI @t12 (aI @t13 @t14))))))));repeat' (first|refine zW ?_|apply a_n|refine zO ?_|refine vZ ?_|refine gFZ ?_|refine cFZ ?_|fail)
    exact⟨M,hpi,hps,(have zz:=@t0;evZ),(have zz:=@t1;evZ),(have zz:=@t2;evZ),(have zz:=@t3;evZ),(have zz:=@t4;evZ),(have zz:=@t10;evZ),(have zz:=@t11;evZ),(have zz:=@t12;evZ),(have zz:=@t13;evZ)⟩
   ·have zz:=aI @t0 (aI @t1 (aI @t2 (aI @t3 (aI @t4 (aI @t10 (aI @t11 (aI @t12 (aI @t13 @t14))))))));repeat' (first|refine zW ?_|apply a_n|refine zO ?_|refine vZ ?_|refine gFZ ?_|refine cFZ ?_|fail)
    exact⟨M,hpi,hps,(have zz:=@t0;evZ),(have zz:=@t1;evZ),(have zz:=@t2;evZ),(have zz:=@t3;evZ),(have zz:=@t4;evZ),(have zz:=@t10;evZ),(have zz:=@t11;evZ),(have zz:=@t12;evZ),(have zz:=@t13;evZ)⟩
  ·cases wp
   ·have zz:=aI @t0 (aI @t1 (aI @t2 (aI @t3 (aI @t4 (aI @t10 (aI @t11 (aI @t12 (aI @t13 @t14))))))));repeat' (first|refine zW ?_|apply a_n|refine zO ?_|refine vZ ?_|refine gTZ ?_|refine gFZ ?_|refine cFZ ?_|fail)
    exact⟨M,hpi,hps,(have zz:=@t0;evZ),(have zz:=@t1;evZ),(have zz:=@t2;evZ),(have zz:=@t3;evZ),(have zz:=@t4;evZ),(have zz:=@t10;evZ),(have zz:=@t11;evZ),(have zz:=@t12;evZ),(have zz:=@t13;evZ)⟩
   ·by_cases h1:hint=1
    ·subst h1;have tz:decide ((1:Int)=1)=true:=rfl;have zz:=aI @t0 (aI @t1 (aI @t2 (aI @t3 (aI @t4 (aI @t10 (aI @t11 (aI @t12 (aI @t13 (aI @t14 @tz)))))))));repeat' (first|refine zW ?_|apply a_n|refine zO ?_|refine vZ ?_|refine gTZ ?_|(refine zGZ ?_ ?_<;>(intro _hg;try (exfalso;omega)))|fail)
     refine aJ ev0 (have zz:=aI @t0 (aI @t1 (aI @t2 (aI @t3 (aI @t4 (aI @t10 (aI @t11 @t12))))));evZ) (wC hc (b:=b) hps.at_ (hlen _ hpi) (hGA _ hpi) (a:=a1) (e:=e1) (by omega) (by omega) hn2 hpi.low) ?_;rintro _ _ _ ⟨rfl,N,t,rfl,rfl,hpN,hsN⟩;cases t
     ·clear zz;have zz:=aI @t0 (aI @t1 (aI @t2 (aI @t3 (aI @t4 (aI @t10 (aI @t11 (aI @t12 (aI @t13 @t14))))))));repeat' (first|apply a_n|refine zO ?_|refine cFZ ?_|fail)
      exact⟨N,hpi.swap hpN,hps.upd,(have zz:=@t0;evZ),(have zz:=@t1;evZ),(have zz:=@t2;evZ),(have zz:=@t3;evZ),(have zz:=@t4;evZ),(have zz:=@t10;evZ),(have zz:=@t11;evZ),(have zz:=@t12;evZ),(have zz:=@t13;evZ)⟩
     ·clear zz;have zz:=aI @t0 (aI @t1 (aI @t2 (aI @t3 (aI @t4 (aI @t10 (aI @t11 (aI @t12 (aI @t13 @t14))))))));repeat' (first|apply a_n|apply a_r|refine zO ?_|refine cTZ ?_|refine ae rfl ?_|fail)
      exact⟨N,hps.upd,hpi.done hpN (hsN rfl)⟩
    ·have tz:decide (hint=1)=false:=dN h1;have zz:=aI @t0 (aI @t1 (aI @t2 (aI @t3 (aI @t4 (aI @t10 (aI @t11 (aI @t12 (aI @t13 (aI @t14 @tz)))))))));repeat' (first|refine zW ?_|apply a_n|refine zO ?_|refine vZ ?_|refine gTZ ?_|refine cFZ ?_|fail)
     exact⟨M,hpi,hps,(have zz:=@t0;evZ),(have zz:=@t1;evZ),(have zz:=@t2;evZ),(have zz:=@t3;evZ),(have zz:=@t4;evZ),(have zz:=@t10;evZ),(have zz:=@t11;evZ),(have zz:=@t12;evZ),(have zz:=@t13;evZ)⟩
 clear t0 t1 t2 t3 t4 t10 t11 t12 t13 t14 hps hpi hint;rintro T H1 n1 ⟨M,hpi,hps,t0,t1,t2,t3,t4,t10,t11,t12,t13⟩;have hbb:=hps.at_;have hl:=hlen _ hpi;have hGM:=hGA _ hpi;refine aQ (fun T H'' nx''=>T 0=.msl b (n*3) 3 0 n∧T 1=.int .i64 (a1:Nat)∧T 2=.int .i64 (e1:Nat)∧T 3=.int .i64 (lim:Nat)∧T 4=.func g caps∧T 10=.bool wb∧T 11=.bool wp∧T 12=.int .i64 (l:Nat)∧T 13=.int .i64 (p:Nat)∧H1=H''∧n1=nx'') ?_ ?_
 ·by_cases ha0:a1=0
  ·have tz:decide ((0:Int)<(a1:Int))=false:=dN (by omega);have zz:=aI @t0 (aI @t1 (aI @t2 (aI @t3 (aI @t4 (aI @t10 (aI @t11 (aI @t12 (aI @t13 @tz))))))));repeat' (first|refine zW ?_|refine zM ?_|apply a_n|refine zO ?_|refine vZ ?_|refine gFZ ?_|refine cFZ ?_|fail)
   exact⟨(have zz:=@t0;evZ),(have zz:=@t1;evZ),(have zz:=@t2;evZ),(have zz:=@t3;evZ),(have zz:=@t4;evZ),(have zz:=@t10;evZ),(have zz:=@t11;evZ),(have zz:=@t12;evZ),(have zz:=@t13;evZ),rfl,rfl⟩
  have tz:decide ((0:Int)<(a1:Int))=true:=cA (by omega);obtain⟨k,hk⟩:∃k,a1-1=k:=⟨_,rfl⟩
  have tk:(a1:Int)-1=(k:Int):=by omega
  have lc:=hc.run (M.getD k default) (M.getD p default) (hGM _ (an (by omega))) (hGM _ (an (by omega)));have d1:=hc.dat (M.getD k default);have d2:=hc.dat (M.getD p default);generalize hKK:K (M.getD k default) (M.getD p default)=kk at lc;by_cases hlt:kk<0
  ·have zz:=aI @t0 (aI @t1 (aI @t2 (aI @t3 (aI @t4 (aI @t10 (aI @t11 (aI @t12 (aI @t13 (aI @tz (aI @tk (aI @hbb (aI @bD (aI (rdC hc.len) (aI (br hc.len) (aI @bB (aI hc.agg hc.ones))))))))))))))));repeat' (first|refine zW ?_|refine zM ?_|apply a_n|refine zO ?_|refine vZ ?_|refine cZ ?_ (hp:=lc) (hs:=by(first|refine ak ?_ rfl|apply au);(repeat' (first|exact ai|apply aD|apply aw|exact d1|exact d2|exact av dcap));first|done|fail)|refine gTZ ?_|(refine zGZ ?_ ?_<;>(intro _hg;try (exfalso;omega)))|fail)
   exact⟨(have zz:=@t0;evZ),(have zz:=@t1;evZ),(have zz:=@t2;evZ),(have zz:=@t3;evZ),(have zz:=@t4;evZ),(have zz:=@t10;evZ),(have zz:=@t11;evZ),(have zz:=@t12;evZ),(have zz:=@t13;evZ),rfl,rfl⟩
  ·have zz:=aI @t0 (aI @t1 (aI @t2 (aI @t3 (aI @t4 (aI @t10 (aI @t11 (aI @t12 (aI @t13 (aI @tz (aI @tk (aI @hbb (aI @bD (aI (rdC hc.len) (aI (br hc.len) (aI @bB (aI hc.agg hc.ones))))))))))))))));repeat' (first|refine zW ?_|refine zM ?_|apply a_n|refine zO ?_|refine vZ ?_|refine cZ ?_ (hp:=lc) (hs:=by(first|refine ak ?_ rfl|apply au);(repeat' (first|exact ai|apply aD|apply aw|exact d1|exact d2|exact av dcap));first|done|fail)|refine gTZ ?_|(refine zGZ ?_ ?_<;>(intro _hg;try (exfalso;omega)))|fail)
   refine aJ ev0 (have zz:=aI @t0 (aI @t1 (aI @t2 (aI @t3 (aI @t4 (aI @t10 (aI @t11 (aI @t12 @t13)))))));evZ) (xj hc (b:=b) hps.at_ (hlen _ hpi) (hGA _ hpi) (a:=a1) (e:=e1) (pv:=p) (by omega) (by omega) hn2 ⟨hp1,hp2⟩) ?_;rintro _ _ _ ⟨rfl,N,m,rfl,hm1,hm2,rfl,hpN,q1,q2⟩;clear zz;have zz:=aI @t0 (aI @t1 (aI @t2 (aI @t3 (aI @t4 (aI @t10 (aI @t11 (aI @t12 @t13)))))));repeat' (first|refine zW ?_|apply a_n|apply a_x|refine zO ?_|refine vZ ?_|fail)
   exact⟨(m,e1,lim,wb,wp,N),by dsimp only;omega,⟨hpi.equal hc.ord hpN (by rw[hk,hKK];exact hlt) (by omega) ⟨hm1,hm2⟩ q1 q2,hps.upd,hlim⟩,(have zz:=aI @t0 (aI @t1 (aI @t2 (aI @t3 (aI @t4 (aI @t10 (aI @t11 @t12))))));agZ)⟩
 clear t0 t1 t2 t3 t4 t10 t11 t12 t13;rintro T _ _ ⟨t0,t1,t2,t3,t4,t10,t11,t12,t13,rfl,rfl⟩;refine aQ (fun T H'' nx''=>∃(M:List α)(m:Nat)(t:Bool),PI K a e L a1 e1 M∧TwoS K a1 e1 m M∧PS H H'' nx nx'' b (M.c3 f)∧T 0=.msl b (n*3) 3 0 n∧T 1=.int .i64 (a1:Nat)∧T 2=.int .i64 (e1:Nat)∧T 3=.int .i64 (lim:Nat)∧T 4=.func g caps∧T 10=.bool wb∧T 11=.bool wp∧T 12=.int .i64 (l:Nat)∧T 16=.int .i64 (m:Nat)∧T 17=.bool t) ?_ ?_
 ·have zz:=aI @t0 (aI @t1 (aI @t2 (aI @t3 (aI @t4 (aI @t10 (aI @t11 (aI @t12 @t13)))))));repeat' (first|apply a_n|refine zO ?_|refine vZ ?_|fail)
  refine aJ ev0 (have zz:=aI @t0 (aI @t1 (aI @t2 (aI @t3 (aI @t4 (aI @t10 (aI @t11 (aI @t12 @t13)))))));evZ) (Av hc (b:=b) hps.at_ (hlen _ hpi) (hGA _ hpi) (a:=a1) (e:=e1) (pv:=p) (by omega) (by omega) hn2 ⟨hp1,hp2⟩) ?_;rintro _ _ _ ⟨rfl,N,m,t,rfl,hm1,hm2,rfl,hpN,q1,q2⟩;clear zz;have zz:=aI @t0 (aI @t1 (aI @t2 (aI @t3 (aI @t4 (aI @t10 (aI @t11 (aI @t12 @t13)))))));repeat' (first|apply a_n|refine zO ?_|refine vZ ?_|fail)
  exact⟨N,m,t,hpi.swap hpN,⟨⟨hm1,hm2⟩,fun p k1 k2=>hc.ord.asym _ _ (q1 p k1 k2),q2⟩,hps.upd,(have zz:=@t0;evZ),(have zz:=@t1;evZ),(have zz:=@t2;evZ),(have zz:=@t3;evZ),(have zz:=@t4;evZ),(have zz:=@t10;evZ),(have zz:=@t11;evZ),(have zz:=@t12;evZ),ev0,ev0⟩
 clear t0 t1 t2 t3 t4 t10 t11 t12 t13 hbb hl hGM hpi hps hp1 hp2 p;rintro T H1 n1 ⟨M,m,t,hpi,hts,hps,t0,t1,t2,t3,t4,t10,t11,t12,t16,t17⟩;have hm:=hts.mid;have hl:=hlen _ hpi
 have tq:bb .quo false false (.int .i64 (l:Int)) (.int .i64 8)=some (.int .i64 ((l/8:Nat):Int)):=by
  rw[gd (by omega) (by omega) (by omega)]
  congr 2
 have tm:(m:Int)+1=((m+1:Nat):Int):=by omega
 by_cases hlr:(m:Int)-(a1:Int)<(e1:Int)-(m:Int)
 ·have tz:decide ((m:Int)-(a1:Int)<(e1:Int)-(m:Int))=true:=cA hlr;have zz:=aI @t0 (aI @t1 (aI @t2 (aI @t3 (aI @t4 (aI @t10 (aI @t11 (aI @t12 (aI @t16 (aI @t17 (aI @tq @tz))))))))));repeat' (first|refine zW ?_|apply a_n|refine zO ?_|refine vZ ?_|refine cTZ ?_|fail)
  refine aJ ev0 (have zz:=aI @t0 (aI @t1 (aI @t2 (aI @t3 (aI @t4 (aI @t10 (aI @t11 (aI @t12 (aI @t16 @t17))))))));evZ) (ih a1 m lim M H1 n1 (by omega) hps.at_ (hbn _ _ _ hps) hl (hGA _ hpi) (by omega) (by omega) hlim (hpi.low.sub rfl (by omega))) ?_;rintro _ H2 n2 ⟨N,hps2,hpN,hsN⟩;clear zz;have zz:=aI @t0 (aI @t1 (aI @t2 (aI @t3 (aI @t4 (aI @t10 (aI @t11 (aI @t12 (aI @t16 (aI @t17 @tm)))))))));repeat' (first|apply a_n|refine zO ?_|refine vZ ?_|fail)
  exact⟨(m+1,e1,lim,decide (((l/8:Nat):Int)≤(m:Int)-(a1:Int)),t,N),by dsimp only;omega,⟨hpi.left hc.ord hts hpN hsN,hps.rec_ hps2.at_ hps2.fr hps2.le,hlim⟩,(have zz:=aI @t0 (aI @t1 (aI @t2 (aI @t3 (aI @t4 (aI @t10 (aI @t11 (aI @t12 (aI @t16 @t17))))))));agZ)⟩
 ·have tz:decide ((m:Int)-(a1:Int)<(e1:Int)-(m:Int))=false:=dN hlr;have zz:=aI @t0 (aI @t1 (aI @t2 (aI @t3 (aI @t4 (aI @t10 (aI @t11 (aI @t12 (aI @t16 (aI @t17 (aI @tq (aI @tz @tm)))))))))));repeat' (first|refine zW ?_|apply a_n|refine zO ?_|refine vZ ?_|refine cFZ ?_|fail)
  refine aJ ev0 (have zz:=aI @t0 (aI @t1 (aI @t2 (aI @t3 (aI @t4 (aI @t10 (aI @t11 (aI @t12 (aI @t16 @t17))))))));evZ) (ih (m+1) e1 lim M H1 n1 (by omega) hps.at_ (hbn _ _ _ hps) hl (hGA _ hpi) (by omega) (by omega) hlim (fun q k0 k1 k2=>by rw[jE];exact hts.ge q k1 k2)) ?_;rintro _ H2 n2 ⟨N,hps2,hpN,hsN⟩;clear zz;have zz:=aI @t0 (aI @t1 (aI @t2 (aI @t3 (aI @t4 (aI @t10 (aI @t11 (aI @t12 (aI @t16 @t17))))))));repeat' (first|apply a_n|refine zO ?_|refine vZ ?_|fail)
  exact⟨(a1,m,lim,decide (((l/8:Nat):Int)≤(e1:Int)-(m:Int)),t,N),by dsimp only;omega,⟨hpi.right hc.ord hts hpN hsN,hps.rec_ hps2.at_ hps2.fr hps2.le,hlim⟩,(have zz:=aI @t0 (aI @t1 (aI @t2 (aI @t3 (aI @t4 (aI @t10 (aI @t11 (aI @t12 (aI @t16 @t17))))))));agZ)⟩
end
end Go.Proofs.YtcbkggfipdldaaaGreat
namespace Go.Proofs.YtcbkggfipdldaaaGreat
open Go Go.Abs
open Nat (reduceEqDiff reduceAdd reduceLeDiff)
section
variable{α:Type}[Inhabited α]{f:α→AV}{K:α→α→Int}{G:α→Prop}{g:Nat}{caps:List AV}
attribute [local irreducible] aG al bh a7 aV aU aB aX a9 bt Go.Abs.Fn aZ Go.Abs.Pure ax aO Yl
theorem yA(hc:Cmp3 Tryz.prog f K G g caps){L:List α}{H:Hp}{b nx n:Nat}(hH:H b=some (L.c3 f))(hbx:b<nx)(hn:L.length=n)(hn0:0<n)(hG:∀x∈L,G x)(hn2:n≤1000000000):
    Abs.Fn Tryz.prog 29 [.msl b (n*3) 3 0 n,.func g caps] H nx fun r H' nx'=>∃L',PS H H' nx nx' b (L'.c3 f)∧L'.Perm L∧aW K 0 n L':=by
 refine fO Dc ?_;simp only[b29,ay];have w:IntKind.wrap .u64 (n:Int)=n:=e9 (by omega) (by omega);have zz:=@w;repeat' (first|refine zW ?_|apply a_n|refine zO ?_|refine vZ ?_|fail)
 refine aJ ev0 (have zz:=@w;evZ) (sM hn0 (by omega)) ?_;rintro _ _ _ ⟨rfl,rfl,k,rfl,h3,h4⟩
 have hk:k≤62:=by
  rcases oV 62 k with h|h
  ·have:=Nat.pow_le_pow_right (n:=2) (by omega) h;omega
  ·exact h
 repeat' (first|apply a_n|refine zO ?_|refine vZ ?_|fail)
 refine aJ ev0 (have zz:=@Int.natCast_zero;evZ) (Bg hc hn2 (n+1) 0 n k L _ _ (by omega) hH hbx hn hG (by omega) (aM _) (by omega) (fun q h=>by omega)) ?_;rintro _ _ _ ⟨N,hps,hp,hs⟩
 repeat' (first|apply a_n|refine zO ?_|refine ae rfl ?_|fail)
 exact⟨N,hps,hp.perm,hs⟩
end
end Go.Proofs.YtcbkggfipdldaaaGreat
namespace Go.Proofs.YtcbkggfipdldaaaGreat
open Go Go.Abs
open Nat (reduceEqDiff reduceAdd reduceLeDiff)
def mb(l:List Int)(i:Nat):Int:=if l.getD i default<0∨(l.length:Int)≤l.getD i default then 2 else if (l.take i).any (fun x=>decide (x=l.getD i default)) then 7 else 0
def cq(l:List Int):Int:=if l.length<1∨5<l.length then 2 else cE (mb l) l.length
theorem jt{l:List Int}(h:cq l=0):1≤l.length∧l.length≤5∧(∀i,i<l.length→0≤l.getD i default∧l.getD i default<l.length)∧∀i j,i<j→j<l.length→l.getD i default≠l.getD j default:=by
 unfold cq at h;split at h
 ·exact absurd h (by decide)
 rename_i h1;have hz:=dQ h
 have hp:∀i,i<l.length→(0≤l.getD i default∧l.getD i default<l.length)∧(l.take i).any (fun x=>decide (x=l.getD i default))=false:=fun i hi=>by
  have:=hz i hi;unfold mb at this;split at this
  ·exact absurd this (by decide)
  rename_i h2;split at this
  ·exact absurd this (by decide)
  rename_i h3
  exact ⟨by omega,by cases hq:(l.take i).any (fun x=>decide (x=l.getD i default)) with
   |false=>rfl
   |true=>exact absurd hq h3⟩
 refine⟨by omega,by omega,fun i hi=>(hp i hi).1,fun i j hij hj e=>?_⟩;have:=(hp j hj).2;rw[List.any_eq_false] at this;refine this (l.getD i default) ?_ (cA e);rw[List.mem_iff_getElem?];refine⟨i,?_⟩;rw[fT,if_pos hij];simp[List.getD,show i<l.length by omega]
def jb(l:List Int)(k:Nat):List Bool:=(List.range 5).map fun(p:Nat)=>(l.take k).any fun x=>decide (x=(p:Int))
theorem pH(l:List Int)(k:Nat):(jb l k).length=5:=by simp[jb]
theorem vI{l:List Int}{k p:Nat}(hp:p<5):(jb l k).getD p default=(l.take k).any fun x=>decide (x=(p:Int)):=by simp[jb,List.getD,hp]
theorem wK{l:List Int}{k p:Nat}(hk:k<l.length)(e:l.getD k default=(p:Int)):(jb l k).set p true=jb l (k+1):=by
 refine List.ext_getElem (by simp[jb]) fun i h1 h2=>?_;rw[List.getElem_set];simp only[jb,List.getElem_map,List.getElem_range,bN hk,List.any_append,List.any_cons,List.any_nil,Bool.or_false,e];by_cases hi:p=i
 ·subst hi;rw[if_pos rfl];simp
 ·rw[if_neg hi,dN (by omega),Bool.or_false]
def mvK(v p:List Int):Nat→List Int
 |0=>List.replicate v.length 0
 |k+1=>(mvK v p k).set (p.getD k default).toNat (v.getD k default)
def bP(v p:List Int):List Int:=mvK v p v.length
theorem mJ(v p:List Int)(k:Nat):(mvK v p k).length=v.length:=by
 induction k with
 |zero=>simp[mvK]
 |succ k ih=>rw[mvK,List.length_set,ih]
theorem d5(v p:List Int):(bP v p).length=v.length:=mJ v p _
theorem vj{v p:List Int}(hp:cq p=0)(hl:v.length=p.length):∀{k i:Nat},i<k→k≤p.length→(mvK v p k).getD (p.getD i default).toNat default=v.getD i default
 |0,i,h,_=>absurd h (by omega)
 |k+1,i,h,hk=>by
  obtain⟨_,_,p3,p4⟩:=jt hp;have a1:=p3 i (by omega);have a2:=p3 k (by omega);have hlen:=mJ v p k;rw[mvK];by_cases e:i=k
  ·subst e;rw[cr (by omega),if_pos rfl]
  ·have hne:p.getD i default≠p.getD k default:=p4 i k (by omega) (by omega);rw[cr (by omega),if_neg (by omega)];exact vj hp hl (by omega) (by omega)
theorem jm{v p:List Int}(hp:cq p=0)(hl:v.length=p.length){i:Nat}(hi:i<p.length):(bP v p).getD (p.getD i default).toNat default=v.getD i default:=vj hp hl (by omega) (by omega)
theorem px{v w p:List Int}(hp:cq p=0)(hv:v.length=p.length)(hw:w.length=p.length)(h:bP v p=bP w p):v=w:=by
 refine List.ext_getElem (by omega) fun i h1 h2=>?_;have a:=jm hp hv (i:=i) (by omega);have b:=jm hp hw (i:=i) (by omega);rw[h,b] at a;simpa[List.getD,h1,h2] using a.symm
attribute [local irreducible] aG al bh a7 aV aU aB aX a9 bt Go.Abs.Fn aZ Go.Abs.Pure ax aO Yl
theorem nS{T:Tm}{H:Hp}{b n off len sz q:Nat}{x i:Opd}(hx:ov T x=.ptr b n off)(hi:ov T i=.int .i64 (q:Int))(h:q<len):bk T H (.ixaA len sz x i)=some (.ptr b n (off+q*sz)):=by
 simp only[bk,hx,hi,jX];rw[if_pos ⟨by omega,by omega⟩];simp[gQ]
theorem xV(n:Int):pU 67 [.int .i64 n] (.int .i64 (if n<1∨5<n then 2 else 0)):=by
 refine pO D2 ?_;simp only[b67,ay];by_cases h:n<1∨5<n
 ·rw[if_pos h]
  repeat' (first|refine zW ?_|apply a_n|apply a_r|refine zO ?_|refine vZ ?_|refine gTZ ?_|refine gFZ ?_|refine cTZ ?_|(refine zGZ ?_ ?_<;>(intro _hg;try (exfalso;omega)))|refine ae rfl ?_|refine r1Z ?_|fail)
  all_goals exact aR rfl
 ·rw[if_neg h]
  repeat' (first|refine zW ?_|apply a_n|refine zO ?_|refine vZ ?_|refine gTZ ?_|(refine zGZ ?_ ?_<;>(intro _hg;try (exfalso;omega)))|refine ae rfl ?_|refine r1Z ?_|fail)
  all_goals exact aR rfl
theorem md(l:List Int)(hl:Sh l):pU 27 [aC l] (.int .i64 (cq l)):=by
 have hl':l.length≤17592186044416:=hl;refine pO CU ?_;simp only[b27,ay];have hn:=xV l.length;by_cases h:l.length<1∨5<l.length
 ·have e:cq l=2:=by unfold cq;rw[if_pos h]
  rw[if_pos (by omega)] at hn;rw[e]
  repeat' (first|refine zW ?_|apply a_n|apply a_r|refine zO ?_|refine vZ ?_|refine cZ ?_ (hp:=hn)|(refine zGZ ?_ ?_<;>(intro _hg;try (exfalso;omega)))|refine ae rfl ?_|refine r1Z ?_|fail)
  exact aR rfl
 rw[if_neg (by omega)] at hn;have e:cq l=cE (mb l) l.length:=by unfold cq;rw[if_neg h]
 rw[e]
 repeat' (first|refine zW ?_|apply a_n|refine zO ?_|refine vZ ?_|refine cZ ?_ (hp:=hn)|refine alZ ?_|(refine zGZ ?_ ?_<;>(intro _hg;try (exfalso;omega)))|fail)
 refine bo (X:=Nat) (fun k=>[(0,aC l),(4,.ptr 0 5 0),(13,aC l),(14,.int .i64 l.length),(15,.int .i64 k)]) (fun k H nx=>k≤l.length∧H=am bA 0 ((jb l k).map AV.bool)∧nx=1∧∀i,i<k→mb l i=0) (fun k=>l.length-k) 0 ⟨cu _,rfl,rfl,fun i hi=>absurd hi (by omega)⟩ (by simp (disch:=omega) only[agr,ZG,reduceEqDiff,↓reduceIte,de,dF,bQ,reduceAdd]) ?_;rintro k H nx ⟨hk,rfl,rfl,hz⟩;by_cases hk2:k<l.length
 rotate_left
 ·repeat' (first|refine zW ?_|apply a_n|apply a_x|refine zO ?_|refine vZ ?_|(refine zGZ ?_ ?_<;>(intro _hg;try (exfalso;omega)))|refine ae rfl ?_|refine r1Z ?_|fail)
  refine aR ?_;rw[cL fun i hi=>hz i (by omega)]
 have ho:mb l k=if l.getD k default<0∨(l.length:Int)≤l.getD k default then 2 else if (l.take k).any (fun x=>decide (x=l.getD k default)) then 7 else 0:=rfl
 by_cases hr:l.getD k default<0∨(l.length:Int)≤l.getD k default
 ·rw[if_pos hr] at ho
  repeat' (first|refine zW ?_|apply a_n|apply a_r|refine zO ?_|refine vZ ?_|refine gTZ ?_|refine gFZ ?_|refine cTZ ?_|(refine zGZ ?_ ?_<;>(intro _hg;try (exfalso;omega)))|refine ae rfl ?_|refine r1Z ?_|fail)
  all_goals (refine aR ?_;rw[dj hk2 hz (by rw[ho];decide),ho])
 rw[if_neg hr] at ho;obtain⟨q,hq⟩:∃q:Nat,l.getD k default=q:=⟨(l.getD k default).toNat,by omega⟩
 have hq5:q<5:=by omega
 have hsb:=vI (l:=l) (k:=k) hq5;have hsl:=pH l k;have hss:=wK hk2 hq;rw[hq] at ho hr
 have hge:((jb l k).map AV.bool)[q]?=some (.bool ((l.take k).any fun x=>decide (x=(q:Int)))):=by
  rw[←hsb,getElem?_map_lt (by omega)]
 have hla:=pH l k;cases hb:(l.take k).any (fun x=>decide (x=(q:Int)))
 ·rw[hb] at hge ho;rw[if_neg (by decide)] at ho;have hlm:=fU (f:=AV.bool) (l:=jb l k) (k:=q) (x:=true) (by omega);have hlm2:=hlm;simp only[bv,de,dF,bQ] at hlm2;have zz:=@hq;repeat' (first|refine zW ?_|apply a_n|refine zO ?_|refine vZ ?_|refine gTZ ?_|(refine zGZ ?_ ?_<;>(intro _hg;try (exfalso;omega)))|fail)
  refine gJ rfl rfl (nS ev0 (have zz:=@hq;evZ) hq5) ?_;clear zz;have zz:=aI @hq @hge;repeat' (first|apply a_n|refine zO ?_|refine vZ ?_|refine cFZ ?_|fail)
  refine gJ rfl rfl (nS ev0 (have zz:=@hq;evZ) hq5) ?_;clear zz;have zz:=@hq;repeat' (first|apply a_n|refine zO ?_|refine vZ ?_|refine stZ ?_|fail)
  exact ⟨k + 1,by omega,⟨by omega,by rw [ao,Nat.mul_one,hlm,hss],rfl,fun i hi=>by
   rcases iJ.1 hi with h|rfl
   ·exact hz i h
   ·exact ho⟩,ag0⟩
 ·rw[hb] at hge ho;rw[if_pos rfl] at ho;have zz:=@hq;repeat' (first|refine zW ?_|apply a_n|refine zO ?_|refine vZ ?_|refine gTZ ?_|(refine zGZ ?_ ?_<;>(intro _hg;try (exfalso;omega)))|fail)
  refine gJ rfl rfl (nS ev0 (have zz:=@hq;evZ) hq5) ?_;clear zz;have zz:=aI @hq @hge;repeat' (first|refine zW ?_|apply a_n|apply a_r|refine zO ?_|refine vZ ?_|refine cTZ ?_|refine ae rfl ?_|refine r1Z ?_|fail)
  refine aR ?_;rw[dj hk2 hz (by rw[ho];decide),ho]
theorem tN(l:List Int)(hl:Sh l):pU 10 [aC l] (.int .i64 (cq l)):=by
 have hl':l.length≤17592186044416:=hl;refine pO DN ?_;simp only[b10,ay];by_cases h:l.length<1∨5<l.length
 ·have e:cq l=2:=by unfold cq;rw[if_pos h]
  rw[e]
  repeat' (first|refine zW ?_|apply a_n|apply a_r|refine zO ?_|refine vZ ?_|refine gTZ ?_|refine gFZ ?_|refine cTZ ?_|(refine zGZ ?_ ?_<;>(intro _hg;try (exfalso;omega)))|refine ae rfl ?_|refine r1Z ?_|fail)
  all_goals exact aR rfl
 have e:cq l=cE (mb l) l.length:=by unfold cq;rw[if_neg h]
 rw[e]
 repeat' (first|refine zW ?_|apply a_n|refine zO ?_|refine vZ ?_|refine gTZ ?_|(refine zGZ ?_ ?_<;>(intro _hg;try (exfalso;omega)))|fail)
 refine dJ (X:=Nat) (fun k=>[(0,aC l),(3,.int .i64 k)]) (fun k=>k≤l.length∧∀i,i<k→mb l i=0) (fun k=>l.length-k) 0 ⟨cu _,fun i hi=>absurd hi (by omega)⟩ ag0 ?_;rintro k ⟨hk,hz⟩;by_cases hk2:k<l.length
 rotate_left
 ·repeat' (first|refine zW ?_|apply a_n|apply a_x|refine zO ?_|refine vZ ?_|(refine zGZ ?_ ?_<;>(intro _hg;try (exfalso;omega)))|refine ae rfl ?_|refine r1Z ?_|fail)
  refine aR ?_;rw[cL fun i hi=>hz i (by omega)]
 have ho:mb l k=if l.getD k default<0∨(l.length:Int)≤l.getD k default then 2 else if (l.take k).any (fun x=>decide (x=l.getD k default)) then 7 else 0:=rfl
 by_cases hr:l.getD k default<0∨(l.length:Int)≤l.getD k default
 ·rw[if_pos hr] at ho
  repeat' (first|refine zW ?_|apply a_n|apply a_r|refine zO ?_|refine vZ ?_|refine gTZ ?_|refine gFZ ?_|refine cTZ ?_|(refine zGZ ?_ ?_<;>(intro _hg;try (exfalso;omega)))|refine ae rfl ?_|refine r1Z ?_|fail)
  all_goals (refine aR ?_;rw[dj hk2 hz (by rw[ho];decide),ho])
 rw[if_neg hr] at ho
 repeat' (first|refine zW ?_|apply a_n|refine zO ?_|refine vZ ?_|refine gTZ ?_|(refine zGZ ?_ ?_<;>(intro _hg;try (exfalso;omega)))|fail)
 refine dJ (X:=Nat) (fun q=>[(0,aC l),(3,.int .i64 k),(4,.int .i64 q)]) (fun q=>q≤k∧∀i,i<q→l.getD i default≠l.getD k default) (fun q=>k-q) 0 ⟨cu _,fun i hi=>absurd hi (by omega)⟩ ag0 ?_;rintro q ⟨hq,hd⟩;by_cases hqk:q<k
 rotate_left
 ·have hany:(l.take k).any (fun x=>decide (x=l.getD k default))=false:=by
    rw[List.any_eq_false];intro x hx;obtain⟨i,hi,rfl⟩:=fP hx;rw[wX] at hi;have:=hd i (by omega);simpa[List.getD,show i<l.length by omega] using this
  rw[hany,if_neg (by decide)] at ho
  repeat' (first|refine zW ?_|apply a_n|apply a_x|refine zO ?_|refine vZ ?_|(refine zGZ ?_ ?_<;>(intro _hg;try (exfalso;omega)))|fail)
  exact ⟨k + 1,⟨by omega,fun i hi=>by
   rcases iJ.1 hi with h|rfl
   ·exact hz i h
   ·exact ho⟩,by omega,ag0,rfl,rfl⟩
 by_cases he:l.getD q default=l.getD k default
 ·have hany:(l.take k).any (fun x=>decide (x=l.getD k default))=true:=by
    rw[jB];refine⟨l.getD q default,?_,cA he⟩;rw[List.mem_iff_getElem?];exact⟨q,by rw[fT,if_pos hqk];simp[List.getD,show q<l.length by omega]⟩
  rw[hany,if_pos rfl] at ho;have z:decide (l.getD q default=l.getD k default)=true:=cA he;have zz:=@z;repeat' (first|refine zW ?_|apply a_n|apply a_r|refine zO ?_|refine vZ ?_|refine cTZ ?_|(refine zGZ ?_ ?_<;>(intro _hg;try (exfalso;omega)))|refine ae rfl ?_|refine r1Z ?_|fail)
  refine aR ?_;rw[dj hk2 hz (by rw[ho];decide),ho]
 ·have z:decide (l.getD q default=l.getD k default)=false:=dN he;have zz:=@z;repeat' (first|refine zW ?_|apply a_n|refine zO ?_|refine vZ ?_|refine cFZ ?_|(refine zGZ ?_ ?_<;>(intro _hg;try (exfalso;omega)))|fail)
  exact ⟨q + 1,⟨by omega,fun i hi=>by
   rcases iJ.1 hi with h|rfl
   ·exact hd i h
   ·exact he⟩,by omega,ag0,rfl,rfl⟩
theorem wg(v p:List Int)(hp:cq p=0)(hl:v.length=p.length):pU 68 [aC p,aC v] (.tup [aC (bP v p),.int .i64 0]):=by
 obtain⟨p1,p2,p3,p4⟩:=jt hp;have hc:=md p (show p.length≤_ by omega);rw[hp] at hc;have hlv:decide ((v.length:Int)=(p.length:Int))=true:=cA (by omega)
 have hz:bn (.agg [.int .i64 0]) v.length=(mvK v p 0).map (AV.int .i64):=by
  simp[bn,mvK,AV.cells]
 refine pO DL ?_;simp only[b68,ay];have zz:=@hlv;repeat' (first|refine zW ?_|apply a_n|refine zO ?_|refine vZ ?_|refine cZ ?_ (hp:=hc)|(refine zGZ ?_ ?_<;>(intro _hg;try (exfalso;omega)))|fail)
 refine zK rfl ev0 ev0 (by omega) (by omega) (by omega) (by omega) ?_;rw[bD,hz]
 repeat' (first|refine zW ?_|apply a_n|refine zO ?_|refine vZ ?_|fail)
 refine bo (X:=Nat) (fun k=>[(0,aC p),(1,aC v),(7,.msl 0 v.length 1 0 v.length),(23,aC p),(24,.int .i64 p.length),(25,.int .i64 k)]) (fun k H nx=>k≤p.length∧H=am bA 0 ((mvK v p k).map (AV.int .i64))∧nx=1) (fun k=>p.length-k) 0 ⟨cu _,rfl,rfl⟩ (by simp (disch:=omega) only[agr,ZG,reduceEqDiff,↓reduceIte,Nat.mul_one]) ?_;rintro k H nx ⟨hk,rfl,rfl⟩;have hml:=mJ v p k;by_cases hk2:k<p.length
 ·have hr:=p3 k hk2;have hlm:=fU (f:=AV.int .i64) (l:=mvK v p k) (k:=(p.getD k default).toNat) (x:=v.getD k default) (by omega)
  repeat' (first|refine zW ?_|apply a_n|refine zO ?_|refine vZ ?_|refine stZ ?_|(refine zGZ ?_ ?_<;>(intro _hg;try (exfalso;omega)))|fail)
  exact⟨k+1,by omega,⟨by omega,by rw[ao,hlm];rfl,rfl⟩,ag0⟩
 ·obtain rfl:k=p.length:=by omega
  repeat' (first|refine zW ?_|apply a_n|apply a_x|refine zO ?_|refine vZ ?_|(refine zGZ ?_ ?_<;>(intro _hg;try (exfalso;omega)))|refine ae rfl ?_|refine r2Z ?_|fail)
  rw[show bP v p=mvK v p p.length by unfold bP;rw[hl]];exact gP (ap (cV aj rfl (by rw[mJ])) (ap (.int _ _) ai))
end Go.Proofs.YtcbkggfipdldaaaGreat
namespace Go.Proofs.YtcbkggfipdldaaaGreat
open Go Go.Abs
section
variable{α:Type}[Inhabited α]{K:α→α→Int}
def ke(K:α→α→Int)(l:List α)(v:α):Nat→Nat
 |0=>0
 |k+1=>if K v (l.getD k default)<0 then ke K l v k else k+1
def qM(K:α→α→Int)(l:List α)(v:α):List α:=l.take (ke K l v l.length)++v::l.drop (ke K l v l.length)
def kd(K:α→α→Int)(l:List α):List α:=l.foldl (qM K) []
theorem uQ(l:List α)(v:α):∀k,ke K l v k≤k
 |0=>aM _
 |k+1=>by
  rw[ke];split
  ·exact Nat.le_succ_of_le (uQ l v k)
  ·exact aM _
theorem oo{l:List α}{v:α}:∀{k i:Nat},ke K l v k≤i→i<k→K v (l.getD i default)<0
 |0,i,_,h=>absurd h (by omega)
 |k+1,i,h1,h2=>by
  rw[ke] at h1;split at h1
  ·by_cases e:i=k
   ·subst e;assumption
   ·exact oo h1 (by omega)
  ·omega
theorem n7{l:List α}{v:α}:∀{k:Nat},0<ke K l v k→¬K v (l.getD (ke K l v k-1) default)<0
 |0,h=>absurd h (Nat.lt_irrefl _)
 |k+1,h=>by
  rw[ke] at h ⊢;split
  ·rename_i c;rw[if_pos c] at h;exact n7 h
  ·rename_i c;rw[jE];exact c
theorem vS(l:List α)(v:α):(qM K l v).Perm (v::l):=by
 unfold qM;refine List.perm_middle.trans ?_;rw[uq]
def dI(K:α→α→Int)(l:List α):Prop:=l.Pairwise fun x y=>¬K y x<0
theorem dI.of{l:List α}(h:aW K 0 l.length l):dI K l:=by
 unfold dI;rw[vU];intro i j hi hj hij;have:=h i j (cu _) hij hj;simpa[List.getD,hi,hj] using this
theorem sU(hK:Ord K){l:List α}{v:α}(h:dI K l):dI K (qM K l v):=by
 unfold qM;have hle:=uQ (K:=K) l v l.length;have hab:∀i,ke K l v l.length≤i→i<l.length→K v (l.getD i default)<0:=fun i h1 h2=>oo h1 h2;have hbe:0<ke K l v l.length→¬K v (l.getD (ke K l v l.length-1) default)<0:=fun h=>n7 h;generalize ke K l v l.length=k at *;have hs:∀i j(hi:i<l.length)(hj:j<l.length),i<j→¬K l[j] l[i]<0:=vU.1 h
 have hlow:∀x∈l.take k,¬K v x<0:=fun x hx=>by
  obtain⟨i,hi,rfl⟩:=fP hx;rw[wX] at hi;rw[List.getElem_take];have hk:=hbe (by omega);have e:l.getD (k-1) default=l[k-1]'(by omega):=by simp[List.getD,show k-1<l.length by omega]
  rw[e] at hk;by_cases hik:i=k-1
  ·subst hik;exact hk
  ·exact hK.negtr _ _ _ (hs i (k-1) (by omega) (by omega) (by omega)) hk
 have hup:∀x∈l.drop k,K v x<0:=fun x hx=>by
  obtain⟨i,hi,rfl⟩:=fP hx;rw[List.length_drop] at hi;rw[List.getElem_drop];have:=hab (k+i) (by omega) (by omega);simpa[List.getD,show k+i<l.length by omega] using this
 unfold dI;rw[List.pairwise_append,xX];refine⟨List.Pairwise.sublist (List.take_sublist _ _) h,⟨fun x hx=>hK.asym _ _ (hup x hx),List.Pairwise.sublist (List.drop_sublist _ _) h⟩,fun x hx y hy=>?_⟩;rcases fo.1 hy with rfl|hy
 ·exact hlow x hx
 ·exact hK.negtr _ _ _ (hlow x hx) (hK.asym _ _ (hup y hy))
theorem iZ:∀(l acc:List α),(l.foldl (qM K) acc).Perm (acc++l)
 |[],acc=>by simp
 |v::l,acc=>by
  refine(iZ l (qM K acc v)).trans ?_;refine(List.Perm.append_right l (vS acc v)).trans ?_;rw[List.cons_append];exact List.perm_middle.symm
theorem gH(hK:Ord K):∀(l acc:List α),dI K acc→dI K (l.foldl (qM K) acc)
 |[],acc,h=>h
 |v::l,acc,h=>gH hK l (qM K acc v) (sU hK h)
theorem f7(l:List α):(kd K l).Perm l:=by
 have:=iZ (K:=K) l []
 rwa [List.nil_append] at this
theorem qN(hK:Ord K)(l:List α):dI K (kd K l):=gH hK l [] .nil
theorem pk(l:List α):(kd K l).length=l.length:=(f7 l).length_eq
theorem fK(hK:Ord K){L L':List α}(hA:∀x∈L,∀y∈L,¬K x y<0→¬K y x<0→x=y)(hs:dI K L')(hp:L'.Perm L):L'=kd K L:=
 List.Perm.eq_of_pairwise (fun x y hx hy hxy hyx=>hA x (hp.mem_iff.1 hx) y ((f7 L).mem_iff.1 hy) hyx hxy) hs (qN hK L) (hp.trans (f7 L).symm)
end
theorem vQ:Ord bl where
 irr x:=by rw[ew];omega
 asym x y h:=by rw[f0];omega
 negtr x y z h1 h2 h3:=by
  rcases oJ y x with h|h|h
  ·omega
  ·have e:=nq h;subst e;exact h2 h3
  ·have hxy:bl x y<0:=by rw[f0];omega
   have:=iQ h3 hxy;omega
theorem qh{x y:List Int}(h1:¬bl x y<0)(h2:¬bl y x<0):x=y:=by
 rw[f0] at h2;exact nq (by omega)
abbrev zX(l:List (List Int)):List (List Int):=kd bl l
theorem DI:Cmp Tryz.prog aC bl (fun l=>Sh l) 24 [] where
 cells _:=rfl
 one _:=rfl
 dat v:=bw v
 dcaps:=by simp
 run x y hx hy:=eT x y hx hy
 ord:=vQ
attribute [local irreducible] aG al bh a7 aV aU aB aX a9 bt Go.Abs.Fn aZ Go.Abs.Pure ax aO Yl
def gv(l:List (List Int))(p:List Int):List (List Int):=zX (l.map fun v=>bP v p)
theorem qo(l:List (List Int))(p:List Int)(hp:cq p=0)(hl:l.length≤100000)(hv:∀v∈l,v.length=p.length):pU 28 [bd l,aC p] (bd (gv l p)):=by
 refine pO CN ?_;simp only[b28,ay];have hp5:=(jt hp).2.1
 repeat' (first|refine zW ?_|apply a_n|refine zO ?_|refine vZ ?_|fail)
 refine bo (X:=AV×Nat) (fun x=>[(1,aC p),(5,x.1),(10,bd l),(11,.int .i64 l.length),(12,.int .i64 x.2)]) (fun x H nx=>x.2≤l.length∧Row H 1 x.1 (((l.take x.2).map fun v=>bP v p).map aC)∧(∀b,cH x.1=some b→b<nx)∧(x.2=0→x.1=.esl)) (fun x=>l.length-x.2) (.esl,0) ⟨cu _,Row.nil,fun b hb=>(by cases hb),fun _=>rfl⟩ ag0 ?_;rintro⟨s,j⟩ H nx ⟨h1,h2,h3,h4⟩;dsimp only at h1 h2 h3 h4 ⊢;by_cases hj:j<l.length
 ·have hw:=an hj;have hvc:=wg (l.getD j default) p hp (hv _ hw)
  repeat' (first|refine zW ?_|apply a_n|refine zO ?_|refine vZ ?_|refine cZ ?_ (hp:=hvc)|refine blZ ?_|(refine zGZ ?_ ?_<;>(intro _hg;try (exfalso;omega)))|fail)
  refine pn rfl ev0 (h2.same fun b hb=>?_) ev0 iV rfl rfl ru (by simp;omega) (by simp;omega) ?_
  ·have:=h3 b hb;rw[af (by omega)]
  rintro s2 E e hrow hle1 hle2 hsame hb2
  repeat' (first|apply a_n|refine zO ?_|refine vZ ?_|fail)
  refine⟨(s2,j+1),by dsimp only;omega,⟨by dsimp only;omega,?_,fun b hb=>?_,fun h=>absurd h (Nat.succ_ne_zero _)⟩,ag0⟩
  ·dsimp only;rw[bN hj,hU,hU];exact hrow
  ·rcases hb2 b hb with h|h
   ·have:=h3 b h;omega
   ·omega
 ·rw[jz (by omega)] at h2;unfold gv;generalize hL:(l.map fun v=>bP v p)=L at h2 ⊢;have hLl:L.length=l.length:=by rw[←hL,dM]
  have hLs:∀x∈L,Sh x:=fun x hx=>by
   rw[←hL] at hx;obtain⟨v,hv2,rfl⟩:=dp.1 hx;show(bP v p).length≤_;rw[d5,hv v hv2];omega
  rcases mS L.length with h0|h0
  ·have e:=e8.1 h0;subst e;obtain rfl:s=.esl:=h4 (by simp at hLl;omega)
   repeat' (first|refine zW ?_|apply a_n|apply a_x|refine zO ?_|refine vZ ?_|(refine zGZ ?_ ?_<;>(intro _hg;try (exfalso;omega)))|fail)
   refine aJ ev0 ev0 yW ?_;rintro _ _ _ ⟨rfl,rfl⟩
   repeat' (first|refine zW ?_|apply a_n|refine zO ?_|refine vZ ?_|refine ae rfl ?_|refine r1Z ?_|fail)
   exact .eslsl 1
  have hrow:∃B,s=.msl B L.length 1 0 L.length∧H B=some (L.map aC)∧B<nx:=by
   generalize hcs:L.map aC=cs at h2;cases h2 with
   |nil=>
    rw[List.map_eq_nil_iff] at hcs;rw[hcs] at h0;exact absurd h0 (Nat.lt_irrefl _)
   |box B len cs hb hl2=>
    have e:len=L.length:=by rw[←hcs,dM] at hl2;omega
    subst e;exact⟨B,by rw[Nat.mul_one],hb,h3 B rfl⟩
  obtain⟨B,rfl,hB,hBn⟩:=hrow
  repeat' (first|refine zW ?_|apply a_n|apply a_x|refine zO ?_|refine vZ ?_|(refine zGZ ?_ ?_<;>(intro _hg;try (exfalso;omega)))|fail)
  refine aJ ev0 ev0 (yP DI hB hBn rfl h0 hLs (by omega)) ?_;rintro _ H1 n1 ⟨M,hps,hpM,hsM⟩;have hMl:M.length=L.length:=hpM.length_eq;have hM:M=zX L:=fK vQ (fun x _ y _=>qh) (dI.of (by rw[hMl];exact hsM)) hpM
  repeat' (first|refine zW ?_|apply a_n|refine zO ?_|refine vZ ?_|refine ae rfl ?_|refine r1Z ?_|fail)
  rw[←hM];exact vO hps.at_ rfl hMl
end Go.Proofs.YtcbkggfipdldaaaGreat
namespace Go.Proofs.YtcbkggfipdldaaaGreat
open Go Go.Abs
section
variable{α:Type}[Inhabited α]{f:α→AV}{K:α→α→Int}{G:α→Prop}
attribute [local irreducible] aG al bh a7 aV aU aB aX a9 bt Go.Abs.Fn aZ Go.Abs.Pure ax aO Yl
end
end Go.Proofs.YtcbkggfipdldaaaGreat
namespace Go.Proofs.YtcbkggfipdldaaaGreat
open Go Go.Abs
section
variable{α:Type}[Inhabited α]{f:α→AV}{K:α→α→Int}{G:α→Prop}
attribute [local irreducible] aG al bh a7 aV aU aB aX a9 bt Go.Abs.Fn aZ Go.Abs.Pure ax aO Yl
end
end Go.Proofs.YtcbkggfipdldaaaGreat
namespace Go.Proofs.YtcbkggfipdldaaaGreat
open Go Go.Abs
section
variable{α:Type}[Inhabited α]{f:α→AV}{K:α→α→Int}{G:α→Prop}
attribute [local irreducible] aG al bh a7 aV aU aB aX a9 bt Go.Abs.Fn aZ Go.Abs.Pure ax aO Yl
end
end Go.Proofs.YtcbkggfipdldaaaGreat
namespace Go.Proofs.YtcbkggfipdldaaaGreat
open Go Go.Abs
section
variable{α:Type}[Inhabited α]{f:α→AV}{K:α→α→Int}{G:α→Prop}
attribute [local irreducible] aG al bh a7 aV aU aB aX a9 bt Go.Abs.Fn aZ Go.Abs.Pure ax aO Yl
end
end Go.Proofs.YtcbkggfipdldaaaGreat
namespace Go.Proofs.YtcbkggfipdldaaaGreat
open Go Go.Abs
section
variable{α:Type}[Inhabited α]{f:α→AV}{K:α→α→Int}{G:α→Prop}
attribute [local irreducible] aG al bh a7 aV aU aB aX a9 bt Go.Abs.Fn aZ Go.Abs.Pure ax aO Yl
end
end Go.Proofs.YtcbkggfipdldaaaGreat
namespace Go.Proofs.YtcbkggfipdldaaaGreat
open Go Go.Abs
section
variable{α:Type}[Inhabited α]{f:α→AV}{K:α→α→Int}{G:α→Prop}
attribute [local irreducible] aG al bh a7 aV aU aB aX a9 bt Go.Abs.Fn aZ Go.Abs.Pure ax aO Yl
end
end Go.Proofs.YtcbkggfipdldaaaGreat
namespace Go.Proofs.YtcbkggfipdldaaaGreat
open Go Go.Abs
section
variable{α:Type}[Inhabited α]{f:α→AV}{K:α→α→Int}{G:α→Prop}
attribute [local irreducible] aG al bh a7 aV aU aB aX a9 bt Go.Abs.Fn aZ Go.Abs.Pure ax aO Yl
end
end Go.Proofs.YtcbkggfipdldaaaGreat
namespace Go.Proofs.YtcbkggfipdldaaaGreat
open Go Go.Abs
section
variable{α:Type}[Inhabited α]{f:α→AV}{K:α→α→Int}{G:α→Prop}
attribute [local irreducible] aG al bh a7 aV aU aB aX a9 bt Go.Abs.Fn aZ Go.Abs.Pure ax aO Yl
end
end Go.Proofs.YtcbkggfipdldaaaGreat
namespace Go.Proofs.YtcbkggfipdldaaaGreat
open Go Go.Abs
section
variable{α:Type}[Inhabited α]{f:α→AV}{K:α→α→Int}{G:α→Prop}
attribute [local irreducible] aG al bh a7 aV aU aB aX a9 bt Go.Abs.Fn aZ Go.Abs.Pure ax aO Yl
end
attribute [local irreducible] aG al bh a7 aV aU aB aX a9 bt Go.Abs.Fn aZ Go.Abs.Pure ax aO Yl
end Go.Proofs.YtcbkggfipdldaaaGreat
namespace Go.Proofs.YtcbkggfipdldaaaGreat
open Go Go.Abs
open Nat (reduceEqDiff reduceAdd reduceLeDiff)
def idx(l:List Int)(v:Int):Int:=if v∈l then(l.idxOf v:Nat) else-1
theorem tP{l:List Int}{v:Int}{k:Nat}(hk:k<l.length)(h:∀i,i<k→l.getD i default≠v)(hv:v=l.getD k default):idx l v=k:=by
 have e:l.getD k default=l[k]:=by simp[List.getD,hk]
 have hm:v∈l:=by rw[hv,e];exact jx hk
 unfold idx;rw[if_pos hm]
 have h1:l.idxOf v≤k:=by
  by_cases hlt:l.idxOf v≤k
  ·exact hlt
  ·exfalso;have:=List.not_of_lt_findIdx (xs:=l) (p:=(· ==v)) (i:=k) (by simp only[List.idxOf] at hlt;omega);rw[e] at hv;subst hv;simp at this
 have h2:k≤l.idxOf v:=by
  by_cases hlt:k≤l.idxOf v
  ·exact hlt
  ·exfalso;have hi:=List.idxOf_lt_length_iff.2 hm;have:=h (l.idxOf v) (by omega);apply this;simp[List.getD,hi]
 omega
theorem ni{l:List Int}{v:Int}(h:∀i,i<l.length→l.getD i default≠v):idx l v=-1:=by
 unfold idx;rw[if_neg];intro hm;obtain⟨i,hi,e⟩:=fP hm;exact h i hi (by simp[List.getD,hi,e])
section
variable{t:TaskV}{S:List Nat}(hc:bU t=0)(hp:S.Pairwise (· < ·))(hS:∀i∈S,i<t.cases.length)
theorem ga(h:bU t=0):(¬(t.n<1∨5<t.n∨t.ins<1∨8<t.ins∨t.outs<1∨8<t.outs))∧(1≤t.cases.length∧t.cases.length≤1024)∧∀k,k<t.cases.length→bH (t.cases.getD k default).inp t.n t.ins=0∧cp t.n t.outs (t.cases.getD k default)=0:=by
 unfold bU at h;split at h
 ·omega
 ·rename_i h1;split at h
  ·omega
  ·rename_i h2;refine⟨h1,by omega,fun k hk=>?_⟩;have h3:=dQ h k hk;unfold gN at h3;split at h3
   ·exact absurd h3 ‹_›
   ·rename_i h4;split at h3
    ·omega
    ·exact⟨Decidable.byContradiction fun x=>h4 x,h3⟩
include hc in
theorem zH{i j:Nat}(hi:i<t.cases.length)(hj:j<t.cases.length)(h:(t.cases.getD i default).inp=(t.cases.getD j default).inp):i=j:=by
 rcases tH i j with hl|rfl|hl
 ·have:=n9 hc j i hl hj;rw[h,ew] at this;omega
 ·rfl
 ·have:=n9 hc i j hl hi;rw[h,ew] at this;omega
end
def Dw(w:Int)(i:Nat):Bool:=decide (IntKind.wrap .u16 ((BitVec.ofInt 16 (w.fdiv (2^(min (i%16) 16))) &&& BitVec.ofInt 16 1).toNat:Int)=1)
def sm(w:Int)(k:Nat):List Nat:=(List.range k).filter (Dw w)
attribute [local irreducible] aG al bh a7 aV aU aB aX a9 bt Go.Abs.Fn aZ Go.Abs.Pure ax aO Yl
theorem qJ(l:List Int)(v:Int)(hl:Sh l):pU 122 [aC l,.int .i64 v] (.int .i64 (idx l v)):=by
 refine pO zY ?_;simp only[Ay,ay]
 repeat' (first|refine zW ?_|apply a_n|refine zO ?_|refine vZ ?_|fail)
 refine dJ (X:=Nat) (fun k=>[(0,aC l),(1,.int .i64 v),(7,.int .i64 l.length),(8,.int .i64 k)]) (fun k=>k≤l.length∧∀i,i<k→l.getD i default≠v) (fun k=>l.length-k) 0 ⟨cu _,by simp⟩ ag0 ?_;rintro k ⟨h1,h2⟩
 repeat' (first|refine zW ?_|apply a_n|apply a_x|apply a_r|refine zO ?_|refine vZ ?_|(refine zGZ ?_ ?_<;>(intro _hg;try (exfalso;omega)))|refine ae rfl ?_|refine r1Z ?_|fail)
 ·exact aR (tP (by omega) h2 _hg).symm
 ·refine⟨k+1,⟨by omega,fun i hi=>?_⟩,by omega,ag0,rfl,rfl⟩;rcases iJ.1 hi with h|rfl
  ·exact h2 i h
  ·exact fun e=>_hg e.symm
 ·exact aR (ni fun i hi=>h2 i (by omega)).symm
theorem mV(l:List Int)(v:Int)(hl:Sh l):pU 97 [aC l,.int .i64 v] (.bool (decide (v∈l))):=by
 refine pO BR ?_;simp only[b97,ay]
 repeat' (first|refine zW ?_|apply a_n|refine zO ?_|refine vZ ?_|refine cZ ?_ (hp:=by exact qJ _ _ hl)|refine ae rfl ?_|refine r1Z ?_|fail)
 refine aY ?_;unfold idx;split<;>simp_all
theorem uF(a:List Int)(ha:Sh a):pU 31 [aC a,aC a] (.int .i64 0):=by
 have:=AZ a a ha ha
 rwa [ew] at this
theorem ff(a:List (List Int))(ha:Sh a)(hs:∀x∈a,Sh x):pU 19 [bd a,bd a] (.bool true):=by
 refine pO BL ?_;simp only[b19,ay]
 repeat' (first|refine zW ?_|apply a_n|refine zO ?_|refine vZ ?_|(refine zGZ ?_ ?_<;>(intro _hg;try (exfalso;omega)))|fail)
 refine dJ (X:=Nat) (fun k=>[(0,bd a),(1,bd a),(5,.int .i64 k)]) (fun k=>k≤a.length) (fun k=>a.length-k) 0 (cu _) ag0 ?_;rintro k h1
 repeat' (first|refine zW ?_|refine zM ?_|apply a_n|apply a_x|refine zO ?_|refine vZ ?_|refine cZ ?_ (hp:=by exact uF _ (hs _ (an (by omega))))|(refine zGZ ?_ ?_<;>(intro _hg;try (exfalso;omega)))|refine ae rfl ?_|refine r1Z ?_|fail)
 ·refine⟨k+1,by omega,by omega,ag0,rfl,rfl⟩
 ·exact .bool _
theorem xf(t:TaskV)(h1:Sh t.cases)(h2:∀c∈t.cases,ShC c):pU 12 [encT t,encT t] (.bool true):=by
 refine pO Cn ?_;simp only[b12,ay];have zz:=aI @ba (aI @az (aI @ar @aS));repeat' (first|refine zW ?_|apply a_n|refine zO ?_|refine vZ ?_|refine bxZ ?_|refine gTZ ?_|(refine zGZ ?_ ?_<;>(intro _hg;try (exfalso;omega)))|fail)
 refine bo (X:=Nat) (fun k=>[(2,.ptr 0 4 0),(3,.ptr 1 4 0),(5,.int .i64 k)]) (fun k H nx=>k≤t.cases.length∧2≤nx∧H 0=some [.int .i64 t.n,.int .i64 t.ins,.int .i64 t.outs,encCs t.cases]∧H 1=some [.int .i64 t.n,.int .i64 t.ins,.int .i64 t.outs,encCs t.cases]) (fun k=>t.cases.length-k) 0 ⟨cu _,aM _,rfl,rfl⟩ (by simp (disch:=omega) only[agr,ZG,reduceEqDiff,↓reduceIte,de,dF,reduceAdd,bQ]) ?_;rintro k H nx ⟨hk,hn,g0,g1⟩;by_cases hj:k<t.cases.length
 ·obtain⟨s1,s2,s3,s4,s5⟩:=h2 _ (an hj);clear zz;have zz:=aI @g0 (aI @g1 (aI @az (aI @ar (aI @aS @a6))));repeat' (first|refine zW ?_|apply a_n|refine zO ?_|refine vY ?_|refine cY ?_ (hp:=by first|exact uF _ s1|exact ff _ s2 s3|exact ff _ s4 s5)|refine alY ?_|refine stY ?_|refine gTY ?_|refine cFY ?_|(refine zGY ?_ ?_<;>(intro _hg;try (exfalso;omega)))|fail)
  refine⟨k+1,by omega,⟨by omega,by omega,?_,?_⟩,ag0⟩
  ·rw[af (by omega),af (by omega),af (by omega),af (by omega),g0]
  ·rw[af (by omega),af (by omega),af (by omega),af (by omega),g1]
 ·clear zz;have zz:=aI @g0 (aI @g1 (aI @az (aI @ar (aI @aS @a6))));repeat' (first|refine zW ?_|apply a_n|apply a_x|refine zO ?_|refine vY ?_|(refine zGY ?_ ?_<;>(intro _hg;try (exfalso;omega)))|refine ae rfl ?_|refine r1Y ?_|fail)
  exact .bool _
end Go.Proofs.YtcbkggfipdldaaaGreat
namespace Go.Proofs.YtcbkggfipdldaaaGreat
open Go Go.Abs
theorem pt{v:List Int}{n most:Int}(h:bH v n most=0):(v.length:Int)=n∧∀x∈v,0≤x∧x<most:=by
 unfold bH at h;by_cases c:(v.length:Int)≠n
 ·rw[if_pos c] at h;exact absurd h (by decide)
 ·rw[if_neg c] at h;refine⟨by omega,fun x hx=>?_⟩;by_cases c2:v.any (fun x=>decide (x<0∨most≤x))=true
  ·rw[if_pos c2] at h;exact absurd h (by decide)
  ·rw[Bool.not_eq_true,List.any_eq_false] at c2;have:=c2 x hx;simp only[jA] at this;omega
theorem we{t:TaskV}{k:Nat}(h:bU t=0)(hk:k<t.cases.length):
    (1≤(t.cases.getD k default).out.length)∧(∀v∈(t.cases.getD k default).out,(v.length:Int)=t.n∧∀x∈v,0≤x∧x<t.outs)∧(∀v∈(t.cases.getD k default).calm,v∈(t.cases.getD k default).out):=by
 have h0:=((ga h).2.2 k hk).2;generalize t.cases.getD k default=c at *;unfold cp at h0;split at h0
 ·exact absurd h0 (by decide)
 split at h0
 ·exact absurd h0 ‹_›
 rename_i g1 g2;have o0:=dQ (s9 g2);have c0:=dQ h0;refine⟨by omega,fun v hv=>?_,fun v hv=>?_⟩
 ·obtain⟨j,hj,rfl⟩:=fP hv;have:=o0 j hj;unfold mC at this;split at this
  ·exact absurd this ‹_›
  ·rename_i g3;have e:=pt (s9 g3);simpa[List.getD,hj] using e
 ·obtain⟨j,hj,rfl⟩:=fP hv;have:=c0 j hj;unfold lY at this;split at this
  ·rename_i g3;simpa[List.getD,hj] using g3
  ·exact absurd this (by decide)
attribute [local irreducible] aG al bh a7 aV aU aB aX a9 bt Go.Abs.Fn aZ Go.Abs.Pure ax aO Yl
end Go.Proofs.YtcbkggfipdldaaaGreat
namespace Go.Proofs.YtcbkggfipdldaaaGreat
open Go Go.Abs
open Nat (reduceEqDiff reduceAdd reduceLeDiff)
def KC(c d:CaseV):Int:=bl c.inp d.inp
def mr(p:List Int)(c:CaseV):CaseV:=⟨bP c.inp p,gv c.out p,gv c.calm p⟩
def renT(t:TaskV)(p:List Int):TaskV:=⟨t.n,t.ins,t.outs,kd KC (t.cases.map (mr p))⟩
def dz(t:TaskV)(p:List Int):TaskV×Int:=if bU t≠0 then(T00,bU t) else if cq p≠0 then(T00,cq p) else if (p.length:Int)≠t.n then(T00,22) else(renT t p,0)
theorem A3:Ord KC where
 irr x:=vQ.irr x.inp
 asym x y:=vQ.asym x.inp y.inp
 negtr x y z:=vQ.negtr x.inp y.inp z.inp
theorem wO(v p:List Int):gv [v] p=[bP v p]:=rfl
theorem yD{t:TaskV}{k:Nat}(h:bU t=0)(hk:k<t.cases.length):((t.cases.getD k default).inp.length:Int)=t.n:=by
 have:=(pt ((ga h).2.2 k hk).1).1;exact this
def na(b1:Nat)(c1:List AV)(b2:Nat)(c2:List AV):Hp:=fun b=>if b=b1 then some c1 else if b=b2 then some c2 else none
theorem pp{H:Hp}{b1 b2:Nat}{c1 c2:List AV}(h1:H b1=some c1)(h2:H b2=some c2):Sub (na b1 c1 b2 c2) H:=fun x c hx=>by
 unfold na at hx;split at hx
 ·cases hx;subst_vars;exact h1
 ·split at hx<;>cases hx
  subst_vars;exact h2
attribute [local irreducible] aG al bh a7 aV aU aB aX a9 bt Go.Abs.Fn aZ Go.Abs.Pure ax aO Yl
theorem tO(x y:CaseV)(hx:ShC x)(hy:ShC y):pU 30 [eb x,eb y] (.int .i64 (KC x y)):=by
 refine pO DH ?_;simp only[b30,ay];have hc:=eT x.inp y.inp hx.1 hy.1;unfold eb KC
 repeat' (first|refine zW ?_|apply a_n|refine zO ?_|refine vZ ?_|refine cZ ?_ (hp:=hc)|refine bxZ ?_|refine ae rfl ?_|refine r1Z ?_|fail)
 exact aR rfl
theorem Dm:Cmp3 Tryz.prog eb KC ShC 30 [] where
 len _:=rfl
 agg _:=rfl
 ones _:=rfl
 dat v:=xd v
 dcaps:=by simp
 run x y hx hy:=tO x y hx hy
 ord:=A3
theorem uj{H:Hp}{B n:Nat}{M:List CaseV}(hB:H B=some (M.c3 eb))(hM:M.length=n):Snap H (.msl B (n*3) 3 0 n) (encCs M):=by
 subst hM;refine Row.snap (elems:=M.map eb) ?_ (fun y hy=>?_) (by omega) (fun y hy c hc=>?_)
 ·rw[List.flatMap_map];exact .box B M.length _ hB (br (fun _=>rfl) M)
 ·obtain⟨x,_,rfl⟩:=dp.1 hy;rfl
 ·obtain⟨x,_,rfl⟩:=dp.1 hy;simp only[eb,AV.cells,fo,List.not_mem_nil,or_false] at hc;rcases hc with rfl|rfl|rfl
  ·exact bw _
  ·exact bi _
  ·exact bi _
set_option maxHeartbeats 1000000 in
theorem wZ(t:TaskV)(p:List Int)(hs:∀c∈t.cases,ShC c)(hsc:Sh t.cases)(hq:∀c∈t.cases,c.out.length≤100000∧c.calm.length≤100000)(hl:Sh p):pU 11 [encT t,aC p] (.tup [encT (dz t p).1,.int .i64 (dz t p).2]):=by
 refine pO Dt ?_;simp only[b11,ay];have hl':p.length≤17592186044416:=hl;have hsc':t.cases.length≤17592186044416:=hsc;have hc:=mF t hs hsc;have hpc:=md p hl;have d2:=eM t;by_cases he:bU t=0
 rotate_left
 ·have e:dz t p=(T00,bU t):=by unfold dz;rw[if_pos he]
  rw[e];generalize bU t=C at *;unfold encT at hc d2;rw[show encT t=.agg [.int .i64 t.n,.int .i64 t.ins,.int .i64 t.outs,encCs t.cases] from rfl];have zz:=aI @az (aI @ar @aS);repeat' (first|refine zW ?_|apply a_n|apply a_r|refine zO ?_|refine vZ ?_|refine cZ ?_ (hp:=hc)|refine alZ ?_|refine bxZ ?_|refine stZ ?_|(refine zGZ ?_ ?_<;>(intro _hg;try (exfalso;omega)))|refine ae rfl ?_|refine r2Z ?_|fail)
  exact eI _
 rw[he] at hc;by_cases hp:cq p=0
 rotate_left
 ·have e:dz t p=(T00,cq p):=by unfold dz;rw[if_neg (fun h=>h he),if_pos hp]
  rw[e];generalize cq p=C at *;unfold encT at hc d2;rw[show encT t=.agg [.int .i64 t.n,.int .i64 t.ins,.int .i64 t.outs,encCs t.cases] from rfl];have zz:=aI @az (aI @ar @aS);repeat' (first|refine zW ?_|apply a_n|apply a_r|refine zO ?_|refine vZ ?_|refine cZ ?_ (hp:=by first|exact hc|exact hpc)|refine alZ ?_|refine bxZ ?_|refine stZ ?_|(refine zGZ ?_ ?_<;>(intro _hg;try (exfalso;omega)))|refine ae rfl ?_|refine r2Z ?_|fail)
  exact eI _
 rw[hp] at hpc;by_cases hn:(p.length:Int)≠t.n
 ·have e:dz t p=(T00,22):=by unfold dz;rw[if_neg (fun h=>h he),if_neg (fun h=>h hp),if_pos hn]
  rw[e];have z:decide ((p.length:Int)=t.n)=false:=dN hn;unfold encT at hc d2;rw[show encT t=.agg [.int .i64 t.n,.int .i64 t.ins,.int .i64 t.outs,encCs t.cases] from rfl];have zz:=aI @az (aI @ar (aI @aS @z));repeat' (first|refine zW ?_|apply a_n|apply a_r|refine zO ?_|refine vZ ?_|refine cZ ?_ (hp:=by first|exact hc|exact hpc)|refine alZ ?_|refine bxZ ?_|refine stZ ?_|(refine zGZ ?_ ?_<;>(intro _hg;try (exfalso;omega)))|refine ae rfl ?_|refine r2Z ?_|fail)
  exact eI _
 have e:dz t p=(renT t p,0):=by unfold dz;rw[if_neg (fun h=>h he),if_neg (fun h=>h hp),if_neg hn]
 rw[e];have hn:(p.length:Int)=t.n:=s9 hn;obtain⟨p1,p5,-,-⟩:=jt hp;have z:decide ((p.length:Int)=t.n)=true:=cA hn;have hcl:=(ga he).2.1
 have hren:∀k,k<t.cases.length→(t.cases.getD k default).inp.length=p.length∧(∀v∈(t.cases.getD k default).out,v.length=p.length)∧(∀v∈(t.cases.getD k default).calm,v.length=p.length):=fun k hk=>by
  have h1:=yD he hk;obtain⟨_,h2,h3⟩:=we he hk;exact⟨by omega,fun v hv=>by have:=(h2 v hv).1;omega,fun v hv=>by have:=(h2 v (h3 v hv)).1;omega⟩
 generalize hA:[.int .i64 t.n,.int .i64 t.ins,.int .i64 t.outs,encCs t.cases]=A;have hTA:encT t=.agg A:=by rw[←hA];rfl
 rw[hTA] at hc d2 ⊢;refine aQ (fun T H nx=>T 1=aC p∧T 2=.ptr 0 4 0∧T 4=.ptr 1 4 0∧T 5=.int .i64 0∧H=am (am bA 0 A) 1 [.int .i64 0,.int .i64 0,.int .i64 0,.esl]∧nx=2) ?_ ?_
 ·subst hA;have zz:=aI @az @ar;repeat' (first|apply a_n|refine zO ?_|refine vZ ?_|refine alZ ?_|refine bxZ ?_|fail)
  exact⟨rfl,rfl,rfl,rfl,rfl,rfl⟩
 rintro T H nx ⟨t1,t2,t4,t5,rfl,rfl⟩;refine aQ (fun T H nx=>T 1=aC p∧T 2=.ptr 0 4 0∧T 4=.ptr 1 4 0∧T 5=.int .i64 0∧H=am (am bA 0 A) 1 [.int .i64 0,.int .i64 0,.int .i64 0,.esl]∧nx=2) ?_ ?_
 ·subst hA;have zz:=aI @t1 (aI @t2 (aI @t4 @t5));repeat' (first|refine zW ?_|apply a_n|refine zO ?_|refine vZ ?_|refine cZ ?_ (hp:=hc)|(refine zGZ ?_ ?_<;>(intro _hg;try (exfalso;omega)))|fail)
  exact⟨(have zz:=aI @t1 (aI @t2 (aI @t4 @t5));evZ),(have zz:=aI @t1 (aI @t2 (aI @t4 @t5));evZ),(have zz:=aI @t1 (aI @t2 (aI @t4 @t5));evZ),(have zz:=aI @t1 (aI @t2 (aI @t4 @t5));evZ),rfl,rfl⟩
 clear t1 t2 t4 t5;rintro T H nx ⟨t1,t2,t4,t5,rfl,rfl⟩;refine aQ (fun T H nx=>T 1=aC p∧T 2=.ptr 0 4 0∧T 4=.ptr 1 4 0∧T 5=.int .i64 0∧H=am (am bA 0 A) 1 [.int .i64 0,.int .i64 0,.int .i64 0,.esl]∧nx=2) ?_ ?_
 ·have zz:=aI @t1 (aI @t2 (aI @t4 @t5));repeat' (first|refine zW ?_|apply a_n|refine zO ?_|refine vZ ?_|refine cZ ?_ (hp:=hpc)|(refine zGZ ?_ ?_<;>(intro _hg;try (exfalso;omega)))|fail)
  exact⟨(have zz:=aI @t1 (aI @t2 (aI @t4 @t5));evZ),(have zz:=aI @t1 (aI @t2 (aI @t4 @t5));evZ),(have zz:=aI @t1 (aI @t2 (aI @t4 @t5));evZ),(have zz:=aI @t1 (aI @t2 (aI @t4 @t5));evZ),rfl,rfl⟩
 clear t1 t2 t4 t5;rintro T H nx ⟨t1,t2,t4,t5,rfl,rfl⟩;refine aQ (fun T H nx=>T 1=aC p∧T 2=.ptr 0 4 0∧T 4=.ptr 1 4 0∧T 5=.int .i64 0∧H=am (am bA 0 A) 1 [.int .i64 0,.int .i64 0,.int .i64 0,.esl]∧nx=2) ?_ ?_
 ·subst hA;have zz:=aI @t1 (aI @t2 (aI @t4 (aI @t5 @z)));repeat' (first|refine zW ?_|apply a_n|refine zO ?_|refine vZ ?_|(refine zGZ ?_ ?_<;>(intro _hg;try (exfalso;omega)))|fail)
  exact⟨(have zz:=aI @t1 (aI @t2 (aI @t4 @t5));evZ),(have zz:=aI @t1 (aI @t2 (aI @t4 @t5));evZ),(have zz:=aI @t1 (aI @t2 (aI @t4 @t5));evZ),(have zz:=aI @t1 (aI @t2 (aI @t4 @t5));evZ),rfl,rfl⟩
 clear t1 t2 t4 t5;rintro T H nx ⟨t1,t2,t4,t5,rfl,rfl⟩;refine aQ (fun T H nx=>T 1=aC p∧T 2=.ptr 0 4 0∧T 4=.ptr 1 4 0∧T 8=.ptr 2 4 0∧H 0=some A∧H 1=some [.int .i64 0,.int .i64 0,.int .i64 0,.esl]∧H 2=some [.int .i64 t.n,.int .i64 t.ins,.int .i64 t.outs,.esl]∧nx=3) ?_ ?_
 ·subst hA;have zz:=aI @t1 (aI @t2 (aI @t4 @t5));repeat' (first|apply a_n|refine zO ?_|refine vZ ?_|refine alZ ?_|refine stZ ?_|fail)
  exact⟨(have zz:=aI @t1 (aI @t2 (aI @t4 @t5));evZ),(have zz:=aI @t1 (aI @t2 (aI @t4 @t5));evZ),(have zz:=aI @t1 (aI @t2 (aI @t4 @t5));evZ),(have zz:=aI @t1 (aI @t2 (aI @t4 @t5));evZ),rfl,rfl,rfl,rfl⟩
 clear t1 t2 t4 t5;rintro T H nx ⟨t1,t2,t4,t8,g0,g1,g2,rfl⟩;generalize hL:t.cases.map (mr p)=L;have hLl:L.length=t.cases.length:=by rw[←hL,dM]
 refine aQ (fun T H nx=>T 4=.ptr 1 4 0∧T 8=.ptr 2 4 0∧3≤nx∧H 1=some [.int .i64 0,.int .i64 0,.int .i64 0,.esl]∧∃sv,H 2=some [.int .i64 t.n,.int .i64 t.ins,.int .i64 t.outs,sv]∧Row H 3 sv (L.c3 eb)∧∀b,cH sv=some b→3≤b∧b<nx) ?_ ?_
 ·subst hA;have zz:=aI @t2 (aI @g0 @aS);repeat' (first|refine zW ?_|apply a_n|refine zO ?_|refine vY ?_|fail)
  refine bo (X:=AV×Nat) (fun x=>[(1,aC p),(2,.ptr 0 4 0),(4,.ptr 1 4 0),(8,.ptr 2 4 0),(37,encCs t.cases),(38,.int .i64 t.cases.length),(39,.int .i64 x.2)]) (fun x H nx=>x.2≤t.cases.length∧3≤nx∧H 1=some [.int .i64 0,.int .i64 0,.int .i64 0,.esl]∧H 2=some [.int .i64 t.n,.int .i64 t.ins,.int .i64 t.outs,x.1]∧Row H 3 x.1 (((t.cases.take x.2).map (mr p)).c3 eb)∧∀b,cH x.1=some b→3≤b∧b<nx) (fun x=>t.cases.length-x.2) (.esl,0) ⟨cu _,aM _,g1,g2,Row.nil,fun b hb=>(by cases hb)⟩ (have zz:=aI @t1 (aI @t2 (aI @t4 @t8));agZ) ?_;rintro⟨sv,k⟩ H nx ⟨hk,hnx,k1,k2,hrow,hb⟩;dsimp only at hk k2 hrow hb ⊢;by_cases hk2:k<t.cases.length
  rotate_left
  ·rw[jz (by omega),hL] at hrow
   repeat' (first|refine zW ?_|apply a_n|apply a_x|refine zO ?_|refine vZ ?_|(refine zGZ ?_ ?_<;>(intro _hg;try (exfalso;omega)))|fail)
   exact⟨rfl,rfl,hnx,k1,sv,k2,hrow,hb⟩
  have ix:=a6 hk2;obtain⟨r1,r2,r3⟩:=hren k hk2;obtain⟨q1,q2⟩:=hq _ (an hk2)
  have hst:((t.cases.take (k+1)).map (mr p)).c3 eb=((t.cases.take k).map (mr p)).c3 eb++(eb (mr p (t.cases.getD k default))).cells:=by
   rw[bN hk2,hU];simp[List.c3]
  have hlen:(((t.cases.take k).map (mr p)).c3 eb).length=k*3:=by
   rw[br (fun _=>rfl),dM,wX];omega
  generalize t.cases.getD k default=c at *;obtain⟨inp,out,calm⟩:=c;dsimp only at *;have m1:=qo [inp] p hp (by simp) (fun v hv=>by simp at hv;subst hv;exact r1);rw[wO] at m1;have m2:=qo out p hp q1 r2;have m3:=qo calm p hp q2 r3;clear zz;have zz:=@ix;repeat' (first|refine zW ?_|apply a_n|refine zO ?_|refine vY ?_|refine alY ?_|refine stY ?_|(refine zGY ?_ ?_<;>(intro _hg;try (exfalso;omega)))|fail)
  refine AI (na 2 [.int .i64 t.n,.int .i64 t.ins,.int .i64 t.outs,sv] nx [aC inp,bd out,bd calm]) rfl (pp (by rw[af (by omega),af (by omega)];exact k2) (by rw[aj];rfl)) ?_;have hS2:na 2 [.int .i64 t.n,.int .i64 t.ins,.int .i64 t.outs,sv] nx [aC inp,bd out,bd calm] 2=some [.int .i64 t.n,.int .i64 t.ins,.int .i64 t.outs,sv]:=if_pos rfl;have hSn:na 2 [.int .i64 t.n,.int .i64 t.ins,.int .i64 t.outs,sv] nx [aC inp,bd out,bd calm] nx=some [aC inp,bd out,bd calm]:=by unfold na;rw[if_neg (by omega),if_pos rfl]
  generalize hSS:na 2 [.int .i64 t.n,.int .i64 t.ins,.int .i64 t.outs,sv] nx [aC inp,bd out,bd calm]=S at hS2 hSn ⊢;have hSub:∀H',H' 2=some [.int .i64 t.n,.int .i64 t.ins,.int .i64 t.outs,sv]→H' nx=some [aC inp,bd out,bd calm]→Sub S H':=fun H' a1 a2=>by rw[←hSS];exact pp a1 a2
  have hB2:am (am H nx [.esl,.esl,.esl]) nx (bv [.esl,.esl,.esl] 0 [aC inp,bd out,bd calm]) 2=some [.int .i64 t.n,.int .i64 t.ins,.int .i64 t.outs,sv]:=by rw[af (by omega),af (by omega)];exact k2
  have hBn:am (am H nx [.esl,.esl,.esl]) nx (bv [.esl,.esl,.esl] 0 [aC inp,bd out,bd calm]) nx=some [aC inp,bd out,bd calm]:=by rw[aj];rfl
  clear zz;have zz:=aI @hS2 @hSn;repeat' (first|apply a_n|refine zO ?_|refine nvY ?_|fail)
  refine Bs (pv:=[(0,1,aC inp)]) (cs:=[aC inp]) ev0 rfl (by decide) rfl rfl ?_;clear zz;have zz:=aI @hS2 @hSn;repeat' (first|apply a_n|refine zO ?_|refine nvY ?_|fail)
  refine qs ?_;refine co ev0 (by((try simp only[bR,ZA,reduceEqDiff,↓reduceIte,reduceAdd,reduceLeDiff]);(try with_reducible rfl));rfl) m1 (au (ap (bi [inp] _) (ap (bw _ _) ai))) ?_;refine uL ⟨hSub _ hB2 hBn,?_⟩;have ix1:eH 1 (bd [bP inp p]) (.int .i64 0)=some (.iptr [aC (bP inp p)] 0):=rfl;clear zz;have zz:=aI @hS2 (aI @hSn @ix1);repeat' (first|apply a_n|refine zO ?_|refine nvY ?_|fail)
  refine qs ?_;refine co ev0 ev0 m2 (au (ap (bi _ _) (ap (bw _ _) ai))) ?_;refine uL ⟨hSub _ hB2 hBn,?_⟩;refine qs ?_;refine co ev0 ev0 m3 (au (ap (bi _ _) (ap (bw _ _) ai))) ?_;refine uL ⟨hSub _ hB2 hBn,?_⟩;clear zz;have zz:=aI @hS2 @hSn;repeat' (first|apply a_n|refine zO ?_|refine nvY ?_|fail)
  refine qs ?_
  repeat' (first|apply a_n|refine zO ?_|refine blY ?_|fail)
  refine⟨hSub _ (by rw[af (by omega)];exact hB2) (by rw[af (by omega)];exact hBn),?_⟩;clear zz;have zz:=aI @hS2 @hSn;repeat' (first|apply a_n|refine zO ?_|apply w7|fail)
  refine pn rfl ev0 (hrow.same fun b' hb'=>?_) ev0 j8 rfl rfl (by omega) (by rw[hlen];omega) (by rw[hlen];omega) ?_
  ·have:=hb b' hb';rw[af (by omega),af (by omega),af (by omega)]
  rintro sv' H2 nx2 u1 u2 u3 u4 u5;have v1:∀x,x<nx→cH sv≠some x→H2 x=H x:=fun x a1 a2=>(u4 x (by omega) a2).trans (by rw[af (by omega),af (by omega),af (by omega)]);have g2':H2 2=some [.int .i64 t.n,.int .i64 t.ins,.int .i64 t.outs,sv]:=(v1 2 (by omega) (fun h=>by have:=hb 2 h;omega)).trans k2;obtain⟨q1',q2'⟩:=u1.one
  have ub:∀b',cH sv'=some b'→3≤b'∧b'<nx2:=fun b' hb'=>by
   rcases u5 b' hb' with e|⟨e1,e2⟩
   ·have:=hb b' e;omega
   ·omega
  clear zz;have zz:=aI @hS2 (aI @hSn (aI @g2' (aI @q1' @q2')));repeat' (first|apply a_n|refine zO ?_|refine vY ?_|refine nvY ?_|apply w7|refine stY ?_|fail)
  refine⟨(sv',k+1),by dsimp only;omega,⟨by dsimp only;omega,by omega,?_,?_,?_,fun b' hb'=>ub b' hb'⟩,ag0⟩
  ·rw[af (by omega)];exact(v1 1 (by omega) (fun h=>by have:=hb 1 h;omega)).trans k1
  ·rw[aj];rfl
  ·dsimp only;rw[hst];exact u1.same fun b' hb'=>af (by have:=ub b' hb';omega)
 clear t1 t2 t4 t8 g0 g1 g2;rintro T H nx ⟨t4,t8,hnx,g1,sv,g2,hrow,hb⟩
 have hLs:∀x∈L,ShC x:=fun x hx=>by
  rw[←hL] at hx;obtain⟨c,hc2,rfl⟩:=dp.1 hx;obtain⟨i,hi,rfl⟩:=fP hc2;have hr:=hren i hi;have hqq:=hq _ hc2;rw[show t.cases.getD i default=t.cases[i] by simp[List.getD,hi]] at hr;generalize t.cases[i]=c at *;refine⟨?_,?_,fun v hv=>?_,?_,fun v hv=>?_⟩
  ·show(bP c.inp p).length≤_;rw[d5,hr.1];omega
  ·show(gv c.out p).length≤_;unfold gv;rw[pk,dM];omega
  ·obtain⟨w,hw,rfl⟩:=dp.1 ((f7 _).mem_iff.1 hv);show(bP w p).length≤_;rw[d5,hr.2.1 w hw];omega
  ·show(gv c.calm p).length≤_;unfold gv;rw[pk,dM];omega
  ·obtain⟨w,hw,rfl⟩:=dp.1 ((f7 _).mem_iff.1 hv);show(bP w p).length≤_;rw[d5,hr.2.2 w hw];omega
 have hrow':∃B,sv=.msl B (L.length*3) 3 0 L.length∧H B=some (L.c3 eb)∧3≤B∧B<nx:=by
  generalize hcs:L.c3 eb=cs at hrow;have hcl3:(L.c3 eb).length=L.length*3:=br (fun _=>rfl) L;cases hrow with
  |nil=>rw[hcs] at hcl3;simp at hcl3;omega
  |box B len cs h1 h2=>
   have e:len=L.length:=by rw[←hcs,hcl3] at h2;omega
   subst e;have:=hb B rfl;exact⟨B,rfl,h1,this⟩
 obtain⟨B,rfl,hB,hB3,hBn⟩:=hrow';have zz:=aI @t8 @g2;repeat' (first|refine zW ?_|apply a_n|refine zO ?_|refine vY ?_|fail)
 refine aJ ev0 (have zz:=aI @t8 @g2;evY) (yA Dm hB hBn rfl (by omega) hLs (by omega)) ?_;rintro _ H1 n1 ⟨M,hps,hpM,hsM⟩;have hMl:M.length=L.length:=hpM.length_eq
 have hM:M=kd KC L:=fK A3 (fun x hx y hy h1 h2=>by
  rw[←hL] at hx hy;obtain⟨c,hc2,rfl⟩:=dp.1 hx;obtain⟨d,hd2,rfl⟩:=dp.1 hy;obtain⟨i,hi,rfl⟩:=fP hc2;obtain⟨j,hj,rfl⟩:=fP hd2;have e:=qh h1 h2;have ei:t.cases.getD i default=t.cases[i]:=by simp[List.getD,hi]
  have ej:t.cases.getD j default=t.cases[j]:=by simp[List.getD,hj]
  have e2:=px hp (by rw[←ei];exact(hren i hi).1) (by rw[←ej];exact(hren j hj).1) e;have:=zH he hi hj (by rw[ei,ej];exact e2);subst this;rfl) (dI.of (by rw[hMl];exact hsM)) hpM
 have j2:H1 2=some [.int .i64 t.n,.int .i64 t.ins,.int .i64 t.outs,.msl B (L.length*3) 3 0 L.length]:=(hps.fr 2 (by omega) (by omega)).trans g2;have j1:H1 1=some [.int .i64 0,.int .i64 0,.int .i64 0,.esl]:=(hps.fr 1 (by omega) (by omega)).trans g1;clear zz;have zz:=aI @t4 (aI @t8 (aI @j1 @j2));repeat' (first|refine zW ?_|apply a_n|refine zO ?_|refine vY ?_|refine stY ?_|refine ae rfl ?_|refine r2Y ?_|fail)
 have hren2:renT t p=⟨t.n,t.ins,t.outs,M⟩:=by unfold renT;rw[hL,hM]
 rw[hren2];refine gP (ap (jk (ap (.int _ _) (ap (.int _ _) (ap (.int _ _) (ap ?_ ai))))) (ap (.int _ _) ai));exact uj (by rw[af (by omega)];exact hps.at_) hMl
end Go.Proofs.YtcbkggfipdldaaaGreat
namespace Go.Proofs.YtcbkggfipdldaaaGreat
open Go Go.Abs
section
variable{P:Program}{T:Tm}{H:Hp}{nx:Nat}
end
attribute [local irreducible] aG al bh a7 aV aU aB aX a9 bt Go.Abs.Fn aZ Go.Abs.Pure ax aO Yl
end Go.Proofs.YtcbkggfipdldaaaGreat
namespace Go.Proofs.YtcbkggfipdldaaaGreat
open Go Go.Abs
open Nat (reduceEqDiff reduceAdd reduceLeDiff)
attribute [local irreducible] aG al bh a7 aV aU aB aX a9 bt Go.Abs.Fn aZ Go.Abs.Pure ax aO Yl
def fY(v:List Int):Bool:=v.all fun x=>decide (x=v.getD 0 default)
def gu(t:TaskV):Bool:=t.cases.all fun c=>c.out.all fY
def er(t:TaskV):Bool×Int:=if bU t≠0 then(false,bU t) else(gu t,0)
theorem sE(x:Int)(v:List Int)(h0:0<v.length):pU 66 [.int .i64 x,.iptr [aC v] 0] (.bool (!decide (x=v.getD 0 default))):=by
 refine pO D8 ?_;simp only[b66,ay];have zz:=@Int.toNat_zero;repeat' (first|refine zW ?_|apply a_n|refine zO ?_|refine vZ ?_|refine ae rfl ?_|refine r1Z ?_|fail)
 refine aY ?_;by_cases h:x=v.getD 0 default
 ·rw[dN (fun k=>k h),cA h];rfl
 ·rw[cA h,dN h];rfl
theorem zd{v:List Int}{p:Int→Bool}:(v.any fun x=>!p x)=!(v.all p):=by
 induction v with
 |nil=>rfl
 |cons a l ih=>rw[List.any_cons,List.all_cons,ih,Bool.not_and]
theorem tJ(v:List Int)(hv:Sh v):pU 26 [aC v] (.bool (fY v)):=by
 refine pO CW ?_;simp only[b26,ay]
 have hA:=ft v (fun x=>!decide (x=v.getD 0 default)) 66 [.iptr [aC v] 0] (fun x hx=>by
  simp only[qR] at hx;subst hx;exact .iptr (DatL.cons (bw _) DatL.nil)) (fun x hx=>sE x v (nX.2 (List.ne_nil_of_mem hx))) hv
 rw[zd] at hA
 repeat' (first|refine zW ?_|apply a_n|refine zO ?_|refine vZ ?_|refine bxZ ?_|fail)
 refine co ev0 ev0 hA (ak (by(repeat' (first|exact ai|exact Dat.snap Dat.int|exact Dat.snap Dat.bool|exact Dat.snap Dat.str|exact Dat.snap Dat.esl|exact Dat.snap Dat.nilf|exact Dat.snap (bw _)|exact Dat.snap (bi _)|apply ap|apply d6|apply ez|(apply dR;(focus ((try simp only[bR,ZA,reduceEqDiff,↓reduceIte,reduceAdd,reduceLeDiff]);with_reducible rfl));(focus rfl))))) rfl) ?_
 repeat' (first|apply a_n|refine zO ?_|refine vZ ?_|refine ae rfl ?_|refine r1Z ?_|fail)
 refine aY ?_;rw[Bool.not_not];rfl
theorem pP{t:TaskV}:gu t=true↔ ∀i,i<t.cases.length→∀j,j<(t.cases.getD i default).out.length→fY ((t.cases.getD i default).out.getD j default)=true:=by
 unfold gu;rw[cT];constructor
 ·intro h i hi j hj;exact cT.1 (h _ (an hi)) _ (an hj)
 ·intro h c hc;obtain⟨i,hi,rfl⟩:=fP hc;rw[cT];intro v hv;obtain⟨j,hj,rfl⟩:=fP hv;have e:t.cases.getD i default=t.cases[i]:=by simp[List.getD,hi]
  have:=h i hi j (by rw[e];exact hj);rw[e] at this;simpa[List.getD,hj] using this
theorem gg(t:TaskV)(hs:∀c∈t.cases,ShC c)(hsc:Sh t.cases):pU 9 [encT t] (.tup [.bool (er t).1,.int .i64 (er t).2]):=by
 refine pO is9 ?_;simp only[b9,ay];have hsc':t.cases.length≤17592186044416:=hsc;have hc:=mF t hs hsc;have d2:=eM t;have fin:∀{H:Hp}(b:Bool)(e:Int),Snap H (.tup [.bool b,.int .i64 e]) (.tup [.bool b,.int .i64 e]):=fun b e=>gP (ap (.bool _) (ap (.int _ _) ai));by_cases he:bU t=0
 rotate_left
 ·have e:er t=(false,bU t):=by unfold er;rw[if_pos he]
  rw[e];generalize bU t=C at *;unfold encT at *;have zz:=aI @az (aI @ar @aS);repeat' (first|refine zW ?_|apply a_n|apply a_r|refine zO ?_|refine vZ ?_|refine cZ ?_ (hp:=hc)|refine bxZ ?_|(refine zGZ ?_ ?_<;>(intro _hg;try (exfalso;omega)))|refine ae rfl ?_|refine r2Z ?_|fail)
  exact fin _ _
 have e:er t=(gu t,0):=by unfold er;rw[if_neg (fun h=>h he)]
 rw[e];rw[he] at hc;unfold encT at *;have zz:=aI @az (aI @ar @aS);repeat' (first|refine zW ?_|apply a_n|refine zO ?_|refine vZ ?_|refine cZ ?_ (hp:=hc)|refine bxZ ?_|(refine zGZ ?_ ?_<;>(intro _hg;try (exfalso;omega)))|fail)
 refine bo (X:=Nat) (fun k=>[(1,.ptr 0 4 0),(15,encCs t.cases),(16,.int .i64 t.cases.length),(17,.int .i64 k)]) (fun k H nx=>k≤t.cases.length∧∀i,i<k→∀j,j<(t.cases.getD i default).out.length→fY ((t.cases.getD i default).out.getD j default)=true) (fun k=>t.cases.length-k) 0 ⟨cu _,fun i hi=>absurd hi (by omega)⟩ (by simp (disch:=omega) only[agr,ZG,reduceEqDiff,↓reduceIte,de,dF,bQ,reduceAdd]) ?_;rintro k H nx ⟨hk,hz⟩;by_cases hk2:k<t.cases.length
 rotate_left
 ·have:gu t=true:=pP.2 fun i hi=>hz i (by omega);rw[this]
  repeat' (first|refine zW ?_|apply a_n|apply a_x|refine zO ?_|refine vZ ?_|(refine zGZ ?_ ?_<;>(intro _hg;try (exfalso;omega)))|refine ae rfl ?_|refine r2Z ?_|fail)
  exact fin _ _
 have ix:=a6 hk2;obtain⟨s1,s2,s3,s4,s5⟩:=hs _ (an hk2);have s2':(t.cases.getD k default).out.length≤17592186044416:=s2;have hall:=fun(h:gu t=true)=>pP.1 h k hk2
 have hsucc:(∀j,j<(t.cases.getD k default).out.length→fY ((t.cases.getD k default).out.getD j default)=true)→∀i,i<k+1→∀j,j<(t.cases.getD i default).out.length→fY ((t.cases.getD i default).out.getD j default)=true:=fun h i hi=>by
  rcases iJ.1 hi with h1|rfl
  ·exact hz i h1
  ·exact h
 generalize t.cases.getD k default=c at *;clear zz;have zz:=@ix;repeat' (first|refine zW ?_|apply a_n|refine zO ?_|refine vY ?_|refine alY ?_|refine stY ?_|(refine zGY ?_ ?_<;>(intro _hg;try (exfalso;omega)))|fail)
 refine bo (X:=Nat) (fun j=>[(1,.ptr 0 4 0),(15,encCs t.cases),(16,.int .i64 t.cases.length),(17,.int .i64 k),(22,bd c.out),(23,.int .i64 c.out.length),(24,.int .i64 j)]) (fun j H' nx'=>j≤c.out.length∧∀i,i<j→fY (c.out.getD i default)=true) (fun j=>c.out.length-j) 0 ⟨cu _,fun i hi=>absurd hi (by omega)⟩ ag0 ?_;rintro j H' nx' ⟨hj,hzj⟩;by_cases hj2:j<c.out.length
 rotate_left
 ·repeat' (first|refine zW ?_|apply a_n|apply a_x|refine zO ?_|refine vZ ?_|(refine zGZ ?_ ?_<;>(intro _hg;try (exfalso;omega)))|fail)
  exact⟨k+1,by omega,⟨by omega,hsucc fun j hj=>hzj j (by omega)⟩,ag0⟩
 have hcv:=tJ (c.out.getD j default) (s3 _ (an hj2));cases hb:fY (c.out.getD j default)
 ·rw[hb] at hcv
  have:gu t=false:=by
   rw[Bool.eq_false_iff];intro h;have:=hall h j hj2;rw[hb] at this;exact absurd this (by decide)
  rw[this]
  repeat' (first|refine zW ?_|apply a_n|apply a_r|refine zO ?_|refine vZ ?_|refine cZ ?_ (hp:=hcv)|refine cTZ ?_|(refine zGZ ?_ ?_<;>(intro _hg;try (exfalso;omega)))|refine ae rfl ?_|refine r2Z ?_|fail)
  exact fin _ _
 ·rw[hb] at hcv
  repeat' (first|refine zW ?_|apply a_n|refine zO ?_|refine vZ ?_|refine cZ ?_ (hp:=hcv)|refine cFZ ?_|(refine zGZ ?_ ?_<;>(intro _hg;try (exfalso;omega)))|fail)
  exact ⟨j + 1,by omega,⟨by omega,fun i hi=>by
   rcases iJ.1 hi with h1|rfl
   ·exact hzj i h1
   ·exact hb⟩,ag0⟩
end Go.Proofs.YtcbkggfipdldaaaGreat
namespace Go.Proofs.YtcbkggfipdldaaaGreat
open Go Go.Abs
attribute [local irreducible] aG al bh a7 aV aU aB aX a9 bt Go.Abs.Fn aZ Go.Abs.Pure ax aO Yl
def dd(l:List Int):Nat→List Int
 |0=>[]
 |k+1=>dd l k++if k=0∨l.getD k default≠l.getD (k-1) default then [l.getD k default] else []
end Go.Proofs.YtcbkggfipdldaaaGreat
namespace Go.Proofs.YtcbkggfipdldaaaGreat
open Go Go.Abs
def inV(l:List (List Int))(p v:Nat):Bool:=l.any fun w=>decide (w.getD p default=(v:Int))
def vals(l:List (List Int))(p o:Nat):List Int:=((List.range o).filter (inV l p)).map Int.ofNat
attribute [local irreducible] aG al bh a7 aV aU aB aX a9 bt Go.Abs.Fn aZ Go.Abs.Pure ax aO Yl
end Go.Proofs.YtcbkggfipdldaaaGreat
namespace Go.Proofs.YtcbkggfipdldaaaGreat
open Go Go.Abs
structure PlaceV where
 index:Int
 faulty:Int
 proc:Int
 outs:List Int
attribute [local irreducible] aG al bh a7 aV aU aB aX a9 bt Go.Abs.Fn aZ Go.Abs.Pure ax aO Yl
end Go.Proofs.YtcbkggfipdldaaaGreat
namespace Go.Proofs.YtcbkggfipdldaaaGreat
open Go Go.Abs
section
variable{p:List Int}
theorem wR(hp:cq p=0){q:Nat}(hq:q<p.length):∃i,i<p.length∧p.getD i default=(q:Int):=by
 obtain⟨_,_,h3,h4⟩:=jt hp;refine Decidable.byContradiction fun hn=>?_;have hne:∀i,i<p.length→p.getD i default≠(q:Int):=fun i hi e=>hn ⟨i,hi,e⟩
 have hnd:(p.map Int.toNat).Nodup:=by
  rw[List.nodup_iff_pairwise_ne,vU];intro i j hi hj hij;rw[dM] at hi hj;have a:=h3 i hi;have b:=h3 j hj;have c:=h4 i j hij hj;have ei:p.getD i default=p[i]:=by simp[List.getD,hi]
  have ej:p.getD j default=p[j]:=by simp[List.getD,hj]
  rw[ei] at a c;rw[ej] at b c;simp only[List.getElem_map];omega
 have hsub:∀x∈p.map Int.toNat,x∈(List.range p.length).filter (fun x=>decide (x≠q)):=fun x hx=>by
  obtain⟨y,hy,rfl⟩:=dp.1 hx;obtain⟨i,hi,rfl⟩:=fP hy;have ei:p.getD i default=p[i]:=by simp[List.getD,hi]
  have a:=h3 i hi;have b:=hne i hi;rw[ei] at a b;exact fQ.2 ⟨en.2 (by omega),cA (by omega)⟩
 have hle:=oZ hnd hsub
 have hlt:((List.range p.length).filter (fun x=>decide (x≠q))).length<p.length:=by
  have h1:(List.range p.length).length=p.length:=List.length_range;have h2:((List.range p.length).filter (fun x=>decide (x≠q))).length<(List.range p.length).length:=List.length_filter_lt_length_iff_exists.2 ⟨q,en.2 hq,by simp⟩;omega
 rw[dM] at hle;omega
def idL(n:Nat):List Int:=(List.range n).map fun(i:Nat)=>(i:Int)
theorem yO(n:Nat):(idL n).length=n:=by simp[idL]
theorem vJ(hp:cq p=0){v:List Int}(hv:v.length=p.length){x:Int}(hx:x∈bP v p):x∈v:=by
 obtain⟨q,hq,rfl⟩:=fP hx;rw[d5] at hq;obtain⟨i,hi,e⟩:=wR hp (q:=q) (by omega);have h:=jm hp hv hi;rw[e,bD] at h;rw[show(bP v p).getD q default=(bP v p)[q]'(by rw[d5];exact hq) by simp[List.getD,show q<(bP v p).length by rw[d5];exact hq]] at h;rw[h];exact an (by omega)
end
theorem vG{l:List (List Int)}(h:∀i,i<l.length→ci l i=false):l.Nodup:=by
 rw[List.nodup_iff_pairwise_ne,vU];intro i j hi hj hij e;have:=uo h j i hij hj;rw[show l.getD i default=l[i] by simp[List.getD,hi],show l.getD j default=l[j] by simp[List.getD,hj],e,ew] at this;omega
theorem mZ{v:List Int}{n most:Int}(h1:(v.length:Int)=n)(h2:∀x∈v,0≤x∧x<most):bH v n most=0:=by
 unfold bH;rw[if_neg (fun h=>h h1),if_neg];intro h;rw[jB] at h;obtain⟨x,hx,e⟩:=h;have:=nJ e;have:=h2 x hx;omega
theorem oA{n outs:Int}{c:CaseV}(h:cp n outs c=0):(1≤c.out.length∧c.out.length≤1024)∧(∀v∈c.out,bH v n outs=0)∧(∀i,i<c.out.length→ci c.out i=false)∧(∀v∈c.calm,v∈c.out)∧(∀i,i<c.calm.length→ci c.calm i=false):=by
 unfold cp at h;split at h
 ·exact absurd h (by decide)
 rename_i g1;split at h
 ·exact absurd h ‹_›
 rename_i g2;have o0:=dQ (s9 g2);have c0:=dQ h
 have o1:∀j,j<c.out.length→bH (c.out.getD j default) n outs=0∧ci c.out j=false:=fun j hj=>by
  have:=o0 j hj;unfold mC at this;split at this
  ·exact absurd this ‹_›
  ·rename_i g3;split at this
   ·exact absurd this (by decide)
   ·rename_i g4;exact⟨s9 g3,by simpa using g4⟩
 have c1:∀j,j<c.calm.length→c.calm.getD j default∈c.out∧ci c.calm j=false:=fun j hj=>by
  have:=c0 j hj;unfold lY at this;split at this
  ·rename_i g3;split at this
   ·exact absurd this (by decide)
   ·rename_i g4;exact⟨g3,by simpa using g4⟩
  ·exact absurd this (by decide)
 refine⟨by omega,fun v hv=>?_,fun i hi=>(o1 i hi).2,fun v hv=>?_,fun i hi=>(c1 i hi).2⟩
 ·obtain⟨j,hj,rfl⟩:=fP hv;have:=(o1 j hj).1
  rwa [show c.out.getD j default=c.out[j] by simp[List.getD,hj]] at this
 ·obtain⟨j,hj,rfl⟩:=fP hv;have:=(c1 j hj).1
  rwa [show c.calm.getD j default=c.calm[j] by simp[List.getD,hj]] at this
theorem sB{n outs:Int}{c:CaseV}(h1:1≤c.out.length∧c.out.length≤1024)(h2:∀v∈c.out,bH v n outs=0)(h3:∀i,i<c.out.length→ci c.out i=false)(h4:∀v∈c.calm,v∈c.out)(h5:∀i,i<c.calm.length→ci c.calm i=false):cp n outs c=0:=by
 unfold cp
 have e1:cE (mC n outs c.out) c.out.length=0:=cL fun k hk=>by
  unfold mC;rw[h2 _ (an hk),if_neg (by simp),h3 k hk,if_neg (by simp)]
 have e2:cE (lY c.out c.calm) c.calm.length=0:=cL fun k hk=>by
  unfold lY;rw[if_pos (h4 _ (an hk)),h5 k hk,if_neg (by simp)]
 rw[if_neg (by omega),e1,if_neg (by simp),e2]
section
variable{p:List Int}(hp:cq p=0)
include hp
end
theorem tI{t:TaskV}(h:bU t=0){c:CaseV}(hc:c∈t.cases):bH c.inp t.n t.ins=0∧cp t.n t.outs c=0:=by
 obtain⟨i,hi,rfl⟩:=fP hc;have:=(ga h).2.2 i hi
 rwa [show t.cases.getD i default=t.cases[i] by simp[List.getD,hi]] at this
section
variable{t:TaskV}{p:List Int}(h:bU t=0)(hp:cq p=0)(hn:(p.length:Int)=t.n)
include h hp hn
end
section
variable{p:List Int}(hp:cq p=0){f:Nat}
include hp
end
attribute [local irreducible] aG al bh a7 aV aU aB aX a9 bt Go.Abs.Fn aZ Go.Abs.Pure ax aO Yl
end Go.Proofs.YtcbkggfipdldaaaGreat
namespace Go.Proofs.YtcbkggfipdldaaaGreat.Lb
open Go Go.Abs
attribute [local irreducible] aG al bh a7 aV aU aB aX a9 bt Go.Abs.Fn aZ Go.Abs.Pure ax aO Yl
abbrev Sh{α:Type}(l:List α):Prop:=l.length≤1000000000
theorem lk(n a b:Int):pU 74 [.int .i64 n,.int .i64 a,.int .i64 b] (.bool (decide (a≤n∧n≤b))):=by
 refine pO C8 ?_;simp only[b74,ay]
 repeat' (first|refine zW ?_|apply a_n|refine zO ?_|refine vZ ?_|refine gTZ ?_|refine gFZ ?_|(refine zGZ ?_ ?_<;>(intro _hg;try (exfalso;omega)))|refine ae rfl ?_|refine r1Z ?_|fail)
 all_goals (refine aY ?_;simp[_hg])
theorem xq(n:Int):pU 35 [.int .i64 n] (.int .i64 (if 0≤n∧n≤8 then n+1 else 9)):=by
 refine pO Dj ?_;simp only[b35,ay]
 repeat' (first|refine zW ?_|apply a_n|apply a_r|refine zO ?_|refine vZ ?_|refine cZ ?_ (hp:=by exact lk _ _ _)|(refine zGZ ?_ ?_<;>(intro _hg;try (exfalso;omega)))|refine ae rfl ?_|refine r1Z ?_|fail)
 all_goals (refine aR ?_)
 ·rw[if_neg (by omega)]
 ·rw[if_pos (by omega)]
def kinds(l:List Int):List Int:=l.foldl (fun ks v=>if v∈ks then ks else ks++[v]) []
theorem tW(l:List Int)(v:Int):kinds (l++[v])=if v∈kinds l then kinds l else kinds l++[v]:=by unfold kinds;rw[List.foldl_append];rfl
theorem kinds_len(l:List Int):(kinds l).length≤l.length:=by
 suffices h:∀(l ks:List Int),(l.foldl (fun ks v=>if v∈ks then ks else ks++[v]) ks).length≤ks.length+l.length by simpa[kinds] using h l []
 intro l
 induction l with
 |nil=>simp
 |cons a l ih=>
  intro ks;simp only[List.foldl_cons,de];refine fR (ih _) ?_;split<;>simp <;>omega
theorem eE(l:List Int)(hl:Sh l):pU 37 [aC l] (.int .i64 (kinds l).length):=by
 refine pO Dl ?_;simp only[b37,ay]
 repeat' (first|refine zW ?_|apply a_n|refine zO ?_|refine vZ ?_|fail)
 refine zP ?_
 repeat' (first|refine zW ?_|apply a_n|refine zO ?_|refine vZ ?_|fail)
 refine bo (X:=Nat) (fun k=>[(3,.mp 0),(7,aC l),(8,.int .i64 l.length),(9,.int .i64 k)]) (fun k H nx=>k≤l.length∧∃vs,H 0=some [.omap ((kinds (l.take k)).map (AV.int .i64)) vs]) (fun k=>l.length-k) 0 ⟨cu _,[],rfl⟩ ag0 ?_;rintro k H nx ⟨hk,vs,hH⟩
 repeat' (first|refine zW ?_|apply a_n|apply a_x|refine zO ?_|refine vZ ?_|(refine zGZ ?_ ?_<;>(intro _hg;try (exfalso;omega)))|fail)
 ·refine iE ev0 hH (x:=.c (.bool true)) ev0 rfl rfl (vF _ _) ?_
  repeat' (first|apply a_n|refine zO ?_|refine vZ ?_|fail)
  refine⟨k+1,by omega,⟨by omega,_,aj.trans (zE ?_)⟩,ag0⟩;rw[bN (by omega),tW];split<;>simp[cW]
 ·refine AJ ev0 hH ?_
  repeat' (first|apply a_n|refine zO ?_|refine vZ ?_|refine ae rfl ?_|refine r1Z ?_|fail)
  refine aR ?_;rw[jz (by omega)]
end Go.Proofs.YtcbkggfipdldaaaGreat.Lb
namespace Go.Proofs.YtcbkggfipdldaaaGreat.Lb
open Go Go.Abs
open Nat (reduceEqDiff reduceAdd reduceLeDiff)
attribute [local irreducible] aG al bh a7 aV aU aB aX a9 bt Go.Abs.Fn aZ Go.Abs.Pure ax aO Yl
def eqv(l:List Int)(v:Int):Bool:=decide ((kinds l).length=1∧l.getD 0 default=v)
theorem mH(l:List Int)(v:Int)(hl:Sh l):pU 38 [aC l,.int .i64 v] (.bool (eqv l v)):=by
 refine pO CR ?_;simp only[b38,ay];have:=kinds_len l
 repeat' (first|refine zW ?_|apply a_n|refine zO ?_|refine vZ ?_|refine cZ ?_ (hp:=by exact eE _ hl)|refine gTZ ?_|refine gFZ ?_|(refine zGZ ?_ ?_<;>(intro _hg;try (exfalso;omega)))|refine ae rfl ?_|refine r1Z ?_|fail)
 all_goals refine aY ?_
 ·unfold eqv;simp;omega
 ·unfold eqv;simp;omega
def idx(l:List Int)(v:Int):Int:=if v∈l then(l.idxOf v:Nat) else-1
theorem tP{l:List Int}{v:Int}{k:Nat}(hk:k<l.length)(h:∀i,i<k→l.getD i default≠v)(hv:v=l.getD k default):idx l v=k:=by
 have e:l.getD k default=l[k]:=by simp[List.getD,hk]
 have hm:v∈l:=by rw[hv,e];exact jx hk
 unfold idx;rw[if_pos hm]
 have h1:l.idxOf v≤k:=by
  by_cases hlt:l.idxOf v≤k
  ·exact hlt
  ·exfalso;have:=List.not_of_lt_findIdx (xs:=l) (p:=(· ==v)) (i:=k) (by simp only[List.idxOf] at hlt;omega);rw[e] at hv;subst hv;simp at this
 have h2:k≤l.idxOf v:=by
  by_cases hlt:k≤l.idxOf v
  ·exact hlt
  ·exfalso;have hi:=List.idxOf_lt_length_iff.2 hm;have:=h (l.idxOf v) (by omega);apply this;simp[List.getD,hi]
 omega
theorem ni{l:List Int}{v:Int}(h:∀i,i<l.length→l.getD i default≠v):idx l v=-1:=by
 unfold idx;rw[if_neg];intro hm;obtain⟨i,hi,e⟩:=fP hm;exact h i hi (by simp[List.getD,hi,e])
theorem qJ(l:List Int)(v:Int)(hl:Sh l):pU 122 [aC l,.int .i64 v] (.int .i64 (idx l v)):=by
 refine pO zY ?_;simp only[Ay,ay]
 repeat' (first|refine zW ?_|apply a_n|refine zO ?_|refine vZ ?_|fail)
 refine dJ (X:=Nat) (fun k=>[(0,aC l),(1,.int .i64 v),(7,.int .i64 l.length),(8,.int .i64 k)]) (fun k=>k≤l.length∧∀i,i<k→l.getD i default≠v) (fun k=>l.length-k) 0 ⟨cu _,by simp⟩ ag0 ?_;rintro k ⟨h1,h2⟩
 repeat' (first|refine zW ?_|apply a_n|apply a_x|apply a_r|refine zO ?_|refine vZ ?_|(refine zGZ ?_ ?_<;>(intro _hg;try (exfalso;omega)))|refine ae rfl ?_|refine r1Z ?_|fail)
 ·exact aR (tP (by omega) h2 _hg).symm
 ·refine⟨k+1,⟨by omega,fun i hi=>?_⟩,by omega,ag0,rfl,rfl⟩;rcases iJ.1 hi with h|rfl
  ·exact h2 i h
  ·exact fun e=>_hg e.symm
 ·exact aR (ni fun i hi=>h2 i (by omega)).symm
theorem mV(l:List Int)(v:Int)(hl:Sh l):pU 97 [aC l,.int .i64 v] (.bool (decide (v∈l))):=by
 refine pO BR ?_;simp only[b97,ay]
 repeat' (first|refine zW ?_|apply a_n|refine zO ?_|refine vZ ?_|refine cZ ?_ (hp:=by exact qJ _ _ hl)|refine ae rfl ?_|refine r1Z ?_|fail)
 refine aY ?_;unfold idx;split<;>simp_all
def jy(l:List Int)(p:Int→Bool):Int:=if l.any p then(l.findIdx p:Nat) else-1
theorem qc{l:List Int}{p:Int→Bool}{k:Nat}(hk:k<l.length)(h:∀i,i<k→p (l.getD i default)=false)(hv:p (l.getD k default)=true):jy l p=k:=by
 have e:l.getD k default=l[k]:=by simp[List.getD,hk]
 have hm:l.any p=true:=jB.2 ⟨l[k],jx hk,by rw[←e];exact hv⟩;unfold jy;rw[if_pos hm];have:l.findIdx p=k:=(List.findIdx_eq hk).2 ⟨by rw[←e];exact hv,fun j hj=>by have:=h j hj;rwa [show l.getD j default=l[j] by simp[List.getD,show j<l.length by omega]] at this⟩;rw[this]
theorem lA{l:List Int}{p:Int→Bool}(h:∀i,i<l.length→p (l.getD i default)=false):l.any p=false:=by
 rw[List.any_eq_false];intro x hx;obtain⟨i,hi,e⟩:=fP hx;have:=h i hi;rw[show l.getD i default=l[i] by simp[List.getD,hi],e] at this;simp[this]
theorem kF(l:List Int)(p:Int→Bool)(g:Nat)(caps:List AV)(hd:∀x∈caps,Dat x)(hg:∀x∈l,pU g (.int .i64 x::caps) (.bool (p x)))(hl:Sh l):pU 77 [aC l,.func g caps] (.int .i64 (jy l p)):=by
 refine pO B8 ?_;simp only[b77,ay]
 repeat' (first|refine zW ?_|apply a_n|refine zO ?_|refine vZ ?_|fail)
 refine dJ (X:=Nat) (fun k=>[(0,aC l),(1,.func g caps),(6,aC l),(7,.int .i64 l.length),(8,.int .i64 k)]) (fun k=>k≤l.length∧∀i,i<k→p (l.getD i default)=false) (fun k=>l.length-k) 0 ⟨cu _,by simp⟩ ag0 ?_;rintro k ⟨h1,h2⟩
 repeat' (first|refine zW ?_|apply a_n|apply a_x|apply a_r|refine zO ?_|refine vZ ?_|refine cZ ?_ (hp:=by exact hg _ (an (by omega))) (hs:=by(first|refine ak ?_ rfl|apply au);(repeat' (first|exact ai|apply aD|apply aw|exact av hd));first|done|fail)|(refine zGZ ?_ ?_<;>(intro _hg;try (exfalso;omega)))|refine ae rfl ?_|refine r1Z ?_|fail)
 ·refine aR ?_;rw[qc (by omega) h2 _hg]
 ·refine⟨k+1,⟨by omega,fun i hi=>?_⟩,by omega,ag0,rfl,rfl⟩;rcases iJ.1 hi with h|rfl
  ·exact h2 i h
  ·exact _hg
 ·refine aR ?_;unfold jy;rw[lA fun i hi=>h2 i (by omega)];rfl
theorem ft(l:List Int)(p:Int→Bool)(g:Nat)(caps:List AV)(hd:∀x∈caps,Dat x)(hg:∀x∈l,pU g (.int .i64 x::caps) (.bool (p x)))(hl:Sh l):pU 61 [aC l,.func g caps] (.bool (l.any p)):=by
 refine pO Bw ?_;simp only[b61,ay]
 repeat' (first|refine zW ?_|apply a_n|refine zO ?_|refine vZ ?_|refine cZ ?_ (hp:=by exact kF l p g caps hd hg hl) (hs:=by(first|refine ak ?_ rfl|apply au);(repeat' (first|exact ai|apply aD|apply aw|exact Dat.func hd));first|done|fail)|refine ae rfl ?_|refine r1Z ?_|fail)
 refine aY ?_;unfold jy;split<;>simp_all
theorem sJ{l:List Int}(h:0<l.length):l.take 1=[l.getD 0 default]:=by
 rw[show(1:Nat)=0+1 from rfl,bN h];simp
theorem BS(l:List Int)(hl:Sh l)(h0:l≠[]):pU 39 [aC l] (.int .i64 (l.foldl max (l.getD 0 default))):=by
 refine pO Eb ?_;simp only[b39,ay];have hpos:=nX.2 h0
 repeat' (first|refine zW ?_|apply a_n|refine zO ?_|refine vZ ?_|(refine zGZ ?_ ?_<;>(intro _hg;try (exfalso;omega)))|fail)
 refine dJ (X:=Nat) (fun k=>[(0,aC l),(3,.int .i64 ((l.take k).foldl max (l.getD 0 default))),(4,.int .i64 k)]) (fun k=>k≤l.length∧1≤k) (fun k=>l.length-k) 1 ⟨hpos,aM _⟩ (by simp (disch:=omega) only[agr,ZG,reduceEqDiff,↓reduceIte,sJ hpos,List.foldl_cons,List.foldl_nil,Int.max_self,Int.toNat_zero]) ?_;rintro k ⟨h1,h2⟩
 repeat' (first|refine zW ?_|apply a_n|apply a_x|refine zO ?_|refine vZ ?_|(refine zGZ ?_ ?_<;>(intro _hg;try (exfalso;omega)))|refine ae rfl ?_|refine r1Z ?_|fail)
 ·refine⟨k+1,⟨by omega,by omega⟩,by omega,?_,rfl,rfl⟩;rw[bN (by omega),List.foldl_append];simp (disch:=omega) only[agr,ZG,reduceEqDiff,↓reduceIte,List.foldl_cons,List.foldl_nil]
 ·rw[jz (by omega)];exact .int _ _
theorem z5(l:List Int)(hl:Sh l)(h0:l≠[]):pU 40 [aC l] (.int .i64 (l.foldl min (l.getD 0 default))):=by
 refine pO Ds ?_;simp only[b40,ay];have hpos:=nX.2 h0
 repeat' (first|refine zW ?_|apply a_n|refine zO ?_|refine vZ ?_|(refine zGZ ?_ ?_<;>(intro _hg;try (exfalso;omega)))|fail)
 refine dJ (X:=Nat) (fun k=>[(0,aC l),(3,.int .i64 ((l.take k).foldl min (l.getD 0 default))),(4,.int .i64 k)]) (fun k=>k≤l.length∧1≤k) (fun k=>l.length-k) 1 ⟨hpos,aM _⟩ (by simp (disch:=omega) only[agr,ZG,reduceEqDiff,↓reduceIte,sJ hpos,List.foldl_cons,List.foldl_nil,Int.min_self,Int.toNat_zero]) ?_;rintro k ⟨h1,h2⟩
 repeat' (first|refine zW ?_|apply a_n|apply a_x|refine zO ?_|refine vZ ?_|(refine zGZ ?_ ?_<;>(intro _hg;try (exfalso;omega)))|refine ae rfl ?_|refine r1Z ?_|fail)
 ·refine⟨k+1,⟨by omega,by omega⟩,by omega,?_,rfl,rfl⟩;rw[bN (by omega),List.foldl_append];simp (disch:=omega) only[agr,ZG,reduceEqDiff,↓reduceIte,List.foldl_cons,List.foldl_nil]
 ·rw[jz (by omega)];exact .int _ _
theorem ko(l:List Int)(hl:Sh l):PureF Tryz.prog 45 [aC l] (aC l):=by
 refine qO Ak ?_;simp only[b45,ay]
 repeat' (first|refine zW ?_|apply a_n|refine zO ?_|refine vZ ?_|fail)
 refine tn (k:=l.length) (by((try simp only[bR,ZA,reduceEqDiff,↓reduceIte,reduceAdd,reduceLeDiff]);(try with_reducible rfl));exact jU) (fun h=>?_) (fun h=>?_) (fun h=>?_)
 repeat' (first|refine zW ?_|apply a_n|apply a_r|refine zO ?_|refine vZ ?_|refine b0Z ?_|refine a0Z ?_|refine cTZ ?_|refine cFZ ?_|refine ae rfl ?_|refine r1Z ?_|fail)
 ·exact jv aj (by omega) rfl
 ·exact pu h
 ·exact jv aj (by omega) rfl
theorem yd(l:List Int)(hl:Sh l)(h0:l≠[])(H:Hp)(nx:Nat):Abs.Fn Tryz.prog 45 [aC l] H nx fun r H' nx'=>r=.msl nx l.length 1 0 l.length∧H'=am H nx (l.map (AV.int .i64))∧nx'=nx+1:=by
 refine fO Ak ?_;simp only[b45,ay];have hpos:=nX.2 h0
 repeat' (first|refine zW ?_|apply a_n|refine zO ?_|refine vZ ?_|fail)
 refine tn (k:=l.length) (by((try simp only[bR,ZA,reduceEqDiff,↓reduceIte,reduceAdd,reduceLeDiff]);(try with_reducible rfl));exact jU) (fun h=>?_) (fun h=>by omega) (fun h=>by omega)
 repeat' (first|refine zW ?_|apply a_n|refine zO ?_|refine vZ ?_|refine b0Z ?_|refine a0Z ?_|refine cFZ ?_|refine ae rfl ?_|refine r1Z ?_|fail)
 exact⟨rfl,rfl,rfl⟩
end Go.Proofs.YtcbkggfipdldaaaGreat.Lb
namespace Go.Proofs.YtcbkggfipdldaaaGreat.Lb
open Go Go.Abs
open Nat (reduceEqDiff reduceAdd reduceLeDiff)
attribute [local irreducible] aG al bh a7 aV aU aB aX a9 bt Go.Abs.Fn aZ Go.Abs.Pure ax aO Yl
theorem vT(l:List Int)(v:Int)(hl:Sh l):pU 96 [.int .i64 v,.iptr [aC l] 0] (.bool (!decide (v∈l))):=by
 refine pO DJ ?_;simp only[b96,ay]
 repeat' (first|refine zW ?_|apply a_n|refine zO ?_|refine vZ ?_|refine cZ ?_ (hp:=by exact mV _ _ hl)|refine ae rfl ?_|refine r1Z ?_|fail)
 exact .bool _
theorem yk(l m:List Int)(hl:Sh l)(hm:Sh m):pU 73 [aC l,aC m] (.bool (m.all fun v=>decide (v∈l))):=by
 refine pO Dr ?_;simp only[b73,ay]
 repeat' (first|refine zW ?_|apply a_n|refine zO ?_|refine vZ ?_|refine bxZ ?_|fail)
 refine co ev0 ev0 (ft m (fun v=>!decide (v∈l)) 96 [.iptr [aC l] 0] (DatL.cons (Dat.iptr (DatL.cons (bw _) DatL.nil)) DatL.nil) (fun x _=>vT l x hl) hm) (ak (by(repeat' (first|exact ai|exact Dat.snap Dat.int|exact Dat.snap Dat.bool|exact Dat.snap Dat.str|exact Dat.snap Dat.esl|exact Dat.snap Dat.nilf|exact Dat.snap (bw _)|exact Dat.snap (bi _)|apply ap|apply d6|apply ez|(apply dR;(focus ((try simp only[bR,ZA,reduceEqDiff,↓reduceIte,reduceAdd,reduceLeDiff]);with_reducible rfl));(focus rfl))))) rfl) ?_
 repeat' (first|apply a_n|refine zO ?_|refine vZ ?_|refine ae rfl ?_|refine r1Z ?_|fail)
 refine aY ?_;rw[List.not_any_eq_all_not];simp
theorem qK(k:Int)(l m:List Int)(hl:Sh l)(hm:Sh m):pU 72 [aC l,aC m,.iptr [.int .i64 k] 0] (.bool (decide ((kinds m).length≤max k 1)&&m.all fun v=>decide (v∈l))):=by
 refine pO DF ?_;simp only[b72,ay]
 repeat' (first|refine zW ?_|refine zM ?_|apply a_n|refine zO ?_|refine vZ ?_|refine cZ ?_ (hp:=by first|exact eE _ hm|exact yk _ _ hl hm)|refine gTZ ?_|refine gFZ ?_|(refine zGZ ?_ ?_<;>(intro _hg;try (exfalso;omega)))|refine ae rfl ?_|refine r1Z ?_|fail)
 all_goals (refine aY ?_;simp[_hg])
theorem vC(steps:Int)(l m:List Int)(hl:Sh l)(hm:Sh m)(h0:l≠[])(h1:m≠[]):pU 36 [aC l,aC m,.iptr [.int .i64 steps] 0]
    (.bool (if (kinds l).length=1 then eqv m (IntKind.wrap .i64 (l.getD 0 default*steps)) else decide (IntKind.wrap .i64 (m.foldl max (m.getD 0 default)-m.foldl min (m.getD 0 default))≤1))):=by
 refine pO CS ?_;simp only[b36,ay];have:=nX.2 h0
 repeat' (first|refine zW ?_|refine zM ?_|apply a_n|apply a_r|refine zO ?_|refine vZ ?_|refine cZ ?_ (hp:=by first|exact eE _ hl|exact mH _ _ hm|exact BS _ hm h1|exact z5 _ hm h1)|(refine zGZ ?_ ?_<;>(intro _hg;try (exfalso;omega)))|refine ae rfl ?_|refine r1Z ?_|fail)
 all_goals (refine aY ?_)
 ·rw[if_pos (by omega),Int.toNat_zero]
 ·rw[if_neg (by omega)]
theorem rN(l:List Int)(hl:Sh l):pU 41 [aC l] (.bool (decide ((kinds l).length=l.length))):=by
 refine pO DQ ?_;simp only[b41,ay]
 repeat' (first|refine zW ?_|apply a_n|refine zO ?_|refine vZ ?_|refine cZ ?_ (hp:=by exact eE _ hl)|refine ae rfl ?_|refine r1Z ?_|fail)
 all_goals (refine aY ?_;simp only[Int.ofNat_inj])
theorem rm(l m:List Int)(hm:Sh m):pU 42 [aC l,aC m] (.bool (decide ((kinds m).length=m.length))):=by
 refine pO D1 ?_;simp only[b42,ay]
 repeat' (first|refine zW ?_|apply a_n|refine zO ?_|refine vZ ?_|refine cZ ?_ (hp:=by exact eE _ hm)|refine ae rfl ?_|refine r1Z ?_|fail)
 all_goals (refine aY ?_;simp only[Int.ofNat_inj])
theorem qF(v w:Int):pU 46 [.int .i64 v,.iptr [.int .i64 w] 0] (.bool (decide (v=w))):=by
 refine pO CX ?_;simp only[b46,ay]
 repeat' (first|refine zW ?_|apply a_n|refine zO ?_|refine vZ ?_|refine ae rfl ?_|refine r1Z ?_|fail)
 exact .bool _
theorem sn(l m:List Int)(h0:l≠[])(hl:Sh l)(hm:Sh m):pU 47 [aC l,aC m] (.bool (eqv m (l.getD 0 default))):=by
 refine pO D7 ?_;simp only[b47,ay];have:=nX.2 h0
 repeat' (first|refine zW ?_|apply a_n|refine zO ?_|refine vZ ?_|refine cZ ?_ (hp:=by exact mH _ _ hm)|refine ae rfl ?_|refine r1Z ?_|fail)
 rw[Int.toNat_zero];exact .bool _
theorem pG(l:List Int)(h0:l≠[])(hl:Sh l):pU 48 [aC l] (.int .i64 (l.foldl min (l.getD 0 default))):=by
 refine pO Ec ?_;simp only[b48,ay]
 repeat' (first|refine zW ?_|apply a_n|refine zO ?_|refine vZ ?_|refine cZ ?_ (hp:=by exact z5 _ hl h0)|refine ae rfl ?_|refine r1Z ?_|fail)
 exact .int _ _
theorem vV(l m:List Int)(h0:l≠[])(hl:Sh l)(hm:Sh m):pU 49 [aC l,aC m,.iptr [.func 48 []] 0] (.bool (eqv m 0 || eqv m 1&&decide (l.foldl min (l.getD 0 default)=1))):=by
 refine pO DU ?_;simp only[b49,ay]
 repeat' (first|refine zW ?_|apply a_n|refine zO ?_|refine vZ ?_|refine cZ ?_ (hp:=by first|exact mH _ _ hm|exact pG _ h0 hl)|refine gTZ ?_|refine gFZ ?_|(refine zGZ ?_ ?_<;>(intro _hg;try (exfalso;omega)))|refine ae rfl ?_|refine r1Z ?_|fail)
 all_goals (refine aY ?_;simp[*])
theorem wn(l m:List Int)(h0:l≠[])(hl:Sh l)(hm:Sh m):pU 50 [aC l,aC m,.iptr [.func 48 []] 0] (.bool (eqv m (l.foldl min (l.getD 0 default)))):=by
 refine pO Dy ?_;simp only[b50,ay]
 repeat' (first|refine zW ?_|apply a_n|refine zO ?_|refine vZ ?_|refine cZ ?_ (hp:=by first|exact mH _ _ hm|exact pG _ h0 hl)|refine ae rfl ?_|refine r1Z ?_|fail)
 exact .bool _
theorem wG(l m:List Int)(hm:Sh m)(h1:∀x∈m,0≤x∧x≤1000):pU 80 [aC l,aC m] (.bool (decide (m.sum=1))):=by
 refine pO DE ?_;simp only[b80,ay]
 repeat' (first|refine zW ?_|apply a_n|refine zO ?_|refine vZ ?_|fail)
 refine dJ (X:=Nat) (fun k=>[(5,.int .i64 (m.take k).sum),(8,aC m),(9,.int .i64 m.length),(10,.int .i64 k)]) (fun k=>k≤m.length∧0≤(m.take k).sum∧(m.take k).sum≤k*1000) (fun k=>m.length-k) 0 ⟨cu _,by simp⟩ (by simp (disch:=omega) only[agr,ZG,reduceEqDiff,↓reduceIte,List.take_zero,List.sum_nil]) ?_;rintro k ⟨h2,h3,h4⟩
 repeat' (first|refine zW ?_|apply a_n|apply a_x|refine zO ?_|refine vZ ?_|(refine zGZ ?_ ?_<;>(intro _hg;try (exfalso;omega)))|refine ae rfl ?_|refine r1Z ?_|fail)
 ·have hx:=h1 _ (an (show k<m.length by omega));have e:(m.take (k+1)).sum=(m.take k).sum+m.getD k default:=by rw[bN (by omega),List.sum_append];simp
  refine⟨k+1,⟨by omega,by omega,by omega⟩,by omega,?_,rfl,rfl⟩;rw[e];simp (disch:=omega) only[agr,ZG,reduceEqDiff,↓reduceIte]
 ·refine aY ?_;rw[jz (by omega)]
end Go.Proofs.YtcbkggfipdldaaaGreat.Lb
namespace Go.Proofs.YtcbkggfipdldaaaGreat.Lb
open Go Go.Abs
open Nat (reduceEqDiff reduceAdd reduceLeDiff)
attribute [local irreducible] aG al bh a7 aV aU aB aX a9 bt Go.Abs.Fn aZ Go.Abs.Pure ax aO Yl
def every:Nat→Nat→List (List Int)
 |0,_=>[[]]
 |n+1,v=>(List.range v).flatMap fun(x:Nat)=>(every n v).map fun r=>(x:Int)::r
def jR(v:Nat):List Int→Option (List Int)
 |[]=>none
 |x::r=>match jR v r with
  |some r'=>some (x::r')
  |none=>if x+1<v then some ((x+1)::List.replicate r.length 0) else none
def Run(v:Nat):List (List Int)→Prop
 |[]=>False
 |[x]=>jR v x=none
 |x::y::l=>jR v x=some y∧Run v (y::l)
theorem eG:∀(n v:Nat),∀x∈every n v,x.length=n
 |0,v,x,h=>by simp[every] at h;simp[h]
 |n+1,v,x,h=>by
  simp only[every,List.mem_flatMap,dp] at h;obtain⟨a,_,r,hr,rfl⟩:=h;simp[eG n v r hr]
theorem run_map{v:Nat}{x:Int}{n:Nat}{tail:List (List Int)}(ht:match tail with|[]=>¬x+1<v|y::_=>x+1<v∧y=(x+1)::List.replicate n 0)(hrt:tail=[]∨Run v tail):∀(l:List (List Int)),Run v l→(∀r∈l,r.length=n)→Run v ((l.map fun r=>x::r)++tail)
 |[],h,_=>h.elim
 |[r],h,hn=>by
  have hr:=hn r (by simp);have h:jR v r=none:=h;cases tail with
  |nil=>simp only[fZ,List.map_nil,lg,Run,jR,h];rw[if_neg ht]
  |cons y t=>
   obtain⟨h1,rfl⟩:=ht;refine⟨?_,hrt.resolve_left (by simp)⟩;simp only[jR,h];rw[if_pos h1,hr]
 |r::r'::l,h,hn=>by
  refine⟨?_,run_map ht hrt (r'::l) h.2 (fun q hq=>hn q (by simp[hq]))⟩;simp only[jR,h.1]
theorem nk(n v:Nat)(hv:0<v):∃t,every n v=List.replicate n 0::t:=by
 induction n with
 |zero=>exact⟨[],rfl⟩
 |succ n ih=>
  obtain⟨t,ht⟩:=ih;obtain⟨m,rfl⟩:∃m,v=m+1:=⟨v-1,by omega⟩
  simp only[every,List.range_succ_eq_map,o6,ht,fZ,List.cons_append];exact⟨_,rfl⟩
theorem vN(n v:Nat)(hv:0<v):Run v (every n v):=by
 induction n with
 |zero=>show jR v []=none;rfl
 |succ n ih=>
  have key:∀m x,x+m=v→0<m→Run v ((List.range' x m).flatMap fun(x:Nat)=>(every n v).map fun r=>(x:Int)::r):=by
   intro m
   induction m with
   |zero=>intro x _ h;omega
   |succ m ihm=>
    intro x hx _;rw[List.range'_succ,o6];refine run_map (n:=n) ?_ ?_ _ ih (eG n v)
    ·cases m with
     |zero=>simp;omega
     |succ m=>
      obtain⟨t,ht⟩:=nk n v hv;rw[List.range'_succ,o6,ht];simp;omega
    ·cases m with
     |zero=>left;rfl
     |succ m=>right;exact ihm (x+1) (by omega) (by omega)
  have:=key v 0 (by omega) hv;rw[←List.range_eq_range'] at this;exact this
theorem uw{v:Nat}:∀(l:List (List Int)),Run v l→∀k,k<l.length→jR v (l.getD k [])=if k+1<l.length then some (l.getD (k+1) []) else none
 |[],h,_,_=>h.elim
 |[x],h,k,hk=>by
  have:k=0:=by simp at hk;omega
  subst this;have h:jR v x=none:=h;simp[h]
 |x::y::l,h,k,hk=>by
  cases k with
  |zero=>simp[h.1]
  |succ k=>
   have:=uw (y::l) h.2 k (by simpa using hk);simp only[List.getD_cons_succ,this,de];simp
theorem lJ{v:Nat}(hv:0<v):∀(m:Nat),jR v (List.replicate m ((v:Int)-1))=none
 |0=>rfl
 |m+1=>by
  rw[List.replicate_succ];simp only[jR,lJ hv m];rw[if_neg (by omega)]
theorem sg{v:Nat}(hv:0<v)(d:Int)(hd:d+1<v)(m:Nat):∀pre:List Int,jR v (pre++d::List.replicate m ((v:Int)-1))=some (pre++(d+1)::List.replicate m 0)
 |[]=>by
  simp only[List.nil_append,jR,lJ hv m];rw[if_pos hd];simp
 |x::pre=>by
  simp only[List.cons_append,jR,sg hv d hd m pre]
theorem k9:∀(n v:Nat),∀x∈every n v,∀a∈x,0≤a∧a<v
 |0,v,x,h=>by simp[every] at h;simp[h]
 |n+1,v,x,h=>by
  simp only[every,List.mem_flatMap,dp] at h;obtain⟨a,ha,r,hr,rfl⟩:=h;intro b hb;rcases fo.1 hb with rfl|hb
  ·have:=en.1 ha;omega
  ·exact k9 n v r hr b hb
theorem ud(n v:Int):pU 76 [.int .i64 n,.int .i64 v] (.func 98 [.iptr [.int .i64 n] 0,.iptr [.int .i64 v] 0]):=by
 refine pO DA ?_;simp only[b76,ay]
 repeat' (first|refine zW ?_|apply a_n|refine zO ?_|refine vZ ?_|refine bxZ ?_|refine ae rfl ?_|refine r1Z ?_|fail)
 refine d6 ?_
 (repeat' (first|exact ai|exact Dat.snap Dat.int|exact Dat.snap Dat.bool|exact Dat.snap Dat.str|exact Dat.snap Dat.esl|exact Dat.snap Dat.nilf|exact Dat.snap (bw _)|exact Dat.snap (bi _)|apply ap|apply d6|apply ez|(apply dR;(focus ((try simp only[bR,ZA,reduceEqDiff,↓reduceIte,reduceAdd,reduceLeDiff]);with_reducible rfl));(focus rfl))))
end Go.Proofs.YtcbkggfipdldaaaGreat.Lb
namespace Go.Proofs.YtcbkggfipdldaaaGreat.Lb
open Go Go.Abs
open Nat (reduceEqDiff reduceAdd reduceLeDiff)
attribute [local irreducible] aG al bh a7 aV aU aB aX a9 bt Go.Abs.Fn aZ Go.Abs.Pure ax aO Yl
theorem nZ(n:Nat):bn (.agg [.int .i64 0]) n=(List.replicate n (0:Int)).map (AV.int .i64):=by
 induction n with
 |zero=>rfl
 |succ n ih=>rw[List.replicate_succ,fZ,←ih];simp[bn,List.replicate_succ,AV.cells]
theorem p9{y n v:Nat}{H:Hp}{nx:Nat}(hn:1≤n∧n≤1000)(hv:1≤v∧v≤1000)(I:Nat→Hp→Nat→Prop)(Q:Hp→Nat→Prop)
    (stab:∀k H H' nx' nx'',I k H nx'→nx'≤nx''→nx≤nx'→(∀i,i<nx'→i≠nx→H' i=H i)→I k H' nx'')
    (h0:I 0 H nx)
    (rnd:∀ k H' nx',k < (every n v).length→I k H' nx'→nx < nx'→H' nx=some (((every n v).getD k []).map (AV.int .i64)) →
     Yl Tryz.prog y [.msl nx n 1 0 n] H' nx' fun r H'' nx''=>(r=.bool true∧I (k+1) H'' nx''∧nx<nx''∧nx'≤nx''∧H'' nx=H' nx)∨(r=.bool false∧Q H'' nx'')):
    Abs.Fn Tryz.prog 98 [.yld y,.iptr [.int .i64 n] 0,.iptr [.int .i64 v] 0] H nx fun _ H' nx'=>Q H' nx'∨I (every n v).length H' nx':=by
 refine fO D3 ?_;simp only[b98,ay]
 repeat' (first|refine zW ?_|apply a_n|refine zO ?_|refine vZ ?_|fail)
 refine zK rfl ev0 ev0 (by omega) (by omega) (by omega) (by omega) ?_
 repeat' (first|refine zW ?_|apply a_n|refine zO ?_|refine vZ ?_|fail)
 obtain⟨t,ht⟩:=nk n v hv.1;have hrun:=vN n v hv.1
 refine bo (X:=Nat) (fun k=>[(0,.yld y),(1,.iptr [.int .i64 n] 0),(2,.iptr [.int .i64 v] 0),(4,.msl nx n 1 0 n)])
  (fun k H' nx'=>k<(every n v).length∧I k H' nx'∧nx<nx'∧H' nx=some (((every n v).getD k []).map (AV.int .i64))) (fun k=>(every n v).length-k) 0
  ⟨by rw[ht];simp,stab 0 H _ nx _ h0 (Nat.le_succ _) (aM _) (fun i hi hne=>by simp[am,hne]),ms _,by rw[aj,nZ,ht];simp⟩ (by simp (disch:=omega) only[agr,ZG,reduceEqDiff,↓reduceIte,bD,Nat.mul_one]) ?_
 rintro k H1 nx1 ⟨hk,hI,hnx,hH⟩
 repeat' (first|refine zW ?_|apply a_n|refine zO ?_|refine vZ ?_|fail)
 refine uU ev0 ev0 (Yl.mono (rnd k H1 nx1 hk hI hnx hH) ?_);rintro r H2 nx2 (⟨rfl,hI2,hnx2,hle,hH2⟩|⟨rfl,hQ⟩)
 rotate_left
 ·repeat' (first|apply a_n|apply a_r|refine zO ?_|refine vZ ?_|refine cTZ ?_|refine ae rfl ?_|fail)
  exact .inl hQ
 ·rw[hH] at hH2
  repeat' (first|refine zW ?_|apply a_n|refine zO ?_|refine vZ ?_|refine cFZ ?_|fail)
  have hvl:((every n v).getD k []).length=n:=by
   have:(every n v).getD k []∈every n v:=an (l:=every n v) hk;exact eG n v _ this
  have hvm:∀a∈(every n v).getD k [],0≤a∧a<v:=k9 n v _ (an (l:=every n v) hk);have hget:=uw _ hrun k hk;generalize hvec:(every n v).getD k []=vec at hH2 hvl hvm hget
  refine bo (X:=Nat) (fun j=>[(0,.yld y),(1,.iptr [.int .i64 n] 0),(2,.iptr [.int .i64 v] 0),(4,.msl nx n 1 0 n),(5,.int .i64 ((j:Int)-1))])
   (fun j H' nx'=>j≤n∧I (k+1) H' nx'∧nx<nx'∧∃c:List Int,H' nx=some (c.map (AV.int .i64))∧c.length=n∧c=vec.take j++List.replicate (n-j) 0∧vec.drop j=List.replicate (n-j) ((v:Int)-1)) (fun j=>j) n
   ⟨aM _,hI2,hnx2,vec,hH2,hvl,by rw[jz (by omega)];simp,by rw[jD (by omega)];simp⟩ ag0 ?_
  rintro j H3 nx3 ⟨hj,hI3,hnx3,c,hH3,hc,hcd,hdr⟩
  have hcj:0<j→c.getD (j-1) default=vec.getD (j-1) default:=by
   intro h0;rw[hcd];simp only[List.getD];rw[eV (by simp;omega),fT,if_pos (by omega)]
  have zz:=aI @hH3 @hc;repeat' (first|refine zW ?_|apply a_n|apply a_x|apply a_r|refine zO ?_|refine vZ ?_|refine stZ ?_|refine gTZ ?_|refine gFZ ?_|refine cFZ ?_|(refine zGZ ?_ ?_<;>(intro _hg;try (exfalso;omega)))|refine ae rfl ?_|fail)
  ·have hj0:0<j:=by omega
   have ht1:((j:Int)-1).toNat=j-1:=by omega
   rw[ht1] at _hg ⊢;refine⟨j-1,by omega,⟨by omega,stab _ _ _ _ _ hI3 (aM _) (by omega) (fun i _ hne=>by simp[am,hne]),hnx3,c.set (j-1) 0,?_,by simpa using hc,?_,?_⟩,by simp (disch:=omega) only[agr,ZG,reduceEqDiff,↓reduceIte,show((j-1:Nat):Int)=(j:Int)-1 by omega]⟩
   ·rw[aj,og (by omega)]
   ·rw[hcd,show n-(j-1)=(n-j)+1 by omega,List.replicate_succ]
    have e:vec.take j=vec.take (j-1)++[vec.getD (j-1) default]:=by
     have:=bN (l:=vec) (k:=j-1) (by omega);rwa [show j-1+1=j by omega] at this
    rw[e,uu,List.set_append_right _ _ (by simp;omega)];simp;rw[show j-1-min (j-1) vec.length=0 by omega];rfl
   ·have:=bO (l:=vec) (k:=j-1) (by omega);rw[this,show j-1+1=j by omega,hdr,show n-(j-1)=(n-j)+1 by omega,List.replicate_succ,←hcj hj0,_hg]
  ·rename_i _ hg1;have hj0:0<j:=by omega
   have ht1:((j:Int)-1).toNat=j-1:=by omega
   rw[ht1] at hg1 ⊢;rw[hcj hj0] at hg1 ⊢;have hd:=hvm _ (an (l:=vec) (k:=j-1) (by omega))
   have hsplit:vec=vec.take (j-1)++vec.getD (j-1) default::List.replicate (n-j) ((v:Int)-1):=by
    rw[←hdr];have:=bO (l:=vec) (k:=j-1) (by omega);rw[show j-1+1=j by omega] at this;rw[←this,uq]
   have hnext:=sg (v:=v) (by omega) (vec.getD (j-1) default) (by omega) (n-j) (vec.take (j-1));rw[←hsplit,hget] at hnext;split at hnext
   case isFalse=>cases hnext
   case isTrue hk1=>
   injection hnext with hnext;refine⟨k+1,by omega,⟨hk1,stab _ _ _ _ _ hI3 (aM _) (by omega) (fun i _ hne=>by simp[am,hne]),hnx3,?_⟩,ag0⟩;rw[aj,j5 (by omega) (by omega),og (by omega),hnext,hcd]
   have e:vec.take j=vec.take (j-1)++[vec.getD (j-1) default]:=by
    have:=bN (l:=vec) (k:=j-1) (by omega);rwa [show j-1+1=j by omega] at this
   rw[e,uu,List.set_append_right _ _ (by simp;omega)]
   congr 2
   simp;rw[show j-1-min (j-1) vec.length=0 by omega];rfl
  ·have hj0:j=0:=by omega
   subst hj0;right;rw[Nat.sub_zero,List.drop_zero] at hdr;rw[hdr,lJ (by omega)] at hget;split at hget
   ·cases hget
   ·rw[show(every n v).length=k+1 by omega];exact hI3
end Go.Proofs.YtcbkggfipdldaaaGreat.Lb