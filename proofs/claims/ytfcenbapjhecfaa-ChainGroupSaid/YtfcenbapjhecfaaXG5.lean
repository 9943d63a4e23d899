/- Texts of this claim, one after the other: U11s, U12s, U13s, U2p, U3p, U4p, U5p, U6p, U7p, U8p, U10p, U12p, U13p, T106, T109, T110, T111, T112, T113, T107, T114, T115, T116, T117, T119, T124, T125, T120, T123, T126, T127, T128, T135, T136, T137, T129, T130, T131, T138, T170, T172, T132, T173, T151, T139, T140, T141, T142, T171, T134, T146, T174, T175. -/
import Derived.Test.YtfcenbapjhecfaaXG4

set_option linter.unusedSimpArgs false
set_option linter.unusedVariables false
namespace Go.Proofs.Ytfcenbapjhecfaa
open Go Go.Abs
structure PS (H H1:Hp) (nx n1 b:Nat) (cs:List AV):Prop where
 at_:H1 b=some cs
 fr:∀ i,i < nx→i ≠ b→H1 i=H i
 le:nx ≤ n1
section
variable {H H1 H2:Hp} {nx n1 n2 b:Nat} {cs cs':List AV}
theorem PS.upd (h:PS H H1 nx n1 b cs):PS H (aq H1 b cs') nx n1 b cs':=⟨ai,fun i k1 k2=>by rw [ag k2]; exact h.fr i k1 k2,h.le⟩
theorem PS.new {v:List AV} (hb:b < nx) (h:PS H H1 nx n1 b cs):PS H (aq H1 n1 v) nx (n1 + 1) b cs :=
 have h1:=h.le
 ⟨by rw [ag (by omega)]; exact h.at_,fun i k1 k2=>by rw [ag (by omega)]; exact h.fr i k1 k2,by omega⟩
theorem PS.rec_ (h:PS H H1 nx n1 b cs) (h1:H2 b=some cs') (h2:∀ i,i < n1→i ≠ b→H2 i=H1 i) (h3:n1 ≤ n2):PS H H2 nx n2 b cs' :=
 have h4:=h.le
 ⟨h1,fun i k1 k2=>by rw [h2 i (by omega) k2]; exact h.fr i k1 k2,by omega⟩
end
section
variable {α:Type} [Inhabited α] {f:α→AV} {K:α→α→Int} {G:α→Prop} {g:Nat} {caps:List AV}
structure PI {α:Type} [Inhabited α] (K:α→α→Int) (a e:Nat) (L:List α) (a1 e1:Nat) (M:List α):Prop where
 lo:a ≤ a1
 mid:a1 ≤ e1
 hi:e1 ≤ e
 len:e ≤ L.length
 perm:PermR a e L M
 low:nG K a1 e1 M
 close:∀ N,PermR a1 e1 M N→aZ K a1 e1 N→aZ K a e N
variable {a e a1 e1:Nat} {L M N:List α}
theorem PI.mlen (h:PI K a e L a1 e1 M):e1 ≤ M.length:=by rw [h.perm.len]; exact Nat.le_trans h.hi h.len
theorem PI.start (h1:a ≤ e) (h2:e ≤ L.length) (h3:nG K a e L):PI K a e L a e L:=⟨Nat.le_refl _,h1,Nat.le_refl _,h2,.refl,h3,fun _ _ h=>h⟩
theorem PI.swap (h:PI K a e L a1 e1 M) (hp:PermR a1 e1 M N):PI K a e L a1 e1 N :=
 ⟨h.lo,h.mid,h.hi,h.len,h.perm.trans (hp.mono h.lo h.hi),h.low.perm hp h.mid h.mlen,fun N' k1 k2=>h.close N' (hp.trans k1) k2⟩
theorem PI.done (h:PI K a e L a1 e1 M) (hp:PermR a1 e1 M N) (hs:aZ K a1 e1 N):PermR a e L N∧aZ K a e N:=⟨h.perm.trans (hp.mono h.lo h.hi),h.close N hp hs⟩
theorem PI.equal {v:α} {m:Nat} (hK:Ord K) (h:PI K a e L a1 e1 M) (hp:PermR a1 e1 M N) (hv:¬ K (M.getD (a1 - 1) default) v < 0) (ha:0 < a1) (hm:a1 < m∧m ≤ e1) (h1:∀ p,a1 ≤ p→p < m→¬ K v (N.getD p default) < 0) (h2:∀ q,m ≤ q→q < e1→K v (N.getD q default) < 0):PI K a e L m e1 N:=by
 have hN:=h.swap hp
 have hlow:=hN.low
 have ho:N.getD (a1 - 1) default=M.getD (a1 - 1) default:=hp.out _ (.inl (by omega))
 refine ⟨by have:=h.lo; omega,hm.2,h.hi,h.len,hN.perm,fun q k0 k1 k2=>hK.negtr _ _ _ (h1 (m - 1) (by omega) (by omega)) (hK.asym _ _ (h2 q k1 k2)),fun N' k1 k2=>hN.close N' (k1.mono (by omega) (Nat.le_refl _)) (fun p q c1 c2 c3=>?_)⟩
 by_cases e1':m ≤ p
 ·exact k2 p q e1' c2 c3
 ·rw [k1.out p (.inl (by omega))]
  refine hK.negtr _ _ _ (h1 p c1 (by omega)) ?_
  by_cases e2:m ≤ q
  ·exact hK.asym _ _ (k1.all (p:=fun x=>K v x < 0) hm.2 hN.mlen h2 q e2 c3)
  ·rw [k1.out q (.inl (by omega))]
   exact hK.negtr _ _ _ hv (by rw [← ho]; exact hlow q ha (by omega) c3)
theorem aZ.glue {m:Nat} (hK:Ord K) (h1:aZ K a1 m N) (h2:aZ K (m + 1) e1 N) (h3:∀ p,a1 ≤ p→p < m→¬ K (N.getD m default) (N.getD p default) < 0) (h4:∀ q,m < q→q < e1→¬ K (N.getD q default) (N.getD m default) < 0):aZ K a1 e1 N:=fun p q k1 k2 k3=>by
 by_cases c1:q < m
 ·exact h1 p q k1 k2 c1
 ·by_cases c2:m < p
  ·exact h2 p q c2 k2 k3
  ·by_cases c3:p=m
   ·subst c3; exact h4 q (by omega) k3
   ·by_cases c4:q=m
    ·subst c4; exact h3 p k1 k2
    ·exact hK.negtr _ _ _ (h3 p k1 (by omega)) (h4 q (by omega) k3)
structure TwoS {α:Type} [Inhabited α] (K:α→α→Int) (a1 e1 m:Nat) (N:List α):Prop where
 mid:a1 ≤ m∧m < e1
 lt:∀ p,a1 ≤ p→p < m→¬ K (N.getD m default) (N.getD p default) < 0
 ge:∀ q,m < q→q < e1→¬ K (N.getD q default) (N.getD m default) < 0
theorem TwoS.left {m:Nat} {N':List α} (h:TwoS K a1 e1 m N) (hp:PermR a1 m N N') (hl:e1 ≤ N.length):TwoS K a1 e1 m N' :=
 have hm:=h.mid
 ⟨hm,by
  rw [hp.out m (.inr (Nat.le_refl _))]
  exact hp.all (p:=fun x=>¬ K (N.getD m default) x < 0) hm.1 (by omega) h.lt,fun q k1 k2=>by rw [hp.out m (.inr (Nat.le_refl _)),hp.out q (.inr (by omega))]; exact h.ge q k1 k2⟩
theorem TwoS.right {m:Nat} {N':List α} (h:TwoS K a1 e1 m N) (hp:PermR (m + 1) e1 N N') (hl:e1 ≤ N.length):TwoS K a1 e1 m N' :=
 have hm:=h.mid
 ⟨hm,fun p k1 k2=>by rw [hp.out m (.inl (by omega)),hp.out p (.inl (by omega))]; exact h.lt p k1 k2,by
  rw [hp.out m (.inl (by omega))]
  exact fun q k1 k2=>hp.all (p:=fun x=>¬ K x (N.getD m default) < 0) (by omega) hl (fun i c1 c2=>h.ge i (by omega) c2) q (by omega) k2⟩
theorem PI.left {m:Nat} (hK:Ord K) (h:PI K a e L a1 e1 M) (ht:TwoS K a1 e1 m M) (hp:PermR a1 m M N) (hs:aZ K a1 m N):PI K a e L (m + 1) e1 N:=by
 have hm:=ht.mid
 have hN:=h.swap (hp.mono (Nat.le_refl _) (by omega))
 have htN:=ht.left hp h.mlen
 refine ⟨by have:=h.lo; omega,by omega,h.hi,h.len,hN.perm,fun q k0 k1 k2=>by rw [Nat.add_sub_cancel]; exact htN.ge q k1 k2,fun N' k1 k2=>hN.close N' (k1.mono (by omega) (Nat.le_refl _)) ?_⟩
 have ht':=htN.right k1 hN.mlen
 exact aZ.glue hK (fun p q c1 c2 c3=>by rw [k1.out p (.inl (by omega)),k1.out q (.inl (by omega))]; exact hs p q c1 c2 c3) k2 ht'.lt ht'.ge
theorem PI.right {m:Nat} (hK:Ord K) (h:PI K a e L a1 e1 M) (ht:TwoS K a1 e1 m M) (hp:PermR (m + 1) e1 M N) (hs:aZ K (m + 1) e1 N):PI K a e L a1 m N:=by
 have hm:=ht.mid
 have hN:=h.swap (hp.mono (by omega) (Nat.le_refl _))
 have htN:=ht.right hp h.mlen
 refine ⟨h.lo,hm.1,by have:=h.hi; omega,h.len,hN.perm,fun q k0 k1 k2=>hN.low q k0 k1 (by omega),fun N' k1 k2=>hN.close N' (k1.mono (Nat.le_refl _) (by omega)) ?_⟩
 have ht':=htN.left k1 hN.mlen
 exact aZ.glue hK k2 (fun p q c1 c2 c3=>by rw [k1.out p (.inr (by omega)),k1.out q (.inr (by omega))]; exact hs p q c1 c2 c3) ht'.lt ht'.ge
theorem nG.sub {a e a' e':Nat} {M:List α} (h:nG K a e M) (ha:a'=a) (he:e' ≤ e):nG K a' e' M:=fun q k0 k1 k2=>by subst ha; exact h q k0 k1 (by omega)
end
end Go.Proofs.Ytfcenbapjhecfaa
namespace Go.Proofs.Ytfcenbapjhecfaa
open Go Go.Abs
section
variable {α:Type} [Inhabited α] {f:α→AV} {K:α→α→Int} {G:α→Prop} {g:Nat} {caps:List AV}
attribute [local irreducible] aC ah aU aO aH aJ az aK aP bb Go.Abs.Fn aM Go.Abs.Pure ar aD Yl
theorem zZ (hc:Cmp Try.prog f K G g caps) {b n:Nat} (hn2:n ≤ 1000000000):∀ (sz a e lim:Nat) (L:List α) (H:Hp) (nx:Nat),e - a < sz→H b=some (L.map f)→b < nx→L.length=n→(∀ x ∈ L,G x)→a ≤ e→e ≤ n→lim ≤ 64→nG K a e L →
    Abs.Fn Try.prog 89 [.msl b n 1 0 n,.int .i64 a,.int .i64 e,.int .i64 lim,.func g caps] H nx fun r H' nx'=>∃ L',PS H H' nx nx' b (L'.map f)∧PermR a e L L'∧aZ K a e L':=by
 intro sz
 induction sz with
 | zero=>intro a e lim L H nx h; omega
 | succ sz ih =>
 intro a e lim L H nx hsz hH hbx hn hG hae hen hlim hlow
 have dcap:=hc.dcaps
 refine Abs.Fn.of_c2 follows zx (Nat.le_of_ble_eq_true rfl) ?_
 simp only [b89,cO,cG,cN,cM,cD,cF,cB,aF,aW]
 (have zz:=and_self; repeat' (first|refine zW ?_|apply a_n|refine zO ?_|refine vZ ?_|fail)) <;> (try clear zz)
 refine bk (X:=Nat × Nat × Nat × Bool × Bool × List α) (fun x=>[(0,.msl b n 1 0 n),(1,.int .i64 (x.1:Nat)),(2,.int .i64 (x.2.1:Nat)),(3,.int .i64 (x.2.2.1:Nat)),(4,.func g caps),(10,.bool x.2.2.2.1),(11,.bool x.2.2.2.2.1)]) (fun x H' nxx=>PI K a e L x.1 x.2.1 x.2.2.2.2.2∧PS H H' nx nxx b (x.2.2.2.2.2.map f)∧x.2.2.1 ≤ 64) (fun x=>x.2.1 - x.1) (a,e,lim,true,true,L) ⟨.start hae (by rw [hn]; exact hen) hlow,⟨hH,fun _ _ _=>rfl,Nat.le_refl _⟩,hlim⟩ ag0 ?_
 clear hlim hlow lim
 rintro ⟨a1,e1,lim,wb,wp,M⟩ H1 n1 ⟨hpi,hps,hlim⟩
 dsimp only at *
 have hlo:=hpi.lo; have hmid:=hpi.mid; have hhi:=hpi.hi
 obtain ⟨l,hl0⟩:∃ l,e1 - a1=l:=⟨_,rfl⟩
 rw [hl0]
 have te:(e1:Int) - (a1:Int)=(l:Int):=by omega
 have hlen:∀ M:List α,PI K a e L a1 e1 M→M.length=n:=fun M h=>by rw [h.perm.len,hn]
 have hGA:∀ M:List α,PI K a e L a1 e1 M→∀ x ∈ M,G x:=fun M h=>h.perm.mem hG
 have hbn:∀ (M:List α) (H1:Hp) (n1:Nat),PS H H1 nx n1 b (M.map f)→b < n1:=fun M H1 n1 h=>by have:=h.le; omega
 obtain ⟨T,hT,t0,t1,t2,t3,t4,t10,t11⟩:∃ T,tl [(0,.msl b n 1 0 n),(1,.int .i64 (a1:Nat)),(2,.int .i64 (e1:Nat)),(3,.int .i64 (lim:Nat)),(4,.func g caps),(10,.bool wb),(11,.bool wp)]=T∧T 0=.msl b n 1 0 n∧T 1=.int .i64 (a1:Nat)∧T 2=.int .i64 (e1:Nat)∧T 3=.int .i64 (lim:Nat)∧T 4=.func g caps∧T 10=.bool wb∧T 11=.bool wp:=⟨_,rfl,rfl,rfl,rfl,rfl,rfl,rfl,rfl⟩
 rw [hT]
 clear hT
 refine fQ ?_
 refine bw (fun T H'' nx''=>T 0=.msl b n 1 0 n∧T 1=.int .i64 (a1:Nat)∧T 2=.int .i64 (e1:Nat)∧T 3=.int .i64 (lim:Nat)∧T 4=.func g caps∧T 10=.bool wb∧T 11=.bool wp∧T 12=.int .i64 (l:Nat)∧H1=H''∧n1=nx'') ?_ ?_
 ·(have zz:=aI @t0 (aI @t1 (aI @t2 (aI @t3 (aI @t4 (aI @t10 (aI @t11 @te)))))); repeat' (first|apply a_n|refine zO ?_|refine vZ ?_|fail)) <;> (try clear zz)
  exact ⟨(have zz:=@t0; evZ),(have zz:=@t1; evZ),(have zz:=@t2; evZ),(have zz:=@t3; evZ),(have zz:=@t4; evZ),(have zz:=@t10; evZ),(have zz:=@t11; evZ),ev0,rfl,rfl⟩
 clear t0 t1 t2 t3 t4 t10 t11
 rintro T _ _ ⟨t0,t1,t2,t3,t4,t10,t11,t12,rfl,rfl⟩
 refine bw (fun T H'' nx''=>T 0=.msl b n 1 0 n∧T 1=.int .i64 (a1:Nat)∧T 2=.int .i64 (e1:Nat)∧T 3=.int .i64 (lim:Nat)∧T 4=.func g caps∧T 10=.bool wb∧T 11=.bool wp∧T 12=.int .i64 (l:Nat)∧13 ≤ l∧H1=H''∧n1=nx'') ?_ ?_
 ·by_cases h12:l ≤ 12
  ·(have zz:=aI @t0 (aI @t1 (aI @t2 (aI @t3 (aI @t4 (aI @t10 (aI @t11 @t12)))))); repeat' (first|refine zW ?_|apply a_n|refine zO ?_|refine vZ ?_|(refine zGZ ?_ ?_ <;> (intro _hg; try (exfalso; omega)))|fail)) <;> (try clear zz)
   refine aS ev0 (have zz:=aI @t0 (aI @t1 (aI @t2 (aI @t3 (aI @t4 (aI @t10 (aI @t11 @t12)))))); evZ) (zw hc (b:=b) hps.at_ (hlen _ hpi) (hGA _ hpi) (a:=a1) (e:=e1) hmid (by omega) hn2) ?_
   rintro _ _ _ ⟨rfl,N,rfl,hpN,hsN⟩
   (have zz:=and_self; repeat' (first|apply a_n|apply a_r|refine zO ?_|refine ak rfl ?_|fail)) <;> (try clear zz)
   exact ⟨N,hps.upd,hpi.done hpN hsN⟩
  ·(have zz:=aI @t0 (aI @t1 (aI @t2 (aI @t3 (aI @t4 (aI @t10 (aI @t11 @t12)))))); repeat' (first|refine zW ?_|apply a_n|refine zO ?_|refine vZ ?_|(refine zGZ ?_ ?_ <;> (intro _hg; try (exfalso; omega)))|fail)) <;> (try clear zz)
   exact ⟨(have zz:=@t0; evZ),(have zz:=@t1; evZ),(have zz:=@t2; evZ),(have zz:=@t3; evZ),(have zz:=@t4; evZ),(have zz:=@t10; evZ),(have zz:=@t11; evZ),(have zz:=@t12; evZ),by omega,rfl,rfl⟩
 clear t0 t1 t2 t3 t4 t10 t11 t12
 rintro T _ _ ⟨t0,t1,t2,t3,t4,t10,t11,t12,h13,rfl,rfl⟩
 refine bw (fun T H'' nx''=>T 0=.msl b n 1 0 n∧T 1=.int .i64 (a1:Nat)∧T 2=.int .i64 (e1:Nat)∧T 3=.int .i64 (lim:Nat)∧T 4=.func g caps∧T 10=.bool wb∧T 11=.bool wp∧T 12=.int .i64 (l:Nat)∧0 < lim∧H1=H''∧n1=nx'') ?_ ?_
 ·by_cases h12:lim=0
  ·subst h12
   have tz:decide (((0:Nat):Int)=0)=true:=rfl
   (have zz:=aI @t0 (aI @t1 (aI @t2 (aI @t3 (aI @t4 (aI @t10 (aI @t11 (aI @t12 @tz))))))); repeat' (first|refine zW ?_|apply a_n|refine zO ?_|refine vZ ?_|refine cTZ ?_|fail)) <;> (try clear zz)
   refine aS ev0 (have zz:=aI @t0 (aI @t1 (aI @t2 (aI @t3 (aI @t4 (aI @t10 (aI @t11 @t12)))))); evZ) (x6 hc (b:=b) hps.at_ (hlen _ hpi) (hGA _ hpi) (a:=a1) (e:=e1) hmid (by omega) hn2) ?_
   rintro _ _ _ ⟨rfl,N,rfl,hpN,hsN⟩
   (have zz:=and_self; repeat' (first|apply a_n|apply a_r|refine zO ?_|refine ak rfl ?_|fail)) <;> (try clear zz)
   exact ⟨N,hps.upd,hpi.done hpN hsN⟩
  ·have tz:decide ((lim:Int)=0)=false:=decide_eq_false (by omega)
   (have zz:=aI @t0 (aI @t1 (aI @t2 (aI @t3 (aI @t4 (aI @t10 (aI @t11 (aI @t12 @tz))))))); repeat' (first|refine zW ?_|apply a_n|refine zO ?_|refine vZ ?_|refine cFZ ?_|fail)) <;> (try clear zz)
   exact ⟨(have zz:=@t0; evZ),(have zz:=@t1; evZ),(have zz:=@t2; evZ),(have zz:=@t3; evZ),(have zz:=@t4; evZ),(have zz:=@t10; evZ),(have zz:=@t11; evZ),(have zz:=@t12; evZ),by omega,rfl,rfl⟩
 clear t0 t1 t2 t3 t4 t10 t11 t12
 rintro T _ _ ⟨t0,t1,t2,t3,t4,t10,t11,t12,hlim1,rfl,rfl⟩
 refine bw (fun T H'' nx''=>∃ (lim:Nat) (M:List α),lim ≤ 64∧PI K a e L a1 e1 M∧PS H H'' nx nx'' b (M.map f)∧T 0=.msl b n 1 0 n∧T 1=.int .i64 (a1:Nat)∧T 2=.int .i64 (e1:Nat)∧T 3=.int .i64 (lim:Nat)∧T 4=.func g caps∧T 10=.bool wb∧T 11=.bool wp∧T 12=.int .i64 (l:Nat)) ?_ ?_
 ·cases wb
  ·obtain ⟨k,rfl⟩:∃ k,lim=k + 1:=⟨lim - 1,by omega⟩
   have tk:((k + 1:Nat):Int) - 1=(k:Int):=by omega
   (have zz:=aI @t0 (aI @t1 (aI @t2 (aI @t3 (aI @t4 (aI @t10 (aI @t11 @t12)))))); repeat' (first|refine zW ?_|apply a_n|refine zO ?_|refine vZ ?_|refine cTZ ?_|fail)) <;> (try clear zz)
   refine aS ev0 (have zz:=aI @t0 (aI @t1 (aI @t2 (aI @t3 (aI @t4 (aI @t10 (aI @t11 @t12)))))); evZ) (wS hc (b:=b) hps.at_ (hbn _ _ _ hps) (hlen _ hpi) (a:=a1) (e:=e1) (by omega) (by omega) hn2) ?_
   rintro _ _ _ ⟨rfl,N,hN1,hN2,hpN⟩
   (have zz:=aI @t0 (aI @t1 (aI @t2 (aI @t3 (aI @t4 (aI @t10 (aI @t11 (aI @t12 @tk))))))); repeat' (first|apply a_n|refine zO ?_|refine vZ ?_|fail)) <;> (try clear zz)
   exact ⟨k,N,by omega,hpi.swap hpN,hps.rec_ hN1 hN2 (Nat.le_succ _),(have zz:=@t0; evZ),(have zz:=@t1; evZ),(have zz:=@t2; evZ),(have zz:=@t3; evZ),(have zz:=@t4; evZ),(have zz:=@t10; evZ),(have zz:=@t11; evZ),(have zz:=@t12; evZ)⟩
  ·(have zz:=aI @t0 (aI @t1 (aI @t2 (aI @t3 (aI @t4 (aI @t10 (aI @t11 @t12)))))); repeat' (first|refine zW ?_|apply a_n|refine zO ?_|refine vZ ?_|refine cFZ ?_|fail)) <;> (try clear zz)
   exact ⟨lim,M,hlim,hpi,hps,(have zz:=@t0; evZ),(have zz:=@t1; evZ),(have zz:=@t2; evZ),(have zz:=@t3; evZ),(have zz:=@t4; evZ),(have zz:=@t10; evZ),(have zz:=@t11; evZ),(have zz:=@t12; evZ)⟩
 clear t0 t1 t2 t3 t4 t10 t11 t12 hpi hps hlim hlim1
 rintro T H1 n1 ⟨lim,M,hlim,hpi,hps,t0,t1,t2,t3,t4,t10,t11,t12⟩
 refine bw (fun T H'' nx''=>∃ (p:Nat) (hint:Int),a1 ≤ p∧p < e1∧PS H H'' nx nx'' b (M.map f)∧T 0=.msl b n 1 0 n∧T 1=.int .i64 (a1:Nat)∧T 2=.int .i64 (e1:Nat)∧T 3=.int .i64 (lim:Nat)∧T 4=.func g caps∧T 10=.bool wb∧T 11=.bool wp∧T 12=.int .i64 (l:Nat)∧T 13=.int .i64 (p:Nat)∧T 14=.int .i64 hint) ?_ ?_
 ·(have zz:=aI @t0 (aI @t1 (aI @t2 (aI @t3 (aI @t4 (aI @t10 (aI @t11 @t12)))))); repeat' (first|apply a_n|refine zO ?_|refine vZ ?_|fail)) <;> (try clear zz)
  refine aS ev0 (have zz:=aI @t0 (aI @t1 (aI @t2 (aI @t3 (aI @t4 (aI @t10 (aI @t11 @t12)))))); evZ) (u9 hc (b:=b) hps.at_ (hbn _ _ _ hps) (hlen _ hpi) (hGA _ hpi) (a:=a1) (e:=e1) (by omega) (by omega) hn2) ?_
  rintro _ _ _ ⟨rfl,p,hint,v,rfl,hp1,hp2,rfl⟩
  (have zz:=aI @t0 (aI @t1 (aI @t2 (aI @t3 (aI @t4 (aI @t10 (aI @t11 @t12)))))); repeat' (first|apply a_n|refine zO ?_|refine vZ ?_|fail)) <;> (try clear zz)
  exact ⟨p,hint,hp1,hp2,hps.new hbx,(have zz:=@t0; evZ),(have zz:=@t1; evZ),(have zz:=@t2; evZ),(have zz:=@t3; evZ),(have zz:=@t4; evZ),(have zz:=@t10; evZ),(have zz:=@t11; evZ),(have zz:=@t12; evZ),ev0,ev0⟩
 clear t0 t1 t2 t3 t4 t10 t11 t12 hps
 rintro T H1 n1 ⟨p,hint,hp1,hp2,hps,t0,t1,t2,t3,t4,t10,t11,t12,t13,t14⟩
 refine bw (fun T H'' nx''=>∃ (p:Nat) (hint:Int) (M:List α),a1 ≤ p∧p < e1∧PI K a e L a1 e1 M∧PS H H'' nx nx'' b (M.map f)∧T 0=.msl b n 1 0 n∧T 1=.int .i64 (a1:Nat)∧T 2=.int .i64 (e1:Nat)∧T 3=.int .i64 (lim:Nat)∧T 4=.func g caps∧T 10=.bool wb∧T 11=.bool wp∧T 12=.int .i64 (l:Nat)∧T 13=.int .i64 (p:Nat)∧T 14=.int .i64 hint) ?_ ?_
 ·by_cases h2:hint=2
  ·subst h2
   obtain ⟨p2,hp3⟩:∃ p2,e1 - 1 - (p - a1)=p2:=⟨_,rfl⟩
   have tp:(e1:Int) - 1 - ((p:Int) - (a1:Int))=(p2:Int):=by omega
   have tz:decide ((2:Int)=2)=true:=rfl
   (have zz:=aI @t0 (aI @t1 (aI @t2 (aI @t3 (aI @t4 (aI @t10 (aI @t11 (aI @t12 (aI @t13 (aI @t14 @tz))))))))); repeat' (first|refine zW ?_|apply a_n|refine zO ?_|refine vZ ?_|(refine zGZ ?_ ?_ <;> (intro _hg; try (exfalso; omega)))|fail)) <;> (try clear zz)
   refine aS ev0 (have zz:=aI @t0 (aI @t1 (aI @t2 (aI @t3 (aI @t4 (aI @t10 (aI @t11 @t12)))))); evZ) (zd hc (b:=b) hps.at_ (hlen _ hpi) (a:=a1) (e:=e1) (by omega) (by omega) hn2) ?_
   rintro _ _ _ ⟨rfl,N,rfl,hpN⟩
   (have zz:=aI @t0 (aI @t1 (aI @t2 (aI @t3 (aI @t4 (aI @t10 (aI @t11 (aI @t12 (aI @t13 (aI @t14 @tp))))))))); repeat' (first|refine zW ?_|apply a_n|refine zO ?_|refine vZ ?_|fail)) <;> (try clear zz)
   exact ⟨p2,1,N,by omega,by omega,hpi.swap hpN,hps.upd,(have zz:=@t0; evZ),(have zz:=@t1; evZ),(have zz:=@t2; evZ),(have zz:=@t3; evZ),(have zz:=@t4; evZ),(have zz:=@t10; evZ),(have zz:=@t11; evZ),(have zz:=@t12; evZ),ev0,ev0⟩
  ·have tz:decide (hint=2)=false:=decide_eq_false h2
   (have zz:=aI @t0 (aI @t1 (aI @t2 (aI @t3 (aI @t4 (aI @t10 (aI @t11 (aI @t12 (aI @t13 (aI @t14 @tz))))))))); repeat' (first|refine zW ?_|apply a_n|refine zO ?_|refine vZ ?_|refine cFZ ?_|fail)) <;> (try clear zz)
   exact ⟨p,hint,M,hp1,hp2,hpi,hps,(have zz:=@t0; evZ),(have zz:=@t1; evZ),(have zz:=@t2; evZ),(have zz:=@t3; evZ),(have zz:=@t4; evZ),(have zz:=@t10; evZ),(have zz:=@t11; evZ),(have zz:=@t12; evZ),(have zz:=@t13; evZ),(have zz:=@t14; evZ)⟩
 clear t0 t1 t2 t3 t4 t10 t11 t12 t13 t14 hps hpi hp1 hp2
 rintro T H1 n1 ⟨p,hint,M,hp1,hp2,hpi,hps,t0,t1,t2,t3,t4,t10,t11,t12,t13,t14⟩
 refine bw (fun T H'' nx''=>∃ (M:List α),PI K a e L a1 e1 M∧PS H H'' nx nx'' b (M.map f)∧T 0=.msl b n 1 0 n∧T 1=.int .i64 (a1:Nat)∧T 2=.int .i64 (e1:Nat)∧T 3=.int .i64 (lim:Nat)∧T 4=.func g caps∧T 10=.bool wb∧T 11=.bool wp∧T 12=.int .i64 (l:Nat)∧T 13=.int .i64 (p:Nat)) ?_ ?_
 ·cases wb
  ·cases wp
   ·(have zz:=aI @t0 (aI @t1 (aI @t2 (aI @t3 (aI @t4 (aI @t10 (aI @t11 (aI @t12 (aI @t13 @t14)))))))); repeat' (first|refine zW ?_|apply a_n|refine zO ?_|refine vZ ?_|refine gFZ ?_|refine cFZ ?_|fail)) <;> (try clear zz)
    exact ⟨M,hpi,hps,(have zz:=@t0; evZ),(have zz:=@t1; evZ),(have zz:=@t2; evZ),(have zz:=@t3; evZ),(have zz:=@t4; evZ),(have zz:=@t10; evZ),(have zz:=@t11; evZ),(have zz:=@t12; evZ),(have zz:=@t13; evZ)⟩
   ·(have zz:=aI @t0 (aI @t1 (aI @t2 (aI @t3 (aI @t4 (aI @t10 (aI @t11 (aI @t12 (aI @t13 @t14)))))))); repeat' (first|refine zW ?_|apply a_n|refine zO ?_|refine vZ ?_|refine gFZ ?_|refine cFZ ?_|fail)) <;> (try clear zz)
    exact ⟨M,hpi,hps,(have zz:=@t0; evZ),(have zz:=@t1; evZ),(have zz:=@t2; evZ),(have zz:=@t3; evZ),(have zz:=@t4; evZ),(have zz:=@t10; evZ),(have zz:=@t11; evZ),(have zz:=@t12; evZ),(have zz:=@t13; evZ)⟩
  ·cases wp
   ·(have zz:=aI @t0 (aI @t1 (aI @t2 (aI @t3 (aI @t4 (aI @t10 (aI @t11 (aI @t12 (aI @t13 @t14)))))))); repeat' (first|refine zW ?_|apply a_n|refine zO ?_|refine vZ ?_|refine gTZ ?_|refine gFZ ?_|refine cFZ ?_|fail)) <;> (try clear zz)
    exact ⟨M,hpi,hps,(have zz:=@t0; evZ),(have zz:=@t1; evZ),(have zz:=@t2; evZ),(have zz:=@t3; evZ),(have zz:=@t4; evZ),(have zz:=@t10; evZ),(have zz:=@t11; evZ),(have zz:=@t12; evZ),(have zz:=@t13; evZ)⟩
   ·by_cases h1:hint=1
    ·subst h1
     have tz:decide ((1:Int)=1)=true:=rfl
     (have zz:=aI @t0 (aI @t1 (aI @t2 (aI @t3 (aI @t4 (aI @t10 (aI @t11 (aI @t12 (aI @t13 (aI @t14 @tz))))))))); repeat' (first|refine zW ?_|apply a_n|refine zO ?_|refine vZ ?_|refine gTZ ?_|(refine zGZ ?_ ?_ <;> (intro _hg; try (exfalso; omega)))|fail)) <;> (try clear zz)
     refine aS ev0 (have zz:=aI @t0 (aI @t1 (aI @t2 (aI @t3 (aI @t4 (aI @t10 (aI @t11 @t12)))))); evZ) (ur hc (b:=b) hps.at_ (hlen _ hpi) (hGA _ hpi) (a:=a1) (e:=e1) (by omega) (by omega) hn2 hpi.low) ?_
     rintro _ _ _ ⟨rfl,N,t,rfl,rfl,hpN,hsN⟩
     cases t
     ·(have zz:=aI @t0 (aI @t1 (aI @t2 (aI @t3 (aI @t4 (aI @t10 (aI @t11 (aI @t12 (aI @t13 @t14)))))))); repeat' (first|apply a_n|refine zO ?_|refine cFZ ?_|fail)) <;> (try clear zz)
      exact ⟨N,hpi.swap hpN,hps.upd,(have zz:=@t0; evZ),(have zz:=@t1; evZ),(have zz:=@t2; evZ),(have zz:=@t3; evZ),(have zz:=@t4; evZ),(have zz:=@t10; evZ),(have zz:=@t11; evZ),(have zz:=@t12; evZ),(have zz:=@t13; evZ)⟩
     ·(have zz:=aI @t0 (aI @t1 (aI @t2 (aI @t3 (aI @t4 (aI @t10 (aI @t11 (aI @t12 (aI @t13 @t14)))))))); repeat' (first|apply a_n|apply a_r|refine zO ?_|refine cTZ ?_|refine ak rfl ?_|fail)) <;> (try clear zz)
      exact ⟨N,hps.upd,hpi.done hpN (hsN rfl)⟩
    ·have tz:decide (hint=1)=false:=decide_eq_false h1
     (have zz:=aI @t0 (aI @t1 (aI @t2 (aI @t3 (aI @t4 (aI @t10 (aI @t11 (aI @t12 (aI @t13 (aI @t14 @tz))))))))); repeat' (first|refine zW ?_|apply a_n|refine zO ?_|refine vZ ?_|refine gTZ ?_|refine cFZ ?_|fail)) <;> (try clear zz)
     exact ⟨M,hpi,hps,(have zz:=@t0; evZ),(have zz:=@t1; evZ),(have zz:=@t2; evZ),(have zz:=@t3; evZ),(have zz:=@t4; evZ),(have zz:=@t10; evZ),(have zz:=@t11; evZ),(have zz:=@t12; evZ),(have zz:=@t13; evZ)⟩
 clear t0 t1 t2 t3 t4 t10 t11 t12 t13 t14 hps hpi hint
 rintro T H1 n1 ⟨M,hpi,hps,t0,t1,t2,t3,t4,t10,t11,t12,t13⟩
 have hbb:=hps.at_
 have hl:=hlen _ hpi
 have hGM:=hGA _ hpi
 refine bw (fun T H'' nx''=>T 0=.msl b n 1 0 n∧T 1=.int .i64 (a1:Nat)∧T 2=.int .i64 (e1:Nat)∧T 3=.int .i64 (lim:Nat)∧T 4=.func g caps∧T 10=.bool wb∧T 11=.bool wp∧T 12=.int .i64 (l:Nat)∧T 13=.int .i64 (p:Nat)∧H1=H''∧n1=nx'') ?_ ?_
 ·by_cases ha0:a1=0
  ·have tz:decide ((0:Int) < (a1:Int))=false:=decide_eq_false (by omega)
   (have zz:=aI @t0 (aI @t1 (aI @t2 (aI @t3 (aI @t4 (aI @t10 (aI @t11 (aI @t12 (aI @t13 @tz)))))))); repeat' (first|refine zW ?_|refine zM ?_|apply a_n|refine zO ?_|refine vZ ?_|refine gFZ ?_|refine cFZ ?_|fail)) <;> (try clear zz)
   exact ⟨(have zz:=@t0; evZ),(have zz:=@t1; evZ),(have zz:=@t2; evZ),(have zz:=@t3; evZ),(have zz:=@t4; evZ),(have zz:=@t10; evZ),(have zz:=@t11; evZ),(have zz:=@t12; evZ),(have zz:=@t13; evZ),rfl,rfl⟩
  have tz:decide ((0:Int) < (a1:Int))=true:=decide_eq_true (by omega)
  obtain ⟨k,hk⟩:∃ k,a1 - 1=k:=⟨_,rfl⟩
  have tk:(a1:Int) - 1=(k:Int):=by omega
  have lc:=hc.run (M.getD k default) (M.getD p default) (hGM _ (aV (by omega))) (hGM _ (aV (by omega)))
  have d1:=hc.dat (M.getD k default)
  have d2:=hc.dat (M.getD p default)
  generalize hKK:K (M.getD k default) (M.getD p default)=kk at lc
  by_cases hlt:kk < 0
  ·(have zz:=aI @t0 (aI @t1 (aI @t2 (aI @t3 (aI @t4 (aI @t10 (aI @t11 (aI @t12 (aI @t13 (aI @tz (aI @tk (aI @hbb (aI @Int.toNat_natCast (aI hc.cells hc.one))))))))))))); repeat' (first|refine zW ?_|refine zM ?_|apply a_n|refine zO ?_|refine vZ ?_|refine cZ ?_ (hp:=lc) (hs:=by (first | refine ac ?_ rfl | apply ae); (repeat' (first | exact aa | apply ao | apply af | exact d1 | exact d2 | exact aQ dcap)); first | done | fail)|refine gTZ ?_|(refine zGZ ?_ ?_ <;> (intro _hg; try (exfalso; omega)))|fail)) <;> (try clear zz)
   exact ⟨(have zz:=@t0; evZ),(have zz:=@t1; evZ),(have zz:=@t2; evZ),(have zz:=@t3; evZ),(have zz:=@t4; evZ),(have zz:=@t10; evZ),(have zz:=@t11; evZ),(have zz:=@t12; evZ),(have zz:=@t13; evZ),rfl,rfl⟩
  ·(have zz:=aI @t0 (aI @t1 (aI @t2 (aI @t3 (aI @t4 (aI @t10 (aI @t11 (aI @t12 (aI @t13 (aI @tz (aI @tk (aI @hbb (aI @Int.toNat_natCast (aI hc.cells hc.one))))))))))))); repeat' (first|refine zW ?_|refine zM ?_|apply a_n|refine zO ?_|refine vZ ?_|refine cZ ?_ (hp:=lc) (hs:=by (first | refine ac ?_ rfl | apply ae); (repeat' (first | exact aa | apply ao | apply af | exact d1 | exact d2 | exact aQ dcap)); first | done | fail)|refine gTZ ?_|(refine zGZ ?_ ?_ <;> (intro _hg; try (exfalso; omega)))|fail)) <;> (try clear zz)
   refine aS ev0 (have zz:=aI @t0 (aI @t1 (aI @t2 (aI @t3 (aI @t4 (aI @t10 (aI @t11 (aI @t12 @t13))))))); evZ) (v7 hc (b:=b) hps.at_ (hlen _ hpi) (hGA _ hpi) (a:=a1) (e:=e1) (pv:=p) (by omega) (by omega) hn2 ⟨hp1,hp2⟩) ?_
   rintro _ _ _ ⟨rfl,N,m,rfl,hm1,hm2,rfl,hpN,q1,q2⟩
   (have zz:=aI @t0 (aI @t1 (aI @t2 (aI @t3 (aI @t4 (aI @t10 (aI @t11 (aI @t12 @t13))))))); repeat' (first|refine zW ?_|apply a_n|apply a_x|refine zO ?_|refine vZ ?_|fail)) <;> (try clear zz)
   exact ⟨(m,e1,lim,wb,wp,N),by dsimp only; omega,⟨hpi.equal hc.ord hpN (by rw [hk,hKK]; exact hlt) (by omega) ⟨hm1,hm2⟩ q1 q2,hps.upd,hlim⟩,(have zz:=aI @t0 (aI @t1 (aI @t2 (aI @t3 (aI @t4 (aI @t10 (aI @t11 @t12)))))); agZ)⟩
 clear t0 t1 t2 t3 t4 t10 t11 t12 t13
 rintro T _ _ ⟨t0,t1,t2,t3,t4,t10,t11,t12,t13,rfl,rfl⟩
 refine bw (fun T H'' nx''=>∃ (M:List α) (m:Nat) (t:Bool),PI K a e L a1 e1 M∧TwoS K a1 e1 m M∧PS H H'' nx nx'' b (M.map f)∧T 0=.msl b n 1 0 n∧T 1=.int .i64 (a1:Nat)∧T 2=.int .i64 (e1:Nat)∧T 3=.int .i64 (lim:Nat)∧T 4=.func g caps∧T 10=.bool wb∧T 11=.bool wp∧T 12=.int .i64 (l:Nat)∧T 16=.int .i64 (m:Nat)∧T 17=.bool t) ?_ ?_
 ·(have zz:=aI @t0 (aI @t1 (aI @t2 (aI @t3 (aI @t4 (aI @t10 (aI @t11 (aI @t12 @t13))))))); repeat' (first|apply a_n|refine zO ?_|refine vZ ?_|fail)) <;> (try clear zz)
  refine aS ev0 (have zz:=aI @t0 (aI @t1 (aI @t2 (aI @t3 (aI @t4 (aI @t10 (aI @t11 (aI @t12 @t13))))))); evZ) (yB hc (b:=b) hps.at_ (hlen _ hpi) (hGA _ hpi) (a:=a1) (e:=e1) (pv:=p) (by omega) (by omega) hn2 ⟨hp1,hp2⟩) ?_
  rintro _ _ _ ⟨rfl,N,m,t,rfl,hm1,hm2,rfl,hpN,q1,q2⟩
  (have zz:=aI @t0 (aI @t1 (aI @t2 (aI @t3 (aI @t4 (aI @t10 (aI @t11 (aI @t12 @t13))))))); repeat' (first|apply a_n|refine zO ?_|refine vZ ?_|fail)) <;> (try clear zz)
  exact ⟨N,m,t,hpi.swap hpN,⟨⟨hm1,hm2⟩,fun p k1 k2=>hc.ord.asym _ _ (q1 p k1 k2),q2⟩,hps.upd,(have zz:=@t0; evZ),(have zz:=@t1; evZ),(have zz:=@t2; evZ),(have zz:=@t3; evZ),(have zz:=@t4; evZ),(have zz:=@t10; evZ),(have zz:=@t11; evZ),(have zz:=@t12; evZ),ev0,ev0⟩
 clear t0 t1 t2 t3 t4 t10 t11 t12 t13 hbb hl hGM hpi hps hp1 hp2 p
 rintro T H1 n1 ⟨M,m,t,hpi,hts,hps,t0,t1,t2,t3,t4,t10,t11,t12,t16,t17⟩
 have hm:=hts.mid
 have hl:=hlen _ hpi
 have tq:aY .quo false false (.int .i64 (l:Int)) (.int .i64 8)=some (.int .i64 ((l / 8:Nat):Int)):=by
  rw [lz (by omega) (by omega) (by omega)]
  congr 2
 have tm:(m:Int) + 1=((m + 1:Nat):Int):=by omega
 by_cases hlr:(m:Int) - (a1:Int) < (e1:Int) - (m:Int)
 ·have tz:decide ((m:Int) - (a1:Int) < (e1:Int) - (m:Int))=true:=decide_eq_true hlr
  (have zz:=aI @t0 (aI @t1 (aI @t2 (aI @t3 (aI @t4 (aI @t10 (aI @t11 (aI @t12 (aI @t16 (aI @t17 (aI @tq @tz)))))))))); repeat' (first|refine zW ?_|apply a_n|refine zO ?_|refine vZ ?_|refine cTZ ?_|fail)) <;> (try clear zz)
  refine aS ev0 (have zz:=aI @t0 (aI @t1 (aI @t2 (aI @t3 (aI @t4 (aI @t10 (aI @t11 (aI @t12 (aI @t16 @t17)))))))); evZ) (ih a1 m lim M H1 n1 (by omega) hps.at_ (hbn _ _ _ hps) hl (hGA _ hpi) (by omega) (by omega) hlim (hpi.low.sub rfl (by omega))) ?_
  rintro _ H2 n2 ⟨N,hps2,hpN,hsN⟩
  (have zz:=aI @t0 (aI @t1 (aI @t2 (aI @t3 (aI @t4 (aI @t10 (aI @t11 (aI @t12 (aI @t16 (aI @t17 @tm))))))))); repeat' (first|apply a_n|refine zO ?_|refine vZ ?_|fail)) <;> (try clear zz)
  exact ⟨(m + 1,e1,lim,decide (((l / 8:Nat):Int) ≤ (m:Int) - (a1:Int)),t,N),by dsimp only; omega,⟨hpi.left hc.ord hts hpN hsN,hps.rec_ hps2.at_ hps2.fr hps2.le,hlim⟩,(have zz:=aI @t0 (aI @t1 (aI @t2 (aI @t3 (aI @t4 (aI @t10 (aI @t11 (aI @t12 (aI @t16 @t17)))))))); agZ)⟩
 ·have tz:decide ((m:Int) - (a1:Int) < (e1:Int) - (m:Int))=false:=decide_eq_false hlr
  (have zz:=aI @t0 (aI @t1 (aI @t2 (aI @t3 (aI @t4 (aI @t10 (aI @t11 (aI @t12 (aI @t16 (aI @t17 (aI @tq (aI @tz @tm))))))))))); repeat' (first|refine zW ?_|apply a_n|refine zO ?_|refine vZ ?_|refine cFZ ?_|fail)) <;> (try clear zz)
  refine aS ev0 (have zz:=aI @t0 (aI @t1 (aI @t2 (aI @t3 (aI @t4 (aI @t10 (aI @t11 (aI @t12 (aI @t16 @t17)))))))); evZ) (ih (m + 1) e1 lim M H1 n1 (by omega) hps.at_ (hbn _ _ _ hps) hl (hGA _ hpi) (by omega) (by omega) hlim (fun q k0 k1 k2=>by rw [Nat.add_sub_cancel]; exact hts.ge q k1 k2)) ?_
  rintro _ H2 n2 ⟨N,hps2,hpN,hsN⟩
  (have zz:=aI @t0 (aI @t1 (aI @t2 (aI @t3 (aI @t4 (aI @t10 (aI @t11 (aI @t12 (aI @t16 @t17)))))))); repeat' (first|apply a_n|refine zO ?_|refine vZ ?_|fail)) <;> (try clear zz)
  exact ⟨(a1,m,lim,decide (((l / 8:Nat):Int) ≤ (e1:Int) - (m:Int)),t,N),by dsimp only; omega,⟨hpi.right hc.ord hts hpN hsN,hps.rec_ hps2.at_ hps2.fr hps2.le,hlim⟩,(have zz:=aI @t0 (aI @t1 (aI @t2 (aI @t3 (aI @t4 (aI @t10 (aI @t11 (aI @t12 (aI @t16 @t17)))))))); agZ)⟩
end
end Go.Proofs.Ytfcenbapjhecfaa
namespace Go.Proofs.Ytfcenbapjhecfaa
open Go Go.Abs
open Nat (reduceEqDiff reduceAdd reduceLeDiff)
section
variable {α:Type} [Inhabited α] {f:α→AV} {K:α→α→Int} {G:α→Prop} {g:Nat} {caps:List AV}
attribute [local irreducible] aC ah aU aO aH aJ az aK aP bb Go.Abs.Fn aM Go.Abs.Pure ar aD Yl
set_option maxRecDepth 100000 in
theorem wD {H:Hp} {nx:Nat}:Abs.Fn Try.prog 107 [.int .u64 0] H nx fun r H' nx'=>nx'=nx∧H'=H∧r=.int .i64 0:=by
 refine Abs.Fn.of_c2 follows xB (Nat.le_of_ble_eq_true rfl) ?_
 delta yr cO cG cN cM cD cF cB aF aW
 generalize hT:AV.str (ByteArray.mk (Array.mk [0,1,2,2,3,3,3,3,4,4,4,4,4,4,4,4,5,5,5,5,5,5,5,5,5,5,5,5,5,5,5,5,6,6,6,6,6,6,6,6,6,6,6,6,6,6,6,6,6,6,6,6,6,6,6,6,6,6,6,6,6,6,6,6,7,7,7,7,7,7,7,7,7,7,7,7,7,7,7,7,7,7,7,7,7,7,7,7,7,7,7,7,7,7,7,7,7,7,7,7,7,7,7,7,7,7,7,7,7,7,7,7,7,7,7,7,7,7,7,7,7,7,7,7,7,7,7,7,8,8,8,8,8,8,8,8,8,8,8,8,8,8,8,8,8,8,8,8,8,8,8,8,8,8,8,8,8,8,8,8,8,8,8,8,8,8,8,8,8,8,8,8,8,8,8,8,8,8,8,8,8,8,8,8,8,8,8,8,8,8,8,8,8,8,8,8,8,8,8,8,8,8,8,8,8,8,8,8,8,8,8,8,8,8,8,8,8,8,8,8,8,8,8,8,8,8,8,8,8,8,8,8,8,8,8,8,8,8,8,8,8,8,8,8,8,8,8,8,8,8,8,8,8,8,8,8]))=tb
 have ht:iu tb (.int .u8 0)=some (.int .u8 0):=by rw [← hT]; exact qM (x:=0) (by decide)
 clear hT
 have w8:IntKind.wrap .u8 0=0:=by decide
 (have zz:=aI @w8 @ht; repeat' (first|refine zW ?_|apply a_n|refine zO ?_|refine vZ ?_|(refine zGZ ?_ ?_ <;> (intro _hg; try (exfalso; omega)))|refine ak rfl ?_|refine r1Z ?_|fail)) <;> (try clear zz)
 exact ⟨rfl,rfl,by congr 1⟩
theorem yS {H:Hp} {nx:Nat}:Abs.Fn Try.prog 90 [.int .u64 0] H nx fun r H' nx'=>nx'=nx∧H'=H∧r=.int .i64 0:=by
 refine Abs.Fn.of_c2 follows zQ (Nat.le_of_ble_eq_true rfl) ?_
 simp only [b90,cO,cG,cN,cM,cD,cF,cB,aF,aW]
 (have zz:=and_self; repeat' (first|refine zW ?_|apply a_n|refine zO ?_|refine vZ ?_|refine cFZ ?_|fail)) <;> (try clear zz)
 refine aS ev0 ev0 wD ?_
 rintro _ _ _ ⟨rfl,rfl,rfl⟩
 (have zz:=and_self; repeat' (first|apply a_n|refine zO ?_|refine vZ ?_|refine ak rfl ?_|refine r1Z ?_|fail)) <;> (try clear zz)
 exact ⟨rfl,rfl,rfl⟩
theorem ss (hc:Cmp Try.prog f K G g caps) {L:List α} {H:Hp} {b nx n:Nat} (hH:H b=some (L.map f)) (hbx:b < nx) (hn:L.length=n) (hn0:0 < n) (hG:∀ x ∈ L,G x) (hn2:n ≤ 1000000000) :
    Abs.Fn Try.prog 73 [.msl b n 1 0 n,.func g caps] H nx fun r H' nx'=>∃ L',PS H H' nx nx' b (L'.map f)∧L'.Perm L∧aZ K 0 n L':=by
 refine Abs.Fn.of_c2 follows zl (Nat.le_of_ble_eq_true rfl) ?_
 simp only [b73,cO,cG,cN,cM,cD,cF,cB,aF,aW]
 have w:IntKind.wrap .u64 (n:Int)=n:=eW (by omega) (by omega)
 (have zz:=@w; repeat' (first|refine zW ?_|apply a_n|refine zO ?_|refine vZ ?_|fail)) <;> (try clear zz)
 refine aS ev0 (have zz:=@w; evZ) (xH hn0 (by omega)) ?_
 rintro _ _ _ ⟨rfl,rfl,k,rfl,h3,h4⟩
 have hk:k ≤ 62:=by
  rcases Nat.lt_or_ge 62 k with h | h
  ·have:=Nat.pow_le_pow_right (n:=2) (by omega) h
   omega
  ·exact h
 (have zz:=and_self; repeat' (first|apply a_n|refine zO ?_|refine vZ ?_|fail)) <;> (try clear zz)
 refine aS ev0 (have zz:=@Int.natCast_zero; evZ) (zZ hc hn2 (n + 1) 0 n k L _ _ (by omega) hH hbx hn hG (by omega) (Nat.le_refl _) (by omega) (fun q h=>by omega)) ?_
 rintro _ _ _ ⟨N,hps,hp,hs⟩
 (have zz:=and_self; repeat' (first|apply a_n|refine zO ?_|refine ak rfl ?_|fail)) <;> (try clear zz)
 exact ⟨N,hps,hp.perm,hs⟩
end
end Go.Proofs.Ytfcenbapjhecfaa
namespace Go.Proofs.Ytfcenbapjhecfaa
open Go Go.Abs
def _root_.List.c2 {α:Type} (l:List α) (f:α→AV):List AV:=l.flatMap fun x=>(f x).cells
structure Cmp2 {α:Type} (P:Program) (f:α→AV) (K:α→α→Int) (G:α→Prop) (g:Nat) (caps:List AV):Prop where
 len:∀ x,(f x).cells.length=2
 agg:∀ x,AV.agg (f x).cells=f x
 ones:∀ x,AV.ones (f x).cells=true
 dat:∀ x,Dat (f x)
 dcaps:∀ x ∈ caps,Dat x
 run:∀ x y,G x→G y→Go.Abs.Pure P g (f x :: f y :: caps) (.int .i64 (K x y))
 ord:Ord K
section
variable {α:Type} {f:α→AV} (h:∀ x,(f x).cells.length=2)
include h
end
section
variable {α:Type} [Inhabited α] {f:α→AV} {K:α→α→Int} {G:α→Prop} {g:Nat} {caps:List AV}
attribute [local irreducible] aC ah aU aO aH aJ az aK aP bb Go.Abs.Fn aM Go.Abs.Pure ar aD Yl
end
end Go.Proofs.Ytfcenbapjhecfaa
namespace Go.Proofs.Ytfcenbapjhecfaa
open Go Go.Abs
section
variable {α:Type} [Inhabited α] {f:α→AV} {K:α→α→Int} {G:α→Prop} {g:Nat} {caps:List AV}
attribute [local irreducible] aC ah aU aO aH aJ az aK aP bb Go.Abs.Fn aM Go.Abs.Pure ar aD Yl
end
end Go.Proofs.Ytfcenbapjhecfaa
namespace Go.Proofs.Ytfcenbapjhecfaa
open Go Go.Abs
section
variable {α:Type} [Inhabited α] {f:α→AV} {K:α→α→Int} {G:α→Prop} {g:Nat} {caps:List AV}
attribute [local irreducible] aC ah aU aO aH aJ az aK aP bb Go.Abs.Fn aM Go.Abs.Pure ar aD Yl
end
end Go.Proofs.Ytfcenbapjhecfaa
namespace Go.Proofs.Ytfcenbapjhecfaa
open Go Go.Abs
section
variable {α:Type} [Inhabited α] {f:α→AV} {K:α→α→Int} {G:α→Prop} {g:Nat} {caps:List AV}
attribute [local irreducible] aC ah aU aO aH aJ az aK aP bb Go.Abs.Fn aM Go.Abs.Pure ar aD Yl
end
end Go.Proofs.Ytfcenbapjhecfaa
namespace Go.Proofs.Ytfcenbapjhecfaa
open Go Go.Abs
section
variable {α:Type} [Inhabited α] {f:α→AV} {K:α→α→Int} {G:α→Prop} {g:Nat} {caps:List AV}
attribute [local irreducible] aC ah aU aO aH aJ az aK aP bb Go.Abs.Fn aM Go.Abs.Pure ar aD Yl
end
end Go.Proofs.Ytfcenbapjhecfaa
namespace Go.Proofs.Ytfcenbapjhecfaa
open Go Go.Abs
section
variable {α:Type} [Inhabited α] {f:α→AV} {K:α→α→Int} {G:α→Prop} {g:Nat} {caps:List AV}
attribute [local irreducible] aC ah aU aO aH aJ az aK aP bb Go.Abs.Fn aM Go.Abs.Pure ar aD Yl
end
end Go.Proofs.Ytfcenbapjhecfaa
namespace Go.Proofs.Ytfcenbapjhecfaa
open Go Go.Abs
section
variable {α:Type} [Inhabited α] {f:α→AV} {K:α→α→Int} {G:α→Prop} {g:Nat} {caps:List AV}
attribute [local irreducible] aC ah aU aO aH aJ az aK aP bb Go.Abs.Fn aM Go.Abs.Pure ar aD Yl
end
end Go.Proofs.Ytfcenbapjhecfaa
namespace Go.Proofs.Ytfcenbapjhecfaa
open Go Go.Abs
section
variable {α:Type} [Inhabited α] {f:α→AV} {K:α→α→Int} {G:α→Prop} {g:Nat} {caps:List AV}
attribute [local irreducible] aC ah aU aO aH aJ az aK aP bb Go.Abs.Fn aM Go.Abs.Pure ar aD Yl
end
end Go.Proofs.Ytfcenbapjhecfaa
namespace Go.Proofs.Ytfcenbapjhecfaa
open Go Go.Abs
section
variable {α:Type} [Inhabited α] {f:α→AV} {K:α→α→Int} {G:α→Prop} {g:Nat} {caps:List AV}
attribute [local irreducible] aC ah aU aO aH aJ az aK aP bb Go.Abs.Fn aM Go.Abs.Pure ar aD Yl
end
end Go.Proofs.Ytfcenbapjhecfaa
namespace Go.Proofs.Ytfcenbapjhecfaa
open Go Go.Abs
section
variable {α:Type} [Inhabited α] {f:α→AV} {K:α→α→Int} {G:α→Prop} {g:Nat} {caps:List AV}
attribute [local irreducible] aC ah aU aO aH aJ az aK aP bb Go.Abs.Fn aM Go.Abs.Pure ar aD Yl
end
end Go.Proofs.Ytfcenbapjhecfaa
namespace Go.Proofs.Ytfcenbapjhecfaa
open Go Go.Abs
theorem ry {B n len k:Nat} (h:k ≤ len) (hn:n ≠ 0):ip 2 (.msl B n 2 0 len) none (some (.int .i64 k)) none=some (.msl B n 2 0 k):=by
 simp only [ip,ba,Int.natCast_nonneg,if_true,Int.toNat_natCast]
 rw [if_pos ⟨trivial,by omega,h,hn⟩,if_pos (.inl trivial),Nat.zero_mul,Nat.sub_zero]
theorem s7 {H:Hp} {B:Nat} {cs:List AV} (hH:H B=some cs):H=aq H B cs:=by
 funext b
 by_cases e:b=B
 ·subst e; rw [ai]; exact hH
 ·rw [ag e]
attribute [local irreducible] aC ah aU aO aH aJ az aK aP bb Go.Abs.Fn aM Go.Abs.Pure ar aD Yl
end Go.Proofs.Ytfcenbapjhecfaa
namespace Go.Proofs.Ytfcenbapjhecfaa
open Go Go.Abs
theorem xS (a b:Vtx):jo (.st [.int,.int]) (bO a) (bO b)=some (decide (a=b)):=by
 show bL [.int,.int] [.int .i64 a.color,.int .i64 a.label] [.int .i64 b.color,.int .i64 b.label]=_
 rw [wi,sX]
theorem uI (v:Vtx) (ks:List Vtx):bE (.st [.int,.int]) (bO v) (ks.map bO)=some (if v ∈ ks then some (ks.idxOf v) else none):=jO _ bO xS v ks
theorem u6 (v:Vtx):eB (.st [.int,.int]) (bO v)=true:=rfl
def gX (l:List Spx) (i:Nat) (v:Vtx):List Nat:=(List.range i).filter fun k=>decide (v ∈ l.getD k default)
def jc (l:List Spx) (i j:Nat) (v:Vtx):List Nat:=gX l i v ++ if v ∈ (l.getD i default).take j then [i] else []
theorem s5 {l:List Spx} {i:Nat} {v:Vtx}:gX l (i + 1) v=jc l i (l.getD i default).length v:=by
 unfold gX jc
 rw [List.range_succ,List.filter_append,List.take_length]
 congr 1
 by_cases h:v ∈ l.getD i default
 ·rw [if_pos h]; simp only [List.filter,h,decide_true]
 ·rw [if_neg h]; simp only [List.filter,h,decide_false]
theorem tL {l:List Spx} {i:Nat} {v:Vtx}:jc l i 0 v=gX l i v:=by unfold jc; simp
theorem ut {l:List Spx} {i j:Nat} {v:Vtx} (hj:j < (l.getD i default).length) (ha:bg bt (l.getD i default)):jc l i (j + 1) v=if v=(l.getD i default).getD j default then jc l i j v ++ [i] else jc l i j v:=by
 unfold jc
 generalize l.getD i default=s at *
 rw [cR hj]
 by_cases h:v=s.getD j default
 ·have hn:v ∉ s.take j:=fun hm=>by
    obtain ⟨k,hk,e⟩:=List.getElem_of_mem hm
    rw [List.length_take] at hk
    rw [List.getElem_take] at e
    have:=c9 ha (i:=k) (j:=j) (by omega) hj
    rw [← h,← e] at this
    have e2:s.getD k default=s[k]:=by simp [List.getD,show k < s.length by omega]
    rw [e2] at this
    exact xg.ord.irr _ this
  rw [if_pos h,if_neg hn,if_pos (by rw [List.mem_append,h]; simp)]
  simp
 ·rw [if_neg h]
  congr 1
  have e:v ∈ s.take j ++ [s.getD j default] ↔ v ∈ s.take j:=by rw [List.mem_append,List.mem_singleton]; exact ⟨fun h'=>h'.resolve_right h,.inl⟩
  by_cases h2:v ∈ s.take j
  ·rw [if_pos (e.2 h2),if_pos h2]
  ·rw [if_neg (fun h=>h2 (e.1 h)),if_neg h2]
def rq (i:Nat):AV:=.int .i64 (i:Int)
structure IncOk (H:Hp) (b lo hi:Nat) (F:Vtx→List Nat) (ks:List Vtx) (vs:List AV):Prop where
 box:H b=some [.omap (ks.map bO) vs]
 len:vs.length=ks.length
 nodup:ks.Nodup
 dom:∀ v,v ∈ ks ↔ F v ≠ []
 row:∀ j,j < ks.length→Row H 1 (vs.getD j .undef) ((F (ks.getD j default)).map rq)
 bnd:∀ j B,j < ks.length→cH (vs.getD j .undef)=some B→lo ≤ B∧B < hi∧B ≠ b
 apart:∀ i j B,i < ks.length→j < ks.length→i ≠ j→cH (vs.getD i .undef)=some B→cH (vs.getD j .undef) ≠ some B
 lt:b < hi
theorem kp {l:List AV} {i j:Nat} {x:AV} (h:i < l.length):(l.set i x).getD j .undef=if i=j then x else l.getD j .undef:=by
 simp only [List.getD,List.getElem?_set]
 split
 ·rename_i e; subst e; simp [h]
 ·rfl
theorem pY {α:Type} {l m:List α} {j:Nat} {d:α} (h:j < l.length):(l ++ m).getD j d=l.getD j d:=by
 simp [List.getD,List.getElem?_append_left h]
theorem oa {α:Type} {l:List α} {x d:α}:(l ++ [x]).getD l.length d=x:=by simp [List.getD]
theorem pp {l:List Vtx} {v:Vtx} (h:v ∈ l):l.idxOf v < l.length∧l.getD (l.idxOf v) default=v:=by
 have h1:=List.idxOf_lt_length_iff.2 h
 exact ⟨h1,by simp [List.getD,h1]⟩
theorem tU {l:List Vtx} (h:l.Nodup) {i j:Nat} (hi:i < l.length) (hj:j < l.length) (e:l.getD i default=l.getD j default):i=j:=by
 have hp:=List.pairwise_iff_getElem.1 (List.nodup_iff_pairwise_ne.1 h)
 rw [show l.getD i default=l[i] by simp [List.getD,hi],show l.getD j default=l[j] by simp [List.getD,hj]] at e
 rcases Nat.lt_trichotomy i j with c | c | c
 ·exact absurd e (hp i j hi hj c)
 ·exact c
 ·exact absurd e.symm (hp j i hj hi c)
theorem IncOk.same {H H':Hp} {b lo hi hi':Nat} {F:Vtx→List Nat} {ks:List Vtx} {vs:List AV} (h:IncOk H b lo hi F ks vs) (hb:H' b=H b) (hs:∀ x,lo ≤ x→x < hi→x ≠ b→H' x=H x) (hh:hi ≤ hi'):IncOk H' b lo hi' F ks vs :=
 ⟨hb.trans h.box,h.len,h.nodup,h.dom,fun j hj=>(h.row j hj).same fun B hB=>by have:=h.bnd j B hj hB; exact hs B this.1 this.2.1 this.2.2,fun j B hj hB=>by have:=h.bnd j B hj hB; exact ⟨this.1,by omega,this.2.2⟩,h.apart,by have:=h.lt; omega⟩
theorem IncOk.put {H H':Hp} {b lo hi hi' i:Nat} {F G:Vtx→List Nat} {ks:List Vtx} {vs:List AV} {w:Vtx} {sv:AV} (h:IncOk H b lo hi F ks vs) (hw:w ∈ ks) (hG:∀ v,G v=if v=w then F v ++ [i] else F v) (hrow:Row H' 1 sv ((F w ++ [i]).map rq)) (hB:∀ B,cH sv=some B→cH (vs.getD (ks.idxOf w) .undef)=some B ∨ hi ≤ B∧B < hi'∧B ≠ b) (hb:H' b=some [.omap (ks.map bO) (vs.set (ks.idxOf w) sv)])
    (hs:∀ x,lo ≤ x→x < hi→x ≠ b→cH (vs.getD (ks.idxOf w) .undef) ≠ some x→H' x=H x) (hh:hi ≤ hi') (hlo:lo ≤ hi):IncOk H' b lo hi' G ks (vs.set (ks.idxOf w) sv):=by
 obtain ⟨k1,k2⟩:=pp hw
 have hl:=h.len
 have hg:∀ j,(vs.set (ks.idxOf w) sv).getD j .undef=if ks.idxOf w=j then sv else vs.getD j .undef:=fun j=>kp (by omega)
 have hne:∀ j,j < ks.length→ks.idxOf w ≠ j→ks.getD j default ≠ w:=fun j hj hn e=>hn (tU h.nodup k1 hj (by rw [k2,e]))
 refine ⟨hb,by simp [hl],h.nodup,fun v=>?_,fun j hj=>?_,fun j B hj=>?_,fun p q B hp hq hpq=>?_,by have:=h.lt; omega⟩
 ·rw [hG,h.dom]
  by_cases e:v=w
  ·subst e
   rw [if_pos rfl]
   exact ⟨fun _=>by simp,fun _=>(h.dom v).1 hw⟩
  ·rw [if_neg e]
 ·rw [hg,hG]
  by_cases e:ks.idxOf w=j
  ·rw [if_pos e,if_pos (by rw [← e]; exact k2),← e,k2]; exact hrow
  ·rw [if_neg e,if_neg (hne j hj e)]
   exact (h.row j hj).same fun B hB'=>by
    have:=h.bnd j B hj hB'
    exact hs B this.1 this.2.1 this.2.2 fun h'=>h.apart (ks.idxOf w) j B k1 hj e h' hB'
 ·rw [hg]
  by_cases e:ks.idxOf w=j
  ·rw [if_pos e]
   intro hB'
   rcases hB B hB' with h' | h'
   ·have:=h.bnd _ B k1 h'; exact ⟨this.1,by omega,this.2.2⟩
   ·exact ⟨by omega,h'.2⟩
  ·rw [if_neg e]
   intro hB'
   have:=h.bnd j B hj hB'
   exact ⟨this.1,by omega,this.2.2⟩
 ·rw [hg,hg]
  by_cases e1:ks.idxOf w=p
  ·rw [if_pos e1,if_neg (by omega)]
   intro h1 h2
   rcases hB B h1 with h' | h'
   ·exact h.apart (ks.idxOf w) q B k1 hq (by omega) h' h2
   ·have:=h.bnd q B hq h2; omega
  ·rw [if_neg e1]
   by_cases e2:ks.idxOf w=q
   ·rw [if_pos e2]
    intro h1 h2
    rcases hB B h2 with h' | h'
    ·exact h.apart p (ks.idxOf w) B hp k1 (by omega) h1 h'
    ·have:=h.bnd p B hp h1; omega
   ·rw [if_neg e2]; exact h.apart p q B hp hq hpq
theorem IncOk.new {H H':Hp} {b lo hi hi' i:Nat} {F G:Vtx→List Nat} {ks:List Vtx} {vs:List AV} {w:Vtx} {sv:AV} (h:IncOk H b lo hi F ks vs) (hw:w ∉ ks) (hG:∀ v,G v=if v=w then F v ++ [i] else F v) (hrow:Row H' 1 sv ([i].map rq)) (hB:∀ B,cH sv=some B→hi ≤ B∧B < hi'∧B ≠ b) (hb:H' b=some [.omap ((ks ++ [w]).map bO) (vs ++ [sv])])
    (hs:∀ x,lo ≤ x→x < hi→x ≠ b→H' x=H x) (hh:hi ≤ hi') (hlo:lo ≤ hi):IncOk H' b lo hi' G (ks ++ [w]) (vs ++ [sv]):=by
 have hl:=h.len
 have hF:F w=[]:=by
  cases hf:F w with
  | nil=>rfl
  | cons a r=>exact absurd ((h.dom w).2 (by rw [hf]; simp)) hw
 have g1:∀ j,j < ks.length→(ks ++ [w]).getD j default=ks.getD j default∧(vs ++ [sv]).getD j .undef=vs.getD j .undef:=fun j hj=>⟨pY hj,pY (by omega)⟩
 have g2:(ks ++ [w]).getD ks.length default=w∧(vs ++ [sv]).getD ks.length .undef=sv:=⟨oa,by rw [← hl]; exact oa⟩
 refine ⟨hb,by simp [hl],?_,fun v=>?_,fun j hj=>?_,fun j B hj=>?_,fun p q B hp hq hpq=>?_,by have:=h.lt; omega⟩
 ·rw [List.nodup_append]
  exact ⟨h.nodup,by simp,fun a ha c hc e=>by rw [List.mem_singleton] at hc; exact hw (by rw [← hc,← e]; exact ha)⟩
 ·rw [hG,List.mem_append,List.mem_singleton]
  by_cases e:v=w
  ·subst e; rw [if_pos rfl]; simp
  ·rw [if_neg e,← h.dom]; simp [e]
 ·rw [List.length_append,List.length_singleton] at hj
  by_cases e:j=ks.length
  ·subst e
   rw [g2.1,g2.2,hG,if_pos rfl,hF]; exact hrow
  ·obtain ⟨e1,e2⟩:=g1 j (by omega)
   have hne:ks.getD j default ≠ w:=fun e'=>hw (e' ▸ aX (by omega))
   rw [e1,e2,hG,if_neg hne]
   exact (h.row j (by omega)).same fun B hB'=>by have:=h.bnd j B (by omega) hB'; exact hs B this.1 this.2.1 this.2.2
 ·rw [List.length_append,List.length_singleton] at hj
  by_cases e:j=ks.length
  ·subst e
   rw [g2.2]; intro hB'
   have:=hB B hB'; exact ⟨by omega,this.2⟩
  ·rw [(g1 j (by omega)).2]; intro hB'
   have:=h.bnd j B (by omega) hB'; exact ⟨this.1,by omega,this.2.2⟩
 ·rw [List.length_append,List.length_singleton] at hp hq
  by_cases e1:p=ks.length
  ·subst e1
   rw [g2.2,(g1 q (by omega)).2]
   intro h1 h2
   have:=hB B h1
   have:=h.bnd q B (by omega) h2
   omega
  ·rw [(g1 p (by omega)).2]
   by_cases e2:q=ks.length
   ·subst e2
    rw [g2.2]
    intro h1 h2
    have:=hB B h2
    have:=h.bnd p B (by omega) h1
    omega
   ·rw [(g1 q (by omega)).2]; exact h.apart p q B (by omega) (by omega) hpq
end Go.Proofs.Ytfcenbapjhecfaa
namespace Go.Proofs.Ytfcenbapjhecfaa
open Go Go.Abs
theorem dY {H:Hp} {d:Nat} {x:AV}:du 1 (aq H d [x]) (.msl d 1 1 0 1)=some (1,[x]):=gC (n:=1) (len:=1) (off:=0) (cs:=[x]) ai rfl (by simp)
theorem pH {l:List Spx} {i:Nat} {v:Vtx}:(gX l i v).length ≤ i:=by
 unfold gX
 have:=List.length_filter_le (fun k=>decide (v ∈ l.getD k default)) (List.range i)
 rwa [List.length_range] at this
theorem vU {l:List Spx} {i j:Nat} {v:Vtx}:(jc l i j v).length ≤ i + 1:=by
 unfold jc
 have:=pH (l:=l) (i:=i) (v:=v)
 rw [List.length_append]
 split <;> simp <;> omega
attribute [local irreducible] aC ah aU aO aH aJ az aK aP bb Go.Abs.Fn aM Go.Abs.Pure ar aD Yl
set_option maxHeartbeats 2000000 in
theorem qV (l:List Spx) (hl:l.length ≤ 100000) (hs:∀ s ∈ l,bg bt s∧s.length ≤ 1000000) (H:Hp) (nx:Nat):Abs.Fn Try.prog 76 [au l] H nx fun r H' nx'=>∃ ks vs,r=.mp nx∧IncOk H' nx nx nx' (gX l l.length) ks vs∧(∀ x,x < nx→H' x=H x)∧nx < nx':=by
 refine Abs.Fn.of_c2 follows AL (Nat.le_of_ble_eq_true rfl) ?_
 simp only [b76,cO,cG,cN,cM,cD,cF,cB,aF,aW]
 refine fX ?_
 (have zz:=and_self; repeat' (first|apply a_n|refine zO ?_|refine vZ ?_|fail)) <;> (try clear zz)
 refine fX ?_
 (have zz:=and_self; repeat' (first|apply a_n|refine zO ?_|fail)) <;> (try clear zz)
 refine xw ?_
 (have zz:=@aj; repeat' (first|refine zW ?_|apply a_n|refine zO ?_|refine vY ?_|fail)) <;> (try clear zz)
 refine bk (X:=Nat × List Vtx × List AV) (fun x=>[(3,.mp nx),(9,au l),(10,.int .i64 l.length),(11,.int .i64 x.1)]) (fun x H' nx'=>x.1 ≤ l.length∧IncOk H' nx nx nx' (gX l x.1) x.2.1 x.2.2∧(∀ y,y < nx→H' y=H y)∧nx < nx') (fun x=>l.length - x.1) (0,[],[]) ⟨Nat.zero_le _,⟨ai,rfl,List.nodup_nil,fun v=>by simp [gX],fun j h=>absurd h (by simp),fun j B h=>absurd h (by simp),fun i j B h=>absurd h (by simp),by omega⟩,fun y hy=>ag (by omega),by omega⟩ ag0 ?_
 rintro ⟨i,ks,vs⟩ H1 nx1 ⟨h1,h2,h3,h4⟩
 dsimp only at h1 h2 ⊢
 by_cases hi:i < l.length
 rotate_left
 ·obtain rfl:i=l.length:=by omega
  (have zz:=and_self; repeat' (first|refine zW ?_|apply a_n|apply a_x|refine zO ?_|refine vY ?_|(refine zGY ?_ ?_ <;> (intro _hg; try (exfalso; omega)))|refine ak rfl ?_|refine r1Y ?_|fail)) <;> (try clear zz)
  exact ⟨ks,vs,rfl,h2,h3,h4⟩
 have ix:=ec hi
 obtain ⟨hsa,hsl⟩:=hs _ (aX hi)
 have hstep:=fun j v hj=>ut (l:=l) (i:=i) (j:=j) (v:=v) hj hsa
 have hend:=fun v=>s5 (l:=l) (i:=i) (v:=v)
 have hlen:=fun j v=>vU (l:=l) (i:=i) (j:=j) (v:=v)
 have h20:IncOk H1 nx nx nx1 (jc l i 0) ks vs:=by rw [show jc l i 0=gX l i from funext fun v=>tL]; exact h2
 have hend':gX l (i + 1)=jc l i (l.getD i default).length:=funext hend
 clear h2
 generalize l.getD i default=s at *
 (have zz:=aI @ix @ap; repeat' (first|refine zW ?_|apply a_n|refine zO ?_|refine vY ?_|(refine zGY ?_ ?_ <;> (intro _hg; try (exfalso; omega)))|fail)) <;> (try clear zz)
 refine bk (X:=Nat × List Vtx × List AV) (fun x=>[(3,.mp nx),(9,au l),(10,.int .i64 l.length),(11,.int .i64 i),(4,.int .i64 i),(5,ax s),(16,ax s),(17,.int .i64 s.length),(18,.int .i64 x.1)]) (fun x H' nx'=>x.1 ≤ s.length∧IncOk H' nx nx nx' (jc l i x.1) x.2.1 x.2.2∧(∀ y,y < nx→H' y=H y)∧nx < nx') (fun x=>s.length - x.1) (0,ks,vs) ⟨Nat.zero_le _,h20,h3,h4⟩ ag0 ?_
 clear h20 h3 h4
 rintro ⟨j,ks,vs⟩ H2 nx2 ⟨k1,k2,k3,k4⟩
 dsimp only at k1 k2 ⊢
 by_cases hj:j < s.length
 rotate_left
 ·obtain rfl:j=s.length:=by omega
  (have zz:=and_self; repeat' (first|refine zW ?_|apply a_n|apply a_x|refine zO ?_|refine vY ?_|(refine zGY ?_ ?_ <;> (intro _hg; try (exfalso; omega)))|fail)) <;> (try clear zz)
  exact ⟨(i + 1,ks,vs),by dsimp only; omega,⟨by dsimp only; omega,by dsimp only; rw [hend']; exact k2,k3,k4⟩,ag0⟩
 have iy:=ix2 hj
 have hG:=fun v=>hstep j v hj
 have hcl:=hlen j (s.getD j default)
 generalize s.getD j default=w at *
 (have zz:=@iy; repeat' (first|refine zW ?_|apply a_n|refine zO ?_|refine vY ?_|refine alY ?_|refine stY ?_|refine blY ?_|(refine zGY ?_ ?_ <;> (intro _hg; try (exfalso; omega)))|fail)) <;> (try clear zz)
 have g3:∀ x,x < nx2→aq (aq (aq H2 nx2 [.int .i64 0,.int .i64 0]) nx2 (bm [.int .i64 0,.int .i64 0] 0 [.int .i64 w.color,.int .i64 w.label])) (nx2 + 1) [.int .i64 i] x=H2 x:=fun x hx=>by rw [ag (by omega),ag (by omega),ag (by omega)]
 have g4:aq (aq (aq H2 nx2 [.int .i64 0,.int .i64 0]) nx2 (bm [.int .i64 0,.int .i64 0] 0 [.int .i64 w.color,.int .i64 w.label])) (nx2 + 1) [.int .i64 i] (nx2 + 1)=some [.int .i64 i]:=ai
 generalize aq (aq (aq H2 nx2 [.int .i64 0,.int .i64 0]) nx2 (bm [.int .i64 0,.int .i64 0] 0 [.int .i64 w.color,.int .i64 w.label])) (nx2 + 1) [.int .i64 i]=H3 at *
 have hmf:=uI w ks
 have hkl:(ks.map bO).length=ks.length:=List.length_map ..
 by_cases hw:w ∈ ks
 ·rw [if_pos hw] at hmf
  obtain ⟨m1,m2⟩:=pp hw
  have hr:=k2.row (ks.idxOf w) m1
  rw [m2] at hr
  refine vO ev0 ((g3 nx (by omega)).trans k2.box) ev0 (u6 w) hmf ?_
  have g5:∀ x,x < nx2→x ≠ nx→aq H3 nx [.omap (bu (bO w) (some (ks.idxOf w)) (ks.map bO)) (gj .esl (some (ks.idxOf w)) vs)] x=H2 x:=fun x hx hn=>by rw [ag hn,g3 x hx]
  have g6:aq H3 nx [.omap (bu (bO w) (some (ks.idxOf w)) (ks.map bO)) (gj .esl (some (ks.idxOf w)) vs)] nx=some [.omap (ks.map bO) vs]:=ai
  have g7:aq H3 nx [.omap (bu (bO w) (some (ks.idxOf w)) (ks.map bO)) (gj .esl (some (ks.idxOf w)) vs)] (nx2 + 1)=some [.int .i64 i]:=by rw [ag (by omega)]; exact g4
  generalize aq H3 nx [.omap (bu (bO w) (some (ks.idxOf w)) (ks.map bO)) (gj .esl (some (ks.idxOf w)) vs)]=H4 at *
  rw [show rk .esl (some (ks.idxOf w)) vs=vs.getD (ks.idxOf w) .undef from rfl,show qa (some (ks.idxOf w)) (ks.map bO)=ks.idxOf w from rfl]
  (have zz:=and_self; repeat' (first|apply a_n|refine zO ?_|refine vY ?_|fail)) <;> (try clear zz)
  refine hJ (k:=1) (new:=[.int .i64 i]) rfl ev0 (hr.same fun B hB=>?_) ev0 (gC (n:=1) (len:=1) (off:=0) g7 rfl (by omega)) rfl rfl Nat.one_pos (by rw [List.length_map]; omega) (by rw [List.length_map]; omega) ?_
  ·have:=k2.bnd _ B m1 hB
   exact g5 B this.2.1 this.2.2
  rintro s2 H5 nx5 hr5 i1 i2 i3 i4
  (have zz:=and_self; repeat' (first|apply a_n|refine zO ?_|refine vY ?_|fail)) <;> (try clear zz)
  refine uY ev0 ((i3 nx (by omega) (fun h=>(k2.bnd _ nx m1 h).2.2 rfl)).trans g6) ev0 (by rw [hkl]; exact m1) ev0 ?_
  (have zz:=and_self; repeat' (first|apply a_n|refine zO ?_|refine vY ?_|fail)) <;> (try clear zz)
  refine ⟨(j + 1,ks,vs.set (ks.idxOf w) s2),by dsimp only; omega,⟨by dsimp only; omega,IncOk.put k2 hw hG ?_ (fun B hB=>?_) ai (fun x hx hx2 hxn hxr=>?_) (by omega) (by omega),fun y hy=>?_,by omega⟩,ag0⟩
  ·rw [List.map_append]
   exact hr5.same fun B hB=>ag fun e=>by
    rcases i4 B hB with h | h
    ·exact (k2.bnd _ B m1 h).2.2 e
    ·omega
  ·rcases i4 B hB with h | h
   ·exact .inl h
   ·exact .inr (by omega)
  ·rw [ag hxn,i3 x (by omega) hxr,g5 x hx2 hxn]
  ·rw [ag (by omega),i3 y (by omega) (fun h=>by have:=k2.bnd _ y m1 h; omega),g5 y (by omega) (by omega)]; exact k3 y hy
 ·rw [if_neg hw] at hmf
  refine vO ev0 ((g3 nx (by omega)).trans k2.box) ev0 (u6 w) hmf ?_
  have g5:∀ x,x < nx2→x ≠ nx→aq H3 nx [.omap (bu (bO w) none (ks.map bO)) (gj .esl none vs)] x=H2 x:=fun x hx hn=>by rw [ag hn,g3 x hx]
  have g6:aq H3 nx [.omap (bu (bO w) none (ks.map bO)) (gj .esl none vs)] nx=some [.omap (ks.map bO ++ [bO w]) (vs ++ [.esl])]:=ai
  have g7:aq H3 nx [.omap (bu (bO w) none (ks.map bO)) (gj .esl none vs)] (nx2 + 1)=some [.int .i64 i]:=by rw [ag (by omega)]; exact g4
  generalize aq H3 nx [.omap (bu (bO w) none (ks.map bO)) (gj .esl none vs)]=H4 at *
  rw [show rk .esl none vs=.esl from rfl,show qa none (ks.map bO)=ks.length from hkl]
  (have zz:=and_self; repeat' (first|apply a_n|refine zO ?_|refine vY ?_|fail)) <;> (try clear zz)
  refine hJ (k:=1) (new:=[.int .i64 i]) (cs:=[]) rfl ev0 Row.nil ev0 (gC (n:=1) (len:=1) (off:=0) g7 rfl (by omega)) rfl rfl Nat.one_pos (by simp) (by simp) ?_
  rintro s2 H5 nx5 hr5 i1 i2 i3 i4
  have i4':∀ B,cH s2=some B→B=nx2 + 1 + 1∧nx5=nx2 + 1 + 1 + 1:=fun B hB=>(i4 B hB).elim (fun h=>by cases h) id
  (have zz:=and_self; repeat' (first|apply a_n|refine zO ?_|refine vY ?_|fail)) <;> (try clear zz)
  refine uY (i:=ks.length) ev0 ((i3 nx (by omega) (fun h=>by cases h)).trans g6) ev0 (by rw [List.length_append,hkl]; simp) ev0 ?_
  have hset:(vs ++ [AV.esl]).set ks.length s2=vs ++ [s2]:=by rw [← k2.len]; simp
  rw [hset]
  (have zz:=and_self; repeat' (first|apply a_n|refine zO ?_|refine vY ?_|fail)) <;> (try clear zz)
  refine ⟨(j + 1,ks ++ [w],vs ++ [s2]),by dsimp only; omega,⟨by dsimp only; omega,IncOk.new k2 hw hG ?_ (fun B hB=>?_) (by rw [List.map_append]; exact ai) (fun x hx hx2 hxn=>?_) (by omega) (by omega),fun y hy=>?_,by omega⟩,ag0⟩
  ·exact hr5.same fun B hB=>ag (by have:=i4' B hB; omega)
  ·have:=i4' B hB; omega
  ·rw [ag hxn,i3 x (by omega) (fun h=>by cases h),g5 x hx2 hxn]
  ·rw [ag (by omega),i3 y (by omega) (fun h=>by cases h),g5 y (by omega) (by omega)]; exact k3 y hy
end Go.Proofs.Ytfcenbapjhecfaa
namespace Go.Proofs.Ytfcenbapjhecfaa
open Go Go.Abs
def dG (l:List Spx) (s:Spx):Bool:=l.any fun t=>decide (s.length < t.length) && fc s t
def oT (c:List Spx) (k:Nat):Int:=if be (c.getD k default) ≠ 0 then be (c.getD k default) else if 0 < k∧0 ≤ aN (c.getD (k - 1) default) (c.getD k default) then 14 else 0
def bo (c:List Spx):Int:=if 4096 < c.length then 5 else if cm (oT c) c.length ≠ 0 then cm (oT c) c.length else if c.any (dG c)=true then 7 else 0
theorem pX {a b:Spx}:fc a b=true ↔ ∀ v ∈ a,v ∈ b:=by
 unfold fc; rw [List.all_eq_true]
 exact ⟨fun h v hv=>of_decide_eq_true (h v hv),fun h v hv=>decide_eq_true (h v hv)⟩
theorem wa {c:List Spx} (h:cm (oT c) c.length=0):(∀ s ∈ c,be s=0)∧bg aN c:=by
 have hz:=eG h
 have h3:∀ k,k < c.length→be (c.getD k default)=0∧(0 < k→aN (c.getD (k - 1) default) (c.getD k default) < 0):=fun k hk=>by
  have:=hz k hk
  unfold oT at this
  split at this
  ·exact absurd this ‹_›
  rename_i g1
  split at this
  ·exact absurd this (by decide)
  rename_i g2
  exact ⟨Decidable.of_not_not g1,fun h0=>by omega⟩
 constructor
 ·intro s hs
  obtain ⟨i,hi,rfl⟩:=List.getElem_of_mem hs
  have:=(h3 i hi).1
  rwa [show c.getD i default=c[i] by simp [List.getD,hi]] at this
 ·have step:∀ j i,i < j→j < c.length→aN (c.getD i default) (c.getD j default) < 0:=by
    intro j
    induction j with
    | zero=>intro i h; omega
    | succ j ih =>
     intro i hi hj
     have hs:=(h3 (j + 1) hj).2 (by omega)
     rw [Nat.add_sub_cancel] at hs
     by_cases e:i=j
     ·subst e; exact hs
     ·exact dK.trans (ih i (by omega) (by omega)) hs
  unfold bg
  rw [List.pairwise_iff_getElem]
  intro i j hi hj hij
  have:=step j i hij hj
  simpa [List.getD,hi,hj] using this
theorem iq {c:List Spx} (h:bo c=0):c.length ≤ 4096∧(∀ s ∈ c,be s=0)∧bg aN c∧∀ s ∈ c,dG c s=false:=by
 unfold bo at h
 split at h
 ·exact absurd h (by decide)
 split at h
 ·exact absurd h ‹_›
 split at h
 ·exact absurd h (by decide)
 rename_i h1 h2 h3
 have:=wa (Decidable.of_not_not h2)
 refine ⟨by omega,this.1,this.2,fun s hs=>?_⟩
 cases hc:dG c s
 ·rfl
 ·exact absurd (List.any_eq_true.2 ⟨s,hs,hc⟩) h3
theorem wV {l:List Spx} {s:Spx} {p:Spx→Bool} (h0:0 < s.length) (hp:∀ t,p t=true→s.getD 0 default ∈ t):((gX l l.length (s.getD 0 default)).map fun (n:Nat)=>(n:Int)).any (fun i=>p (l.getD i.toNat default))=l.any p:=by
 rw [Bool.eq_iff_iff,List.any_eq_true,List.any_eq_true]
 constructor
 ·rintro ⟨x,hx,h⟩
  obtain ⟨n,hn,rfl⟩:=List.mem_map.1 hx
  unfold gX at hn
  obtain ⟨h1,_⟩:=List.mem_filter.1 hn
  rw [Int.toNat_natCast] at h
  exact ⟨_,aX (List.mem_range.1 h1),h⟩
 ·rintro ⟨t,ht,h⟩
  obtain ⟨i,hi,rfl⟩:=List.getElem_of_mem ht
  have e:l.getD i default=l[i]:=by simp [List.getD,hi]
  refine ⟨(i:Int),List.mem_map.2 ⟨i,List.mem_filter.2 ⟨List.mem_range.2 hi,decide_eq_true ?_⟩,rfl⟩,?_⟩
  ·rw [e]; exact hp _ h
  ·rw [Int.toNat_natCast,e]; exact h
attribute [local irreducible] aC ah aU aO aH aJ az aK aP bb Go.Abs.Fn aM Go.Abs.Pure ar aD Yl
theorem tT (l:List Int) (p:Int→Bool) (g:Nat) (caps:List AV) (hd:∀ x ∈ caps,Dat x) (hg:∀ x ∈ l,Pure Try.prog g (.int .i64 x :: caps) (.bool (p x))) (hl:Shn l):Pure Try.prog 108 [bA l,.func g caps] (.int .i64 (if l.any p then (l.findIdx p:Nat) else -1)):=by
 refine Pure.of_c2 follows Af (Nat.le_of_ble_eq_true rfl) ?_
 simp only [yY,cO,cG,cN,cM,cD,cF,cB,aF,aW]
 have hl':l.length ≤ 17592186044416:=hl
 (have zz:=and_self; repeat' (first|refine zW ?_|apply a_n|refine zO ?_|refine vZ ?_|fail)) <;> (try clear zz)
 refine bk (X:=Nat) (fun k=>[(0,bA l),(1,.func g caps),(6,bA l),(7,.int .i64 l.length),(8,.int .i64 k)]) (fun k H nx=>k ≤ l.length∧∀ i,i < k→p (l.getD i default)=false) (fun k=>l.length - k) 0 ⟨Nat.zero_le _,fun i h=>absurd h (by omega)⟩ ag0 ?_
 rintro k H nx ⟨hk,hz⟩
 by_cases hk2:k < l.length
 rotate_left
 ·rw [oB fun i hi=>hz i (by omega),if_neg (by decide)]
  (have zz:=and_self; repeat' (first|refine zW ?_|apply a_n|apply a_x|refine zO ?_|refine vY ?_|(refine zGY ?_ ?_ <;> (intro _hg; try (exfalso; omega)))|refine ak rfl ?_|refine r1Y ?_|fail)) <;> (try clear zz)
  exact cb rfl
 have hc:=hg _ (aV hk2)
 cases hp:p (l.getD k default)
 ·rw [hp] at hc
  (have zz:=and_self; repeat' (first|refine zW ?_|apply a_n|refine zO ?_|refine vY ?_|(refine zGY ?_ ?_ <;> (intro _hg; try (exfalso; omega)))|fail)) <;> (try clear zz)
  refine bJ ev0 ev0 hc (ae (am (.int _ _) (aQ hd))) ?_
  (have zz:=and_self; repeat' (first|apply a_n|refine zO ?_|refine vY ?_|refine cFY ?_|fail)) <;> (try clear zz)
  exact ⟨k + 1,by omega,⟨by omega,fun i hi=>by
   rcases Nat.lt_succ_iff_lt_or_eq.1 hi with h | rfl
   ·exact hz i h
   ·exact hp⟩,ag0⟩
 ·rw [hp] at hc
  obtain ⟨e1,e2⟩:=pR hk2 hz hp
  rw [e1,e2,if_pos rfl]
  (have zz:=and_self; repeat' (first|refine zW ?_|apply a_n|refine zO ?_|refine vY ?_|(refine zGY ?_ ?_ <;> (intro _hg; try (exfalso; omega)))|fail)) <;> (try clear zz)
  refine bJ ev0 ev0 hc (ae (am (.int _ _) (aQ hd))) ?_
  (have zz:=and_self; repeat' (first|refine zW ?_|apply a_n|apply a_r|refine zO ?_|refine vY ?_|refine cTY ?_|refine ak rfl ?_|refine r1Y ?_|fail)) <;> (try clear zz)
  exact .int _ _
theorem pz (l:List Int) (p:Int→Bool) (g:Nat) (caps:List AV) (hd:∀ x ∈ caps,Dat x) (hg:∀ x ∈ l,Pure Try.prog g (.int .i64 x :: caps) (.bool (p x))) (hl:Shn l):Pure Try.prog 91 [bA l,.func g caps] (.bool (l.any p)):=by
 refine Pure.of_c2 follows AY (Nat.le_of_ble_eq_true rfl) ?_
 simp only [b91,cO,cG,cN,cM,cD,cF,cB,aF,aW]
 have h:=tT l p g caps hd hg hl
 (have zz:=and_self; repeat' (first|refine zW ?_|apply a_n|refine zO ?_|refine vZ ?_|refine cZ ?_ (hp:=h) (hs:=by (first | refine ac ?_ rfl | apply ae); (repeat' (first | exact aa | apply ao | apply af | exact eO _ | exact Dat.func hd)); first | done | fail)|refine ak rfl ?_|refine r1Z ?_|fail)) <;> (try clear zz)
 cases hA:l.any p
 ·exact bn (by simp)
 ·exact bn (by simp)
def OkS (l:List Spx):Prop:=l.length ≤ 100000∧∀ s ∈ l,bg bt s∧s.length ≤ 1000
theorem rO (l:List Spx) (s:Spx) (i:Nat) (hl:OkS l) (hs:bg bt s∧s.length ≤ 1000) (hi:i < l.length):Pure Try.prog 92 [.int .i64 i,.iptr [au l] 0,.iptr [ax s] 0] (.bool (decide (s.length < (l.getD i default).length) && fc s (l.getD i default))):=by
 refine Pure.of_c2 follows A1 (Nat.le_of_ble_eq_true rfl) ?_
 simp only [b92,cO,cG,cN,cM,cD,cF,cB,aF,aW]
 have ix:=ec hi
 obtain ⟨t1,t2⟩:=hl.2 _ (aX hi)
 have hf:=yD s (l.getD i default) hs.1 t1 (by omega) (by omega)
 generalize l.getD i default=t at *
 by_cases h:s.length < t.length
 ·have z:decide ((s.length:Int) < t.length)=true:=decide_eq_true (by omega)
  rw [decide_eq_true h,Bool.true_and]
  (have zz:=aI @ap (aI @ix @z); repeat' (first|refine zW ?_|refine zM ?_|apply a_n|refine zO ?_|refine vZ ?_|refine cZ ?_ (hp:=hf) (hs:=by (first | refine ac ?_ rfl | apply ae); (repeat' (first | exact aa | apply ao | apply af | exact aA _)); first | done | fail)|refine gTZ ?_|refine ak rfl ?_|refine r1Z ?_|fail)) <;> (try clear zz)
  exact .bool _
 ·have z:decide ((s.length:Int) < t.length)=false:=decide_eq_false (by omega)
  rw [decide_eq_false h,Bool.false_and]
  (have zz:=aI @ap (aI @ix @z); repeat' (first|refine zW ?_|refine zM ?_|apply a_n|refine zO ?_|refine vZ ?_|refine gFZ ?_|refine ak rfl ?_|refine r1Z ?_|fail)) <;> (try clear zz)
  exact .bool _
theorem tQ (l:List Spx) (s:Spx) (hl:OkS l) (hs:bg bt s∧s.length ≤ 1000) (h0:0 < s.length):Pure Try.prog 77 [au l,bA ((gX l l.length (s.getD 0 default)).map fun (n:Nat)=>(n:Int)),ax s] (.bool (dG l s)):=by
 refine Pure.of_c2 follows AR (Nat.le_of_ble_eq_true rfl) ?_
 simp only [b77,cO,cG,cN,cM,cD,cF,cB,aF,aW]
 have hll:=hl.1
 have h:=pz ((gX l l.length (s.getD 0 default)).map fun (n:Nat)=>(n:Int)) (fun i=>decide (s.length < (l.getD i.toNat default).length) && fc s (l.getD i.toNat default)) 92 [.iptr [au l] 0,.iptr [ax s] 0] (DatL.cons (Dat.iptr (DatL.cons (ay _) DatL.nil)) (DatL.cons (Dat.iptr (DatL.cons (aA _) DatL.nil)) DatL.nil)) (fun x hx=>by
  obtain ⟨n,hn,rfl⟩:=List.mem_map.1 hx
  have hn2:n < l.length:=List.mem_range.1 (List.mem_filter.1 hn).1
  rw [Int.toNat_natCast]
  exact rO l s n hl hs hn2) (by rw [Shn,List.length_map]; have:=pH (l:=l) (i:=l.length) (v:=s.getD 0 default); omega)
 rw [wV (p:=fun t=>decide (s.length < t.length) && fc s t) h0 (fun t ht=>by
  rw [Bool.and_eq_true,pX] at ht
  exact ht.2 _ (aX h0))] at h
 (have zz:=aI @av (aI @an (aI @aB @aw)); repeat' (first|refine zW ?_|apply a_n|refine zO ?_|refine vZ ?_|refine bxZ ?_|fail)) <;> (try clear zz)
 refine bJ (have zz:=aI @av (aI @an (aI @aB @aw)); evZ) (have zz:=aI @av (aI @an (aI @aB @aw)); evZ) h (ac (am (eO _ _) (am (tR (am (qe rfl rfl (am (ay _ _) aa)) (am (qe rfl rfl (am (aA _ _) aa)) aa))) aa)) rfl) ?_
 (have zz:=and_self; repeat' (first|apply a_n|refine zO ?_|refine vZ ?_|refine ak rfl ?_|refine r1Z ?_|fail)) <;> (try clear zz)
 exact .bool _
end Go.Proofs.Ytfcenbapjhecfaa
namespace Go.Proofs.Ytfcenbapjhecfaa
open Go Go.Abs
theorem vv {H:Hp} {sv:AV} {F:List Nat} (h:Row H 1 sv (F.map rq)):Snap H sv (bA (F.map fun (n:Nat)=>(n:Int))):=by
 refine Row.snapI ?_
 rw [List.map_map]; exact h
theorem r6 {c:List Spx} {k:Nat}:oT c k=if be (c.getD k default) ≠ 0 then be (c.getD k default) else if 0 < k∧0 ≤ aN (c.getD (k - 1) default) (c.getD k default) then 14 else 0:=rfl
theorem yy {c:List Spx} (h1:c.length ≤ 4096) (h:∀ s ∈ c,be s=0):OkS c:=⟨by omega,fun s hs=>by
 obtain ⟨a1,a2,a3,a4⟩:=cz (h s hs)
 exact ⟨a3,by omega⟩⟩
theorem iO {H:Hp} {b:Nat} {cs:List AV} (h:H b=some cs):Sub (only b cs) H:=fun x c hx=>by
 unfold only at hx
 split at hx
 ·rename_i e; rw [e,h]; exact hx
 ·cases hx
def on2 (b1:Nat) (c1:List AV) (b2:Nat) (c2:List AV):Hp:=fun x=>if x=b1 then some c1 else if x=b2 then some c2 else none
theorem xx {b1 b2:Nat} {c1 c2:List AV}:on2 b1 c1 b2 c2 b1=some c1:=if_pos rfl
theorem xz {b1 b2:Nat} {c1 c2:List AV} (h:b2 ≠ b1):on2 b1 c1 b2 c2 b2=some c2:=by unfold on2; rw [if_neg h,if_pos rfl]
theorem oS {b1 b2:Nat} {c1 c2:List AV} {H:Hp} (h1:H b1=some c1) (h2:H b2=some c2):Sub (on2 b1 c1 b2 c2) H:=fun x cs h=>by
 unfold on2 at h
 split at h
 ·rename_i e; rw [e,h1]; exact h
 ·split at h
  ·rename_i e; rw [e,h2]; exact h
  ·cases h
theorem oO {P:Program} {T:Tm} {H:Hp} {nx:Nat} (b1 b2:Nat) {c1 c2:List AV} {K:CP} {m:Nat} {l:List Op2} {C:List (Nat × Nat)} (h1:H b1=some c1) (h2:H b2=some c2) (hne:b2 ≠ b1) (k:∀ S:Hp,S b1=some c1→S b2=some c2→(∀ H':Hp,H' b1=some c1→H' b2=some c2→Sub S H')→a8 P S (C.map fun k=>(l.getD k.1 ⟨none,none,.dead⟩,k.2)) T H nx fun T H nx=>K .normal T H nx):aC P (.mixS m l C) T H nx K :=
 rH (on2 b1 c1 b2 c2) rfl (oS h1 h2) (k _ xx (xz hne) fun _ a b=>oS a b)
theorem ms {P:Program} {T:Tm} {H:Hp} {nx:Nat} (b:Nat) {c:List AV} {K:CP} {m:Nat} {l:List Op2} {C:List (Nat × Nat)} (h:H b=some c) (k:∀ S:Hp,S b=some c→(∀ H':Hp,H' b=some c→Sub S H')→a8 P S (C.map fun k=>(l.getD k.1 ⟨none,none,.dead⟩,k.2)) T H nx fun T H nx=>K .normal T H nx):aC P (.mixS m l C) T H nx K :=
 rH (only b c) rfl (iO h) (k _ lC fun _ h=>iO h)
attribute [local irreducible] aC ah aU aO aH aJ az aK aP bb Go.Abs.Fn aM Go.Abs.Pure ar aD Yl
set_option maxHeartbeats 2000000 in
theorem m9 (c:List Spx) (hc:Shn c) (hs:∀ s ∈ c,Shn s):Pure Try.prog 49 [im c] (.int .i64 (bo c)):=by
 refine Pure.of_c2 follows A0 (Nat.le_of_ble_eq_true rfl) ?_
 simp only [b49,cO,cG,cN,cM,cD,cF,cB,aF,aW]
 have hc':c.length ≤ 17592186044416:=hc
 by_cases h0:4096 < c.length
 ·rw [show bo c=5 by unfold bo; rw [if_pos h0]]
  (have zz:=aI @aj (aI @av @an); repeat' (first|refine zW ?_|apply a_n|apply a_r|refine zO ?_|refine vZ ?_|refine bxZ ?_|(refine zGZ ?_ ?_ <;> (intro _hg; try (exfalso; omega)))|refine ak rfl ?_|refine r1Z ?_|fail)) <;> (try clear zz)
  all_goals exact cb rfl
 rw [show bo c=if cm (oT c) c.length ≠ 0 then cm (oT c) c.length else if c.any (dG c)=true then 7 else 0 by unfold bo; rw [if_neg h0]]
 refine fX ?_
 (have zz:=aI @aj (aI @av @an); repeat' (first|apply a_n|refine zO ?_|refine vZ ?_|refine bxZ ?_|fail)) <;> (try clear zz)
 refine fX (fX ?_)
 (have zz:=aI @aj (aI @av @an); repeat' (first|apply a_n|refine zO ?_|refine vZ ?_|(refine zGZ ?_ ?_ <;> (intro _hg; try (exfalso; omega)))|fail)) <;> (try clear zz)
 by_cases hz:cm (oT c) c.length ≠ 0
 ·rw [if_pos hz]
  (have zz:=aI @aj (aI @av @an); repeat' (first|refine zW ?_|apply a_n|refine zO ?_|refine vZ ?_|fail)) <;> (try clear zz)
  refine bk (X:=Nat) (fun k=>[(1,.ptr 0 1 0),(14,au c),(15,.int .i64 c.length),(16,.int .i64 k)]) (fun k H nx=>k ≤ c.length∧H 0=some [au c]∧∀ i,i < k→oT c i=0) (fun k=>c.length - k) 0 ⟨Nat.zero_le _,rfl,fun i h=>absurd h (by omega)⟩ (by (iterate 4 refine And.intro rfl ?_); trivial) ?_
  rintro k H nx ⟨h1,g0,h2⟩
  by_cases hk:k < c.length
  rotate_left
  ·exact absurd (b4 fun i hi=>h2 i (by omega)) hz
  have ix:=ec hk
  have hs1:=hs _ (aX hk)
  have hp:=ju (c.getD k default) hs1
  have hsp:=r6 (c:=c) (k:=k)
  by_cases he:be (c.getD k default) ≠ 0
  ·rw [if_pos he] at hsp
   rw [bF hk h2 (by rw [hsp]; exact he),hsp]
   have z:decide (be (c.getD k default) ≠ 0)=true:=decide_eq_true he
   (have zz:=aI @aj (aI @ix @z); repeat' (first|refine zW ?_|apply a_n|apply a_r|refine zO ?_|refine vY ?_|refine cY ?_ (hp:=hp) (hs:=by (first | refine ac ?_ rfl | apply ae); (repeat' (first | exact aa | apply ao | apply af | exact aA _)); first | done | fail)|refine cTY ?_|(refine zGY ?_ ?_ <;> (intro _hg; try (exfalso; omega)))|refine ak rfl ?_|refine r1Y ?_|fail)) <;> (try clear zz)
   exact .int _ _
  rw [if_neg he] at hsp
  have he:=Decidable.of_not_not he
  rw [he] at hp
  have z:decide ((0:Int) ≠ 0)=false:=rfl
  by_cases hk0:0 < k
  rotate_left
  ·rw [if_neg (fun h=>hk0 h.1)] at hsp
   have zk:decide (0 < (k:Int))=false:=decide_eq_false (by omega)
   (have zz:=aI @aj (aI @ix (aI @z @zk)); repeat' (first|refine zW ?_|apply a_n|refine zO ?_|refine vY ?_|refine cY ?_ (hp:=hp) (hs:=by (first | refine ac ?_ rfl | apply ae); (repeat' (first | exact aa | apply ao | apply af | exact aA _)); first | done | fail)|refine gFY ?_|refine cFY ?_|(refine zGY ?_ ?_ <;> (intro _hg; try (exfalso; omega)))|fail)) <;> (try clear zz)
   exact ⟨k + 1,by omega,⟨by omega,g0,fun i hi=>by
    rcases Nat.lt_succ_iff_lt_or_eq.1 hi with h' | rfl
    ·exact h2 i h'
    ·exact hsp⟩,ag0⟩
  have zk:decide (0 < (k:Int))=true:=decide_eq_true (by omega)
  have iy:dE 1 (au c) (.int .i64 ((k:Int) - 1))=some (.iptr [ax (c.getD (k - 1) default)] 0):=by
   have:=ec (l:=c) (k:=k - 1) (by omega)
   rwa [show ((k - 1:Nat):Int)=(k:Int) - 1 by omega] at this
  have hcm:=dP (c.getD (k - 1) default) (c.getD k default) (hs _ (aX (by omega))) hs1
  by_cases hv:0 ≤ aN (c.getD (k - 1) default) (c.getD k default)
  ·have z2:decide (0 ≤ aN (c.getD (k - 1) default) (c.getD k default))=true:=decide_eq_true hv
   rw [if_pos ⟨hk0,hv⟩] at hsp
   rw [bF hk h2 (by rw [hsp]; decide),hsp]
   (have zz:=aI @aj (aI @ix (aI @iy (aI @z (aI @zk (aI @z2 @g0))))); repeat' (first|refine zW ?_|apply a_n|apply a_r|refine zO ?_|refine vY ?_|refine cY ?_ (hp:=by first | exact hp | exact hcm) (hs:=by (first | refine ac ?_ rfl | apply ae); (repeat' (first | exact aa | apply ao | apply af | exact aA _)); first | done | fail)|refine gTY ?_|refine cTY ?_|refine cFY ?_|(refine zGY ?_ ?_ <;> (intro _hg; try (exfalso; omega)))|refine ak rfl ?_|refine r1Y ?_|fail)) <;> (try clear zz)
   exact .int _ _
  ·have z2:decide (0 ≤ aN (c.getD (k - 1) default) (c.getD k default))=false:=decide_eq_false hv
   rw [if_neg (fun h=>hv h.2)] at hsp
   (have zz:=aI @aj (aI @ix (aI @iy (aI @z (aI @zk (aI @z2 @g0))))); repeat' (first|refine zW ?_|apply a_n|refine zO ?_|refine vY ?_|refine cY ?_ (hp:=by first | exact hp | exact hcm) (hs:=by (first | refine ac ?_ rfl | apply ae); (repeat' (first | exact aa | apply ao | apply af | exact aA _)); first | done | fail)|refine gTY ?_|refine cFY ?_|(refine zGY ?_ ?_ <;> (intro _hg; try (exfalso; omega)))|fail)) <;> (try clear zz)
   exact ⟨k + 1,by omega,⟨by omega,g0,fun i hi=>by
    rcases Nat.lt_succ_iff_lt_or_eq.1 hi with h' | rfl
    ·exact h2 i h'
    ·exact hsp⟩,ag0⟩
 have hz:=Decidable.of_not_not hz
 rw [if_neg (fun h=>h hz)]
 obtain ⟨a1,a2⟩:=wa hz
 have hall:=eG hz
 have hok:=yy (by omega) a1
 refine bw (fun T H nx=>T 1=.ptr 0 1 0∧H 0=some [au c]∧1 ≤ nx) ?_ ?_
 ·(have zz:=aI @aj (aI @av @an); repeat' (first|refine zW ?_|apply a_n|refine zO ?_|refine vZ ?_|fail)) <;> (try clear zz)
  refine bk (X:=Nat) (fun k=>[(1,.ptr 0 1 0),(14,au c),(15,.int .i64 c.length),(16,.int .i64 k)]) (fun k H nx=>k ≤ c.length∧H 0=some [au c]∧1 ≤ nx) (fun k=>c.length - k) 0 ⟨Nat.zero_le _,rfl,by omega⟩ (by (iterate 4 refine And.intro rfl ?_); trivial) ?_
  rintro k H nx ⟨h1,g0,hnx⟩
  by_cases hk:k < c.length
  rotate_left
  ·(have zz:=and_self; repeat' (first|refine zW ?_|apply a_n|apply a_x|refine zO ?_|refine vY ?_|(refine zGY ?_ ?_ <;> (intro _hg; try (exfalso; omega)))|fail)) <;> (try clear zz)
   exact ⟨rfl,g0,hnx⟩
  have ix:=ec hk
  have hs1:=hs _ (aX hk)
  have hp:=ju (c.getD k default) hs1
  rw [a1 _ (aX hk)] at hp
  have z:decide ((0:Int) ≠ 0)=false:=rfl
  by_cases hk0:0 < k
  rotate_left
  ·have zk:decide (0 < (k:Int))=false:=decide_eq_false (by omega)
   (have zz:=aI @aj (aI @ix (aI @z @zk)); repeat' (first|refine zW ?_|apply a_n|refine zO ?_|refine vY ?_|refine cY ?_ (hp:=hp) (hs:=by (first | refine ac ?_ rfl | apply ae); (repeat' (first | exact aa | apply ao | apply af | exact aA _)); first | done | fail)|refine gFY ?_|refine cFY ?_|(refine zGY ?_ ?_ <;> (intro _hg; try (exfalso; omega)))|fail)) <;> (try clear zz)
   exact ⟨k + 1,by omega,⟨by omega,g0,hnx⟩,ag0⟩
  have zk:decide (0 < (k:Int))=true:=decide_eq_true (by omega)
  have iy:dE 1 (au c) (.int .i64 ((k:Int) - 1))=some (.iptr [ax (c.getD (k - 1) default)] 0):=by
   have:=ec (l:=c) (k:=k - 1) (by omega)
   rwa [show ((k - 1:Nat):Int)=(k:Int) - 1 by omega] at this
  have hcm:=dP (c.getD (k - 1) default) (c.getD k default) (hs _ (aX (by omega))) hs1
  have z2:decide (0 ≤ aN (c.getD (k - 1) default) (c.getD k default))=false:=decide_eq_false (by have:=c9 a2 (i:=k - 1) (j:=k) (by omega) hk; omega)
  (have zz:=aI @aj (aI @ix (aI @iy (aI @z (aI @zk (aI @z2 @g0))))); repeat' (first|refine zW ?_|apply a_n|refine zO ?_|refine vY ?_|refine cY ?_ (hp:=by first | exact hp | exact hcm) (hs:=by (first | refine ac ?_ rfl | apply ae); (repeat' (first | exact aa | apply ao | apply af | exact aA _)); first | done | fail)|refine gTY ?_|refine cFY ?_|(refine zGY ?_ ?_ <;> (intro _hg; try (exfalso; omega)))|fail)) <;> (try clear zz)
  exact ⟨k + 1,by omega,⟨by omega,g0,hnx⟩,ag0⟩
 rintro T H nx ⟨t1,g0,hnx⟩
 (have zz:=aI @t1 @g0; repeat' (first|refine zW ?_|apply a_n|refine zO ?_|refine vY ?_|fail)) <;> (try clear zz)
 refine aS ev0 (have zz:=@t1; evZ) (qV c hok.1 (fun s hs=>⟨(hok.2 s hs).1,by have:=(hok.2 s hs).2; omega⟩) _ _) ?_
 rintro _ H1 nx1 ⟨ks,vs,rfl,hinc,hsame,hlt⟩
 have g0':H1 0=some [au c]:=(hsame 0 (by omega)).trans g0
 (have zz:=aI @t1 (aI @g0' @aj); repeat' (first|refine zW ?_|apply a_n|refine zO ?_|refine vY ?_|fail)) <;> (try clear zz)
 refine bk (X:=Nat) (fun k=>[(1,.ptr 0 1 0),(6,.mp nx),(44,au c),(45,.int .i64 c.length),(46,.int .i64 k)]) (fun k H' nx'=>k ≤ c.length∧H'=H1∧nx'=nx1∧∀ i,i < k→dG c (c.getD i default)=false) (fun k=>c.length - k) 0 ⟨Nat.zero_le _,rfl,rfl,fun i h=>absurd h (by omega)⟩ (have zz:=@t1; agZ) ?_
 rintro k H' nx' ⟨h1,rfl,rfl,h2⟩
 by_cases hk:k < c.length
 rotate_left
 ·rw [oB fun i hi=>h2 i (by omega),if_neg (by decide)]
  (have zz:=and_self; repeat' (first|refine zW ?_|apply a_n|apply a_x|refine zO ?_|refine vY ?_|(refine zGY ?_ ?_ <;> (intro _hg; try (exfalso; omega)))|refine ak rfl ?_|refine r1Y ?_|fail)) <;> (try clear zz)
  exact .int _ _
 have ix:=ec hk
 obtain ⟨p1,p2,p3,p4⟩:=cz (a1 _ (aX hk))
 have hcv:=tQ c (c.getD k default) hok (hok.2 _ (aX hk)) (by omega)
 have iy:=ix2 (l:=c.getD k default) (k:=0) (by omega)
 rw [show ((0:Nat):Int)=0 from rfl] at iy
 have hks:(c.getD k default).getD 0 default ∈ ks:=(hinc.dom _).2 fun e=>by
  have:k ∈ gX c c.length ((c.getD k default).getD 0 default):=List.mem_filter.2 ⟨List.mem_range.2 hk,decide_eq_true (aX (by omega))⟩
  rw [e] at this; cases this
 have hmf:=uI ((c.getD k default).getD 0 default) ks
 rw [if_pos hks] at hmf
 obtain ⟨m1,m2⟩:=pp hks
 have hr:=hinc.row _ m1
 rw [m2] at hr
 have hcb:dG c (c.getD k default)=true→c.any (dG c)=true:=fun h=>List.any_eq_true.2 ⟨_,aX hk,h⟩
 generalize hsk:c.getD k default=s at *
 (have zz:=@ix; repeat' (first|refine zW ?_|apply a_n|refine zO ?_|refine vY ?_|(refine zGY ?_ ?_ <;> (intro _hg; try (exfalso; omega)))|fail)) <;> (try clear zz)
 refine ms 0 g0' fun S hS0 hsub'=>?_
 have hsub:=hsub' H' g0'
 (have zz:=aI @hS0 @iy; repeat' (first|apply a_n|refine zO ?_|refine nvY ?_|fail)) <;> (try clear zz)
 refine iv ?_
 refine rB ev0 hinc.box ev0 (u6 _) hmf ?_
 refine n9 ⟨hsub,?_⟩
 rw [show mget .esl false (some (ks.idxOf (s.getD 0 default))) vs=vs.getD (ks.idxOf (s.getD 0 default)) .undef from rfl]
 refine kw ?_
 cases hb:dG c s
 ·rw [hb] at hcv
  refine bJ ev0 ev0 hcv (ac (am (ay _ _) (am (vv hr) (am (aA _ _) aa))) rfl) ?_
  (have zz:=and_self; repeat' (first|apply a_n|refine zO ?_|refine vY ?_|refine cFY ?_|fail)) <;> (try clear zz)
  exact ⟨k + 1,by omega,⟨by omega,rfl,rfl,fun i hi=>by
   rcases Nat.lt_succ_iff_lt_or_eq.1 hi with h' | rfl
   ·exact h2 i h'
   ·rw [hsk]; exact hb⟩,ag0⟩
 ·rw [hb] at hcv
  rw [hcb hb,if_pos rfl]
  refine bJ ev0 ev0 hcv (ac (am (ay _ _) (am (vv hr) (am (aA _ _) aa))) rfl) ?_
  (have zz:=and_self; repeat' (first|refine zW ?_|apply a_n|apply a_r|refine zO ?_|refine vY ?_|refine cTY ?_|refine ak rfl ?_|refine r1Y ?_|fail)) <;> (try clear zz)
  exact .int _ _
end Go.Proofs.Ytfcenbapjhecfaa
namespace Go.Proofs.Ytfcenbapjhecfaa
open Go Go.Abs
attribute [local irreducible] aC ah aU aO aH aJ az aK aP bb Go.Abs.Fn aM Go.Abs.Pure ar aD Yl
end Go.Proofs.Ytfcenbapjhecfaa
namespace Go.Proofs.Ytfcenbapjhecfaa
open Go Go.Abs
structure MapV where
 fr:Spx
 to:Spx
 deriving Inhabited,DecidableEq
abbrev zV (m:MapV):AV:=.agg [ax m.fr,ax m.to]
theorem vu (m:MapV):Dat (zV m):=Dat.agg (DatL.cons (aA _) (DatL.cons (aA _) DatL.nil))
instance datI_encM {m:MapV}:DatI (zV m):=⟨vu m⟩
attribute [local irreducible] aC ah aU aO aH aJ az aK aP bb Go.Abs.Fn aM Go.Abs.Pure ar aD Yl
theorem vA {H:Hp} {a b:Bool} {e f:Int} (h1:a=b) (h2:e=f):Snap H (.tup [.bool a,.int .i64 e]) (.tup [.bool b,.int .i64 f]):=by
 subst h1 h2; exact eR (am (.bool _) (am (.int _ _) aa))
end Go.Proofs.Ytfcenbapjhecfaa
namespace Go.Proofs.Ytfcenbapjhecfaa
open Go Go.Abs
attribute [local irreducible] aC ah aU aO aH aJ az aK aP bb Go.Abs.Fn aM Go.Abs.Pure ar aD Yl
end Go.Proofs.Ytfcenbapjhecfaa
namespace Go.Proofs.Ytfcenbapjhecfaa
open Go Go.Abs
attribute [local irreducible] aC ah aU aO aH aJ az aK aP bb Go.Abs.Fn aM Go.Abs.Pure ar aD Yl
end Go.Proofs.Ytfcenbapjhecfaa
namespace Go.Proofs.Ytfcenbapjhecfaa
open Go Go.Abs
attribute [local irreducible] aC ah aU aO aH aJ az aK aP bb Go.Abs.Fn aM Go.Abs.Pure ar aD Yl
end Go.Proofs.Ytfcenbapjhecfaa
namespace Go.Proofs.Ytfcenbapjhecfaa
open Go Go.Abs
attribute [local irreducible] aC ah aU aO aH aJ az aK aP bb Go.Abs.Fn aM Go.Abs.Pure ar aD Yl
end Go.Proofs.Ytfcenbapjhecfaa
namespace Go.Proofs.Ytfcenbapjhecfaa
open Go Go.Abs
def bx:Spx→Nat→List Spx
 | _,0=>[[]]
 | [],_ + 1=>[]
 | x :: l,k + 1=>(bx l k).map (x :: ·) ++ bx l (k + 1)
theorem jQ {l:Spx}:bx l 0=[[]]:=by cases l <;> rfl
theorem qF {k:Nat}:bx [] (k + 1)=[]:=rfl
theorem eF {x:Vtx} {l:Spx} {k:Nat}:bx (x :: l) (k + 1)=(bx l k).map (x :: ·) ++ bx l (k + 1):=rfl
theorem cL:∀ {l:Spx} {k:Nat} {s:Spx},s ∈ bx l k ↔ s.Sublist l∧s.length=k
 | l,0,s=>by
  rw [jQ,List.mem_singleton]
  exact ⟨fun h=>by subst h; exact ⟨List.nil_sublist _,rfl⟩,fun h=>List.length_eq_zero_iff.1 h.2⟩
 | [],k + 1,s=>by
  rw [qF]
  refine ⟨fun h=>(by cases h),fun ⟨h1,h2⟩=>?_⟩
  rw [List.sublist_nil] at h1
  subst h1; simp at h2
 | x :: l,k + 1,s=>by
  rw [eF,List.mem_append,List.mem_map,cL]
  constructor
  ·rintro (⟨t,ht,rfl⟩ | ⟨h1,h2⟩)
   ·have:=cL.1 ht
    exact ⟨this.1.cons_cons x,by simp [this.2]⟩
   ·exact ⟨h1.cons x,h2⟩
  ·rintro ⟨h1,h2⟩
   cases h1 with
   | cons _ h=>exact .inr ⟨h,h2⟩
   | cons_cons _ h=>exact .inl ⟨_,cL.2 ⟨h,by simpa using h2⟩,rfl⟩
theorem mQ {l:Spx} {k:Nat} (h:l.length < k):bx l k=[]:=by
 cases e:bx l k with
 | nil=>rfl
 | cons a r =>
  have:=cL.1 (show a ∈ bx l k by rw [e]; exact List.mem_cons_self)
  have:=this.1.length_le
  omega
def chK:Nat→Nat→Nat
 | _,0=>1
 | 0,_ + 1=>0
 | n + 1,k + 1=>chK n k + chK n (k + 1)
theorem za {n:Nat}:chK n 0=1:=by cases n <;> rfl
theorem ni:∀ {l:Spx} {k:Nat},(bx l k).length=chK l.length k
 | l,0=>by rw [jQ,za]; rfl
 | [],k + 1=>rfl
 | x :: l,k + 1=>by
  rw [eF,List.length_append,List.length_map,ni,ni]; rfl
theorem x7 {n k:Nat} (hn:n ≤ 8):chK n k ≤ 70:=by
 by_cases hk:k ≤ 8
 ·have:∀ n,n < 9→∀ k,k < 9→chK n k ≤ 70:=by decide
  exact this n (by omega) k (by omega)
 ·have:∀ n k,n < k→chK n k=0:=by
    intro n
    induction n with
    | zero=>intro k h; match k,h with | k + 1,_=>rfl
    | succ n ih=>intro k h; match k,h with | k + 1,h=>show chK n k + chK n (k + 1)=0; rw [ih k (by omega),ih (k + 1) (by omega)]
  rw [this n k (by omega)]; omega
theorem oV {l:Spx} {k:Nat} (h:l.length ≤ 8):(bx l k).length ≤ 70:=by rw [ni]; exact x7 h
theorem sZ {l:Spx} {i k:Nat} (hi:i < l.length):bx (l.drop i) (k + 1)=(bx (l.drop (i + 1)) k).map (l.getD i default :: ·) ++ bx (l.drop (i + 1)) (k + 1):=by
 rw [List.drop_eq_getElem_cons hi,eF]
 simp [List.getD,hi]
theorem nN {v w:Vtx} {l m:Spx}:aN (v :: l) (w :: m)=if bt v w ≠ 0 then bt v w else aN l m:=rfl
theorem tc {v:Vtx} {l m:Spx}:aN (v :: l) (v :: m)=aN l m:=by
 rw [nN,if_neg (fun h=>h (eE.2 rfl))]
theorem gw:∀ {l:Spx} {k:Nat},bg bt l→bg aN (bx l k)
 | l,0,_=>by rw [jQ]; exact List.pairwise_singleton _ _
 | [],k + 1,_=>List.Pairwise.nil
 | x :: l,k + 1,h=>by
  have h':=List.pairwise_cons.1 h
  rw [eF]
  unfold bg
  rw [List.pairwise_append]
  refine ⟨?_,gw h'.2,?_⟩
  ·rw [List.pairwise_map]
   exact List.Pairwise.imp (fun {a b} hab=>by rw [tc]; exact hab) (gw (k:=k) h'.2)
  ·intro a ha b hb
   obtain ⟨t,_,rfl⟩:=List.mem_map.1 ha
   have hb':=cL.1 hb
   cases b with
   | nil=>simp at hb'
   | cons y r =>
    have hy:y ∈ l:=hb'.1.subset List.mem_cons_self
    have:=h'.1 y hy
    rw [nN,if_pos (by omega)]
    exact this
end Go.Proofs.Ytfcenbapjhecfaa
namespace Go.Proofs.Ytfcenbapjhecfaa
open Go Go.Abs
open Nat (reduceEqDiff reduceAdd reduceLeDiff)
attribute [local irreducible] aC ah aU aO aH aJ az aK aP bb Go.Abs.Fn aM Go.Abs.Pure ar aD Yl
theorem uX (s:AV) (l:Spx) (hl:l.length ≤ 1000000) (h0:l ≠ []) (H:Hp) (nx:Nat) (hn:dL s=some l.length) (hs:∀ H',(∀ x,x < nx→H' x=H x)→du 2 H' s=some (l.length,cX l)):Abs.Fn Try.prog 83 [s] H nx fun r H' nx'=>r=.msl nx (l.length * 2) 2 0 l.length∧H'=aq H nx (cX l)∧nx'=nx + 1:=by
 have hpos:=List.length_pos_iff.2 h0
 refine Abs.Fn.of_c2 follows zI (Nat.le_of_ble_eq_true rfl) ?_
 simp only [b83,cO,cG,cN,cM,cD,cF,cB,aF,aW]
 (have zz:=and_self; repeat' (first|refine zW ?_|apply a_n|refine zO ?_|refine vY ?_|fail)) <;> (try clear zz)
 refine uT (k:=l.length) (by ((try simp only [bQ,ZA,reduceEqDiff,↓reduceIte,reduceAdd,reduceLeDiff]); (try with_reducible rfl)); exact hn) (fun h=>?_) (fun h=>by omega) (fun h=>by omega)
 (have zz:=and_self; repeat' (first|refine zW ?_|apply a_n|refine zO ?_|refine vY ?_|refine b0Y ?_|refine cFY ?_|fail)) <;> (try clear zz)
 refine pe rfl ev0 ev0 (hs _ fun x _=>rfl) (gL _) (by omega) (by omega) ?_
 (have zz:=and_self; repeat' (first|apply a_n|refine zO ?_|refine vY ?_|refine ak rfl ?_|refine r1Y ?_|fail)) <;> (try clear zz)
 exact ⟨rfl,rfl,rfl⟩
theorem yM {y lo kb sb k N:Nat} {s:Spx} (hs:s.length ≤ 1000) (hk:k ≤ 1000) (I:List Spx→Hp→Nat→Prop)
    (hp:∀ S H nx,I S H nx→H kb=some [.int .i64 k]∧H sb=some [ax s]∧lo + 3 ≤ nx∧kb < lo∧sb < lo)
    (stab:∀ S H H' nx nx',I S H nx→nx ≤ nx'→(∀ i,i < nx→¬ (lo ≤ i∧i < lo + 3)→H' i=H i)→I S H' nx')
    (rnd:∀ S f H nx,I S H nx→f.length=k→f ≠ []→S.length < N→Yl Try.prog y [.msl nx (k * 2) 2 0 k] (aq H nx (cX f)) (nx + 1) fun r H' nx'=>r=.bool true∧I (S ++ [f]) H' nx'∧nx ≤ nx'∧∀ i,lo ≤ i→i < lo + 3→H' i=H i) :
    ∀ (j:Nat) (ch:Spx) (at_:Nat) (S:List Spx) (H:Hp) (nx:Nat),0 < k→ch.length + j=k→S.length + (bx (s.drop at_) j).length ≤ N→at_ ≤ s.length→I S H nx→H lo=some [.yld y]→H (lo + 1)=some [.func 118 [.ptr kb 1 0,.ptr lo 1 0,.ptr sb 1 0,.ptr (lo + 1) 1 0]]→(∃ C,H (lo + 2)=some C∧C.length=k * 2∧C.take (ch.length * 2)=cX ch) →
     Abs.Fn Try.prog 118 [.int .i64 at_,.msl (lo + 2) (k * 2) 2 0 ch.length,.ptr kb 1 0,.ptr lo 1 0,.ptr sb 1 0,.ptr (lo + 1) 1 0] H nx fun r H' nx'=>r=.bool true∧I (S ++ (bx (s.drop at_) j).map (ch ++ ·)) H' nx'∧nx ≤ nx'∧H' lo=H lo∧H' (lo + 1)=H (lo + 1)∧∃ C,H' (lo + 2)=some C∧C.length=k * 2∧C.take (ch.length * 2)=cX ch:=by
 intro j
 induction j with
 | zero =>
  intro ch at_ S H nx hk0 hj hN hat hI h1 h2 ⟨C,h3,hc1,hc2⟩
  obtain ⟨g1,g2,g3,g4,g5⟩:=hp _ _ _ hI
  have hlen:ch.length=k:=by omega
  have hne:ch ≠ []:=fun e=>by rw [e] at hlen; simp at hlen; omega
  obtain rfl:C=cX ch:=by rw [← hc2,List.take_of_length_le (by omega)]
  refine Abs.Fn.of_c2 follows xI (Nat.le_of_ble_eq_true rfl) ?_
  simp only [xV,cO,cG,cN,cM,cD,cF,cB,aF,aW]
  have hcl:=uX (.msl (lo + 2) (k * 2) 2 0 k) ch (by omega) hne H nx (by rw [hlen]; rfl) (fun H' hH'=>by rw [hlen]; exact (gC (n:=k * 2) (off:=0) (len:=k) ((hH' (lo + 2) (by omega)).trans h3) hc1 (by omega)).trans (by rw [List.drop_zero,List.take_of_length_le (by omega)]))
  rw [hlen] at hcl
  rw [hlen]
  have z:decide ((k:Int)=k)=true:=decide_eq_true rfl
  (have zz:=aI @g1 (aI @g2 (aI @h1 (aI @h2 @z))); repeat' (first|refine zW ?_|apply a_n|refine zO ?_|refine vY ?_|(refine zGY ?_ ?_ <;> (intro _hg; try (exfalso; omega)))|fail)) <;> (try clear zz)
  refine ms lo h1 fun S0 hS hsub=>?_
  (have zz:=@hS; repeat' (first|apply a_n|refine zO ?_|refine nvY ?_|fail)) <;> (try clear zz)
  refine iv ?_
  refine aS ev0 ev0 hcl ?_
  rintro _ H2 nx2 ⟨rfl,rfl,rfl⟩
  refine n9 ⟨hsub _ (by rw [ag (by omega)]; exact h1),?_⟩
  refine kw ?_
  refine sM ev0 ev0 (Yl.mono (rnd S ch H nx hI hlen hne (by rw [jQ] at hN; exact hN)) ?_)
  rintro r H3 nx3 ⟨rfl,e1,e2,e3⟩
  (have zz:=and_self; repeat' (first|apply a_n|apply a_r|refine zO ?_|refine nvY ?_|refine ak rfl ?_|refine r1Y ?_|fail)) <;> (try clear zz)
  refine ⟨rfl,?_,e2,e3 _ (by omega) (by omega),e3 _ (by omega) (by omega),cX ch,(e3 _ (by omega) (by omega)).trans h3,hc1,by rw [← hlen]; exact hc2⟩
  rw [jQ,List.map_cons,List.map_nil,List.append_nil]
  exact e1
 | succ j ih =>
  intro ch at_ S H nx hk0 hj hN hat hI h1 h2 ⟨C,h3,hc1,hc2⟩
  obtain ⟨g1,g2,g3,g4,g5⟩:=hp _ _ _ hI
  refine Abs.Fn.of_c2 follows xI (Nat.le_of_ble_eq_true rfl) ?_
  simp only [xV,cO,cG,cN,cM,cD,cF,cB,aF,aW]
  have z:decide ((ch.length:Int)=k)=false:=decide_eq_false (by omega)
  (have zz:=aI @g1 (aI @g2 (aI @h1 (aI @h2 @z))); repeat' (first|refine zW ?_|apply a_n|refine zO ?_|refine vY ?_|refine cFY ?_|fail)) <;> (try clear zz)
  refine bk (X:=Nat × List Spx) (fun x=>[(1,.msl (lo + 2) (k * 2) 2 0 ch.length),(4,.ptr sb 1 0),(5,.ptr (lo + 1) 1 0),(9,.int .i64 x.1)]) (fun x H' nx'=>x.1 ≤ s.length∧I x.2 H' nx'∧nx ≤ nx'∧H' lo=H lo∧H' (lo + 1)=H (lo + 1)∧(∃ C,H' (lo + 2)=some C∧C.length=k * 2∧C.take (ch.length * 2)=cX ch)∧x.2 ++ (bx (s.drop x.1) (j + 1)).map (ch ++ ·)=S ++ (bx (s.drop at_) (j + 1)).map (ch ++ ·)) (fun x=>s.length - x.1) (at_,S) ⟨hat,hI,Nat.le_refl _,rfl,rfl,⟨C,h3,hc1,hc2⟩,rfl⟩ ag0 ?_
  rintro ⟨i,S1⟩ H1 nx1 ⟨i1,hI1,i2,i3,i4,⟨C1,k3,d1,d2⟩,htot⟩
  dsimp only at i1 hI1 htot ⊢
  obtain ⟨q1,q2,q3,q4,q5⟩:=hp _ _ _ hI1
  have w1:=i3.trans h1
  have w2:=i4.trans h2
  by_cases hi:i < s.length
  rotate_left
  ·(have zz:=aI @q1 (aI @q2 @ap); repeat' (first|refine zW ?_|apply a_n|apply a_x|refine zO ?_|refine vY ?_|(refine zGY ?_ ?_ <;> (intro _hg; try (exfalso; omega)))|refine ak rfl ?_|refine r1Y ?_|fail)) <;> (try clear zz)
   rw [show s.drop i=[] from List.drop_eq_nil_of_le (by omega),qF,List.map_nil,List.append_nil] at htot
   exact ⟨rfl,by rw [← htot]; exact hI1,i2,i3,i4,C1,k3,d1,d2⟩
  have ix:=ix2 hi
  rw [sZ hi,List.map_append,List.map_map,← List.append_assoc] at htot
  have hmm:(bx (s.drop (i + 1)) j).map ((fun x=>ch ++ x) ∘ fun x=>s.getD i default :: x)=(bx (s.drop (i + 1)) j).map ((ch ++ [s.getD i default]) ++ ·):=List.map_congr_left fun x _=>by simp
  rw [hmm] at htot
  generalize s.getD i default=v at *
  (have zz:=aI @q1 (aI @q2 @ap); repeat' (first|refine zW ?_|apply a_n|refine zO ?_|refine vY ?_|(refine zGY ?_ ?_ <;> (intro _hg; try (exfalso; omega)))|fail)) <;> (try clear zz)
  refine oO sb (lo + 1) q2 w2 (by omega) fun S0 hS1 hS2 hsub=>?_
  (have zz:=aI @hS1 (aI @hS2 @ix); repeat' (first|apply a_n|refine zO ?_|refine nvY ?_|fail)) <;> (try clear zz)
  refine iv ?_
  (have zz:=and_self; repeat' (first|apply a_n|refine zO ?_|refine blY ?_|fail)) <;> (try clear zz)
  refine ⟨hsub _ (by rw [ag (by omega)]; exact q2) (by rw [ag (by omega)]; exact w2),?_⟩
  refine iv ?_
  refine vG (b:=lo + 2) (m:=k * 2) (off:=0) (len:=ch.length) (n:=1) rfl ev0 (by rw [ag (by omega)]; exact k3) ev0 oe rfl d1 (fun _=>by omega) (by omega) (by omega) ?_
  refine n9 ⟨hsub _ (by rw [ag (by omega),ag (by omega)]; exact q2) (by rw [ag (by omega),ag (by omega)]; exact w2),?_⟩
  refine kw ?_
  have hl1:(ch ++ [v]).length=ch.length + 1:=by simp
  have hcc:=fk ch
  have hput:(bm C1 (0 + ch.length * 2) [.int .i64 v.color,.int .i64 v.label]).length=k * 2∧(bm C1 (0 + ch.length * 2) [.int .i64 v.color,.int .i64 v.label]).take ((ch.length + 1) * 2)=cX (ch ++ [v]):=by
   rw [Nat.zero_add]
   simp only [bm]
   refine ⟨by simp [d1]; omega,?_⟩
   rw [d2,gK,xX,List.take_append_of_le_length (by simp [hcc]; omega),List.take_of_length_le (by simp [hcc]; omega)]
  have hN1:S1.length + (bx (s.drop (i + 1)) j).length ≤ N:=by
   have:=congrArg List.length htot
   simp only [List.length_append,List.length_map] at this
   omega
  have hih:=ih (ch ++ [v]) (i + 1) S1 (aq (aq H1 nx1 [.int .i64 v.color,.int .i64 v.label]) (lo + 2) (bm C1 (0 + ch.length * 2) [.int .i64 v.color,.int .i64 v.label])) (nx1 + 1) hk0 (by omega) hN1 (by omega) (stab _ _ _ _ _ hI1 (by omega) (fun x hx hn=>by rw [ag (by omega),ag (by omega)])) (by rw [ag (by omega),ag (by omega)]; exact w1) (by rw [ag (by omega),ag (by omega)]; exact w2) ⟨_,ai,hput.1,by rw [hl1]; exact hput.2⟩
  rw [hl1,show ((i + 1:Nat):Int)=(i:Int) + 1 by omega] at hih
  refine aS ev0 ev0 hih ?_
  rintro r H4 nx4 ⟨rfl,f1,f2,f3,f4,C4,f5,f6,f7⟩
  (have zz:=and_self; repeat' (first|apply a_n|refine zO ?_|refine vY ?_|refine nvY ?_|refine cFY ?_|fail)) <;> (try clear zz)
  refine ⟨(i + 1,S1 ++ (bx (s.drop (i + 1)) j).map ((ch ++ [v]) ++ ·)),by dsimp only; omega,⟨by dsimp only; omega,f1,by omega,f3.trans ?_,f4.trans ?_,⟨C4,f5,f6,?_⟩,htot⟩,ag0⟩
  ·rw [ag (by omega),ag (by omega)]; exact i3
  ·rw [ag (by omega),ag (by omega)]; exact i4
  ·have:=congrArg (List.take (ch.length * 2)) f7
   rw [List.take_take,Nat.min_eq_left (by omega),gK,List.take_append_of_le_length (by omega)] at this
   rw [this]
   exact List.take_of_length_le (by omega)
end Go.Proofs.Ytfcenbapjhecfaa
namespace Go.Proofs.Ytfcenbapjhecfaa
open Go Go.Abs
open Nat (reduceEqDiff reduceAdd reduceLeDiff)
attribute [local irreducible] aC ah aU aO aH aJ az aK aP bb Go.Abs.Fn aM Go.Abs.Pure ar aD Yl
theorem va {y kb sb k:Nat} {s:Spx} {H:Hp} {nx:Nat} (hs:s.length ≤ 1000) (hk0:0 < k) (hk:k ≤ 1000) (I:List Spx→Hp→Nat→Prop)
    (hp:∀ S H nx',I S H nx'→H kb=some [.int .i64 k]∧H sb=some [ax s]∧nx + 3 ≤ nx'∧kb < nx∧sb < nx)
    (stab:∀ S H H' nx1 nx',I S H nx1→nx1 ≤ nx'→(∀ i,i < nx1→¬ (nx ≤ i∧i < nx + 3)→H' i=H i)→I S H' nx')
    (rnd:∀ S f H nx1,I S H nx1→f.length=k→f ≠ []→S.length < (bx s k).length→Yl Try.prog y [.msl nx1 (k * 2) 2 0 k] (aq H nx1 (cX f)) (nx1 + 1) fun r H' nx'=>r=.bool true∧I (S ++ [f]) H' nx'∧nx1 ≤ nx'∧∀ i,nx ≤ i→i < nx + 3→H' i=H i)
    (gk:H kb=some [.int .i64 k]) (lk:kb < nx) (h0:∀ H',(∀ i,i < nx→H' i=H i)→I [] H' (nx + 3)) :
    Abs.Fn Try.prog 117 [.yld y,.ptr kb 1 0,.ptr sb 1 0] H nx fun _ H' nx'=>I (bx s k) H' nx':=by
 refine Abs.Fn.of_c2 follows zF (Nat.le_of_ble_eq_true rfl) ?_
 simp only [Ac,cO,cG,cN,cM,cD,cF,cB,aF,aW]
 (have zz:=@gk; repeat' (first|refine zW ?_|apply a_n|refine zO ?_|refine vY ?_|refine alY ?_|refine bxY ?_|refine stY ?_|fail)) <;> (try clear zz)
 generalize hH:aq (aq (aq H nx [.yld y]) (nx + 1) [.nilf]) (nx + 1) (bm [.nilf] 0 [.func 118 [.ptr kb 1 0,.ptr nx 1 0,.ptr sb 1 0,.ptr (nx + 1) 1 0]])=H1
 have hfn:H1 (nx + 1)=some [.func 118 [.ptr kb 1 0,.ptr nx 1 0,.ptr sb 1 0,.ptr (nx + 1) 1 0]]:=by rw [← hH,ai]; rfl
 have hfk:H1 kb=some [.int .i64 k]:=by rw [← hH,ag (by omega),ag (by omega),ag (by omega)]; exact gk
 have hfy:H1 nx=some [.yld y]:=by rw [← hH,ag (by omega),ag (by omega),ai]
 have hfo:∀ i,i < nx→H1 i=H i:=fun i hi=>by rw [← hH,ag (by omega),ag (by omega),ag (by omega)]
 clear hH
 refine oO kb (nx + 1) hfk hfn (by omega) fun S0 hS1 hS2 hsub=>?_
 (have zz:=aI @hS1 @hS2; repeat' (first|apply a_n|refine zO ?_|refine nvY ?_|fail)) <;> (try clear zz)
 refine iv ?_
 refine xl (k1:=.i64) (k2:=.i64) (n:=0) (m:=k) rfl ev0 ev0 (Int.le_refl _) (by omega) (by omega) (by omega) ?_
 refine n9 ⟨hsub _ (by rw [ag (by omega)]; exact hfk) (by rw [ag (by omega)]; exact hfn),?_⟩
 refine kw ?_
 have hz:(a5 (AV.agg [AV.int .i64 0,AV.int .i64 0]) k).length=k * 2:=by simp [a5,AV.cells]
 have hih:=yM (y:=y) (N:=(bx s k).length) (lo:=nx) (kb:=kb) (sb:=sb) (k:=k) (s:=s) hs hk I hp stab rnd k [] 0 [] (aq H1 (nx + 2) (a5 (AV.agg [AV.int .i64 0,AV.int .i64 0]) k)) (nx + 3) hk0 (by simp) (by simp) (Nat.zero_le _) (h0 _ (fun i hi=>by rw [ag (by omega)]; exact hfo i hi)) (by rw [ag (by omega)]; exact hfy) (by rw [ag (by omega)]; exact hfn) ⟨_,ai,hz,rfl⟩
 refine aS ev0 (by ((try simp only [bQ,ZA,reduceEqDiff,↓reduceIte,reduceAdd,reduceLeDiff]); (try with_reducible rfl)); rfl) hih ?_
 rintro r H4 nx4 ⟨rfl,f1,-⟩
 (have zz:=and_self; repeat' (first|apply a_n|refine zO ?_|apply xo|refine ak rfl ?_|fail)) <;> (try clear zz)
 rw [List.drop_zero,List.nil_append,show (fun x:Spx=>([]:Spx) ++ x)=id from rfl,List.map_id] at f1
 exact f1
theorem qO {kb sb k:Nat} {s:Spx} {H:Hp} {nx:Nat} (hs:s.length ≤ 8) (hk0:0 < k) (hk:k ≤ 1000) (gk:H kb=some [.int .i64 k]) (gs:H sb=some [ax s]) (lk:kb < nx) (ls:sb < nx) :
    Abs.Fn Try.prog 116 [.esl,.func 117 [.ptr kb 1 0,.ptr sb 1 0]] H nx fun r H' nx'=>Row H' 1 r ((bx s k).map ax)∧nx ≤ nx'∧∀ b',cH r=some b'→nx ≤ b'∧b' < nx':=by
 refine Abs.Fn.of_c2 follows zP (Nat.le_of_ble_eq_true rfl) ?_
 simp only [zj,cO,cG,cN,cM,cD,cF,cB,aF,aW]
 (have zz:=and_self; repeat' (first|refine zW ?_|apply a_n|refine zO ?_|refine vY ?_|refine bxY ?_|fail)) <;> (try clear zz)
 refine jR (nx + 1) (nx + 2) rfl rfl ev0 (fun c0 cj hy=>?_)
 refine Abs.Fn.mono (va (nx:=nx + 2) (kb:=kb) (sb:=sb) (k:=k) (s:=s) (by omega) hk0 hk (fun S H' nx'=>nx + 5 ≤ nx'∧H' kb=some [.int .i64 k]∧H' sb=some [ax s]∧H' (nx + 1)=some [c0]∧∃ sv,H' nx=some [sv]∧Row H' 1 sv (S.map ax)∧∀ b',cH sv=some b'→nx + 5 ≤ b'∧b' < nx') ?_ ?_ ?_ ?_ ?_ ?_) ?_
 ·rintro S H' nx' ⟨h1,h2,h3,h4,h5⟩
  exact ⟨h2,h3,by omega,by omega,by omega⟩
 ·rintro S H1 H2 a c ⟨h1,h2,h3,h4,sv,h5,h6,h7⟩ hac hs'
  refine ⟨by omega,(hs' _ (by omega) (by omega)).trans h2,(hs' _ (by omega) (by omega)).trans h3,(hs' _ (by omega) (by omega)).trans h4,sv,(hs' _ (by omega) (by omega)).trans h5,h6.same (fun b' hb'=>hs' _ (h7 b' hb').2 (by have:=h7 b' hb'; omega)),fun b' hb'=>⟨(h7 b' hb').1,by have:=h7 b' hb'; omega⟩⟩
 ·rintro S f H' nx' ⟨h1,h2,h3,h4,sv,h5,h6,h7⟩ hfl hf0 hSN
  have h4':aq H' nx' (cX f) (nx + 1)=some [c0]:=by rw [ag (by omega)]; exact h4
  refine hy _ _ _ _ h4' rfl ?_
  clear hy
  (have zz:=and_self; repeat' (first|apply a_n|refine zO ?_|refine vZ ?_|fail)) <;> (try clear zz)
  refine ⟨h4',?_⟩
  have hS70:=Nat.lt_of_lt_of_le hSN (oV (k:=k) hs)
  have hd:bV (aq H' nx' (cX f)) (nx + 1) nx'=some (cX f):=by rw [b8 (by omega),ai]
  have hdo:∀ x,x < nx'→x ≠ nx + 1→bV (aq H' nx' (cX f)) (nx + 1) x=H' x:=fun x a b=>by rw [b8 b,ag (by omega)]
  generalize bV (aq H' nx' (cX f)) (nx + 1)=H1 at *
  refine fQ ?_
  refine sU (only nx' (cX f)) (bV H1 nx') [(2,.ptr nx 1 0),(5,ax f)] (Fz.one hd) ⟨.inl rfl,.inr (yO (s:=.msl nx' (k * 2) 2 0 k) (by rw [← hfl]; exact Row.box nx' f.length (cX f) lC (fk f))),trivial⟩ ?_
  have he:∀ x,x < nx'→x ≠ nx + 1→bV H1 nx' x=H' x:=fun x a b=>by rw [b8 (by omega)]; exact hdo x a b
  have g5:bV H1 nx' nx=some [sv]:=(he nx (by omega) (by omega)).trans h5
  clear hd hdo
  generalize bV H1 nx'=H2 at *
  (have zz:=aI @g5 (aI @aB @aw); repeat' (first|apply a_n|refine zO ?_|refine vY ?_|refine blY ?_|fail)) <;> (try clear zz)
  refine hJ rfl ev0 (h6.same fun b' hb'=>?_) ev0 dY rfl rfl Nat.one_pos (by rw [List.length_map]; omega) (by rw [List.length_map]; omega) ?_
  ·have:=h7 b' hb'
   rw [ag (by omega)]; exact he _ (by omega) (by omega)
  rintro sv' H3 nx3 r1 r2 r3 r4 r5
  have zs:∀ x,x < nx + 5→cH sv ≠ some x:=fun x hx e=>by have:=h7 x e; omega
  have z:∀ x,x < nx'→x ≠ nx + 1→cH sv ≠ some x→H3 x=H' x:=fun x a1 a2 a3=>(r4 x (by omega) a3).trans (by rw [ag (by omega)]; exact he x a1 a2)
  have g6:H3 nx=some [sv]:=(z nx (by omega) (by omega) (zs _ (by omega))).trans h5
  obtain ⟨q1,q2⟩:=r1.one
  (have zz:=aI @g6 (aI @q1 @q2); repeat' (first|apply a_n|refine zO ?_|refine stY ?_|fail)) <;> (try clear zz)
  have w:∀ x,x ≠ nx→x ≠ nx + 1→aq (aq H3 nx (bm [sv] 0 [sv'])) (nx + 1) [c0] x=H3 x:=fun x a1 a2=>by rw [ag a2,ag a1]
  have u7:∀ b',cH sv'=some b'→nx + 5 ≤ b'∧b' < nx3:=fun b' hb'=>by
   rcases r5 b' hb' with e | ⟨e1,e2⟩
   ·have:=h7 b' e; omega
   ·omega
  refine ⟨rfl,⟨by omega,?_,?_,ai,sv',?_,?_,u7⟩,by omega,fun x x1 x2=>?_⟩
  ·rw [w _ (by omega) (by omega),z _ (by omega) (by omega) (zs _ (by omega)),h2]
  ·rw [w _ (by omega) (by omega),z _ (by omega) (by omega) (zs _ (by omega)),h3]
  ·rw [ag (by omega),ai]; rfl
  ·rw [List.map_append]
   exact r1.same (fun b' hb'=>w b' (by have:=u7 b' hb'; omega) (by have:=u7 b' hb'; omega))
  ·rw [w _ (by omega) (by omega),z _ (by omega) (by omega) (zs _ (by omega))]
 ·rw [ag (by omega),ag (by omega)]; exact gk
 ·omega
 ·intro H' hH'
  refine ⟨by omega,?_,?_,?_,.esl,?_,.nil,fun b' hb'=>(by cases hb')⟩
  ·rw [hH' _ (by omega),ag (by omega),ag (by omega),gk]
  ·rw [hH' _ (by omega),ag (by omega),ag (by omega),gs]
  ·rw [hH' _ (by omega),ai]
  ·rw [hH' _ (by omega),ag (by omega),ai]
 ·rintro r H' nx' ⟨h1,h2,h3,h4,sv,h5,h6,h7⟩
  refine .inl ⟨h4,?_⟩
  (have zz:=@h5; repeat' (first|refine zW ?_|apply a_n|refine zO ?_|refine vY ?_|refine ak rfl ?_|refine r1Y ?_|fail)) <;> (try clear zz)
  exact ⟨h6.same (fun b' hb'=>b8 (by have:=h7 b' hb'; omega)),by omega,fun b' hb'=>by have:=h7 b' hb'; omega⟩
end Go.Proofs.Ytfcenbapjhecfaa
namespace Go.Proofs.Ytfcenbapjhecfaa
open Go Go.Abs
end Go.Proofs.Ytfcenbapjhecfaa
namespace Go.Proofs.Ytfcenbapjhecfaa
open Go Go.Abs
attribute [local irreducible] aC ah aU aO aH aJ az aK aP bb Go.Abs.Fn aM Go.Abs.Pure ar aD Yl
end Go.Proofs.Ytfcenbapjhecfaa
namespace Go.Proofs.Ytfcenbapjhecfaa
open Go Go.Abs
def lR (s:Spx) (k:Int):List Spx × Int:=if be s ≠ 0 then ([],be s) else if k < 1 ∨ (s.length:Int) < k then ([],2) else (bx s k.toNat,0)
theorem ci {H:Hp} {s:AV} {l:List Spx} {e f:Int} (h:Snap H s (au l)) (he:e=f):Snap H (.tup [s,.int .i64 e]) (.tup [au l,.int .i64 f]):=by
 subst he; exact eR (am h (am (.int _ _) aa))
attribute [local irreducible] aC ah aU aO aH aJ az aK aP bb Go.Abs.Fn aM Go.Abs.Pure ar aD Yl
theorem vt (s:Spx) (k:Nat) (H:Hp) (nx:Nat):Abs.Fn Try.prog 110 [ax s,.int .i64 k] H nx fun r H' nx'=>r=.func 117 [.ptr (nx + 1) 1 0,.ptr nx 1 0]∧H'=aq (aq H nx [ax s]) (nx + 1) [.int .i64 k]∧nx'=nx + 2:=by
 refine Abs.Fn.of_c2 follows zo (Nat.le_of_ble_eq_true rfl) ?_
 simp only [yV,cO,cG,cN,cM,cD,cF,cB,aF,aW]
 (have zz:=aI @aB @aw; repeat' (first|refine zW ?_|apply a_n|refine zO ?_|refine vY ?_|refine bxY ?_|refine ak rfl ?_|refine r1Y ?_|fail)) <;> (try clear zz)
 exact ⟨rfl,rfl,rfl⟩
theorem uk {kb sb k:Nat} {s:Spx} {H:Hp} {nx:Nat} (hs:s.length ≤ 8) (hk0:0 < k) (hk:k ≤ 1000) (gk:H kb=some [.int .i64 k]) (gs:H sb=some [ax s]) (lk:kb < nx) (ls:sb < nx) :
    Abs.Fn Try.prog 109 [.func 117 [.ptr kb 1 0,.ptr sb 1 0]] H nx fun r H' nx'=>Row H' 1 r ((bx s k).map ax)∧nx ≤ nx':=by
 refine Abs.Fn.of_c2 follows y9 (Nat.le_of_ble_eq_true rfl) ?_
 simp only [zJ,cO,cG,cN,cM,cD,cF,cB,aF,aW]
 (have zz:=and_self; repeat' (first|refine zW ?_|apply a_n|refine zO ?_|refine vY ?_|fail)) <;> (try clear zz)
 refine aS ev0 ev0 (qO hs hk0 hk gk gs lk ls) ?_
 rintro r H1 nx1 ⟨r1,r2,r3⟩
 obtain ⟨q1,q2⟩:=r1.one
 (have zz:=aI @q1 @q2; repeat' (first|apply a_n|refine zO ?_|refine vY ?_|refine ak rfl ?_|refine r1Y ?_|fail)) <;> (try clear zz)
 exact ⟨r1,r2⟩
theorem uZ (s:Spx) (k:Int) (hs:Shn s):Pure Try.prog 95 [ax s,.int .i64 k] (.tup [au (lR s k).1,.int .i64 (lR s k).2]):=by
 refine Pure.of_c2 follows A8 (Nat.le_of_ble_eq_true rfl) ?_
 simp only [b95,cO,cG,cN,cM,cD,cF,cB,aF,aW]
 have hc:=ju s hs
 unfold lR
 by_cases he:be s=0
 rotate_left
 ·rw [if_pos he]
  have z:decide (be s ≠ 0)=true:=decide_eq_true he
  (have zz:=@z; repeat' (first|refine zW ?_|apply a_n|apply a_r|refine zO ?_|refine vY ?_|refine cY ?_ (hp:=hc) (hs:=by (first | refine ac ?_ rfl | apply ae); (repeat' (first | exact aa | apply ao | apply af | exact aA _)); first | done | fail)|refine cTY ?_|refine ak rfl ?_|refine r2Y ?_|fail)) <;> (try clear zz)
  exact ci (.eslsl _) rfl
 rw [if_neg (fun h=>h he)]
 rw [he] at hc
 obtain ⟨p1,p2,p3,p4⟩:=cz he
 have z0:decide ((0:Int) ≠ 0)=false:=rfl
 by_cases hk:k < 1 ∨ (s.length:Int) < k
 ·rw [if_pos hk]
  (have zz:=aI @z0 @ap; repeat' (first|refine zW ?_|apply a_n|apply a_r|refine zO ?_|refine vY ?_|refine cY ?_ (hp:=hc) (hs:=by (first | refine ac ?_ rfl | apply ae); (repeat' (first | exact aa | apply ao | apply af | exact aA _)); first | done | fail)|refine gTY ?_|refine gFY ?_|refine cTY ?_|refine cFY ?_|(refine zGY ?_ ?_ <;> (intro _hg; try (exfalso; omega)))|refine ak rfl ?_|refine r2Y ?_|fail)) <;> (try clear zz)
  all_goals first | exact ci (.eslsl _) rfl | (exfalso; omega)
 rw [if_neg hk]
 obtain ⟨n,rfl⟩:∃ n:Nat,k=n:=⟨k.toNat,by omega⟩
 rw [Int.toNat_natCast]
 (have zz:=aI @z0 @ap; repeat' (first|refine zW ?_|apply a_n|refine zO ?_|refine vY ?_|refine cY ?_ (hp:=hc) (hs:=by (first | refine ac ?_ rfl | apply ae); (repeat' (first | exact aa | apply ao | apply af | exact aA _)); first | done | fail)|refine gTY ?_|refine cFY ?_|(refine zGY ?_ ?_ <;> (intro _hg; try (exfalso; omega)))|fail)) <;> (try clear zz)
 refine aS ev0 ev0 (vt s n _ _) ?_
 rintro _ H1 nx1 ⟨rfl,rfl,rfl⟩
 refine aS ev0 ev0 (uk (kb:=0 + 1) (sb:=0) (k:=n) (s:=s) p2 (by omega) (by omega) ai (by rw [ag (by omega),ai]) (by omega) (by omega)) ?_
 rintro r H2 nx2 ⟨r1,r2⟩
 obtain ⟨q1,q2⟩:=r1.one
 (have zz:=aI @q1 @q2; repeat' (first|apply a_n|refine zO ?_|refine vY ?_|refine ak rfl ?_|refine r2Y ?_|fail)) <;> (try clear zz)
 exact ci (gI r1) rfl
end Go.Proofs.Ytfcenbapjhecfaa
namespace Go.Proofs.Ytfcenbapjhecfaa
open Go Go.Abs
attribute [local irreducible] aC ah aU aO aH aJ az aK aP bb Go.Abs.Fn aM Go.Abs.Pure ar aD Yl
end Go.Proofs.Ytfcenbapjhecfaa
namespace Go.Proofs.Ytfcenbapjhecfaa
open Go Go.Abs
attribute [local irreducible] aC ah aU aO aH aJ az aK aP bb Go.Abs.Fn aM Go.Abs.Pure ar aD Yl
end Go.Proofs.Ytfcenbapjhecfaa
namespace Go.Proofs.Ytfcenbapjhecfaa
open Go Go.Abs
theorem rG {l:Spx} {k:Nat} (h:k ≤ l.length):ip 2 (ax l) (some (.int .i64 k)) none none=some (ax (l.drop k)):=fI h
attribute [local irreducible] aC ah aU aO aH aJ az aK aP bb Go.Abs.Fn aM Go.Abs.Pure ar aD Yl
end Go.Proofs.Ytfcenbapjhecfaa
namespace Go.Proofs.Ytfcenbapjhecfaa
open Go Go.Abs
open Nat (reduceEqDiff reduceAdd reduceLeDiff)
def iV (c:List Spx) (k:Nat):List Spx:=nw aN (c.flatMap fun s=>bx s k)
theorem tJ {c:List Spx} {k i:Nat} (hi:i < c.length):(c.take (i + 1)).flatMap (fun s=>bx s k)=(c.take i).flatMap (fun s=>bx s k) ++ bx (c.getD i default) k:=by
 rw [cR hi,List.flatMap_append]; simp
theorem iS {k:Nat}:∀ {c:List Spx},(∀ s ∈ c,s.length ≤ 8)→(c.flatMap fun s=>bx s k).length ≤ 70 * c.length
 | [],_=>by simp
 | s :: c,h=>by
  rw [List.flatMap_cons,List.length_append,List.length_cons]
  have:=oV (l:=s) (k:=k) (h s List.mem_cons_self)
  have:=iS (k:=k) (c:=c) (fun t ht=>h t (List.mem_cons_of_mem _ ht))
  omega
theorem i7 {c:List Spx} {k:Nat} {s:Spx}:s ∈ c.flatMap (fun s=>bx s k) ↔ ∃ t ∈ c,s ∈ bx t k:=by rw [List.mem_flatMap]
def dQ (c:List Spx) (k:Int):List Spx × Int:=if bo c ≠ 0 then ([],bo c) else if k < 1 ∨ 8 < k then ([],2) else (iV c k.toNat,0)
attribute [local irreducible] aC ah aU aO aH aJ az aK aP bb Go.Abs.Fn aM Go.Abs.Pure ar aD Yl
end Go.Proofs.Ytfcenbapjhecfaa
namespace Go.Proofs.Ytfcenbapjhecfaa
open Go Go.Abs
open Nat (reduceEqDiff reduceAdd reduceLeDiff)
def d6:Nat→Spx→List Int
 | 0,_=>[]
 | n + 1,[]=>(-1) :: 0 :: d6 n []
 | n + 1,v :: l=>v.color :: v.label :: d6 n l
theorem js:∀ {n:Nat} {s:Spx},(d6 n s).length=2 * n
 | 0,_=>rfl
 | n + 1,[]=>by show (d6 n []).length + 1 + 1=_; rw [js]; omega
 | n + 1,v :: l=>by show (d6 n l).length + 1 + 1=_; rw [js]; omega
theorem pK:∀ {n:Nat} {s t:Spx},s.length ≤ n→t.length ≤ n→(∀ v ∈ s,0 ≤ v.color)→(∀ v ∈ t,0 ≤ v.color)→d6 n s=d6 n t→s=t
 | 0,[],[],_,_,_,_,_=>rfl
 | 0,_ :: _,_,h,_,_,_,_=>absurd h (by simp)
 | 0,[],_ :: _,_,h,_,_,_=>absurd h (by simp)
 | n + 1,[],[],_,_,_,_,_=>rfl
 | n + 1,[],w :: m,_,_,_,h2,e=>by
  have:(-1:Int)=w.color:=(List.cons.inj e).1
  have:=h2 w List.mem_cons_self
  omega
 | n + 1,v :: l,[],_,_,h1,_,e=>by
  have:v.color=(-1:Int):=(List.cons.inj e).1
  have:=h1 v List.mem_cons_self
  omega
 | n + 1,v :: l,w :: m,hl,hm,h1,h2,e=>by
  obtain ⟨e1,e2⟩:=List.cons.inj e
  obtain ⟨e2,e3⟩:=List.cons.inj e2
  have:=pK (n:=n) (by simp at hl; omega) (by simp at hm; omega) (fun x hx=>h1 x (List.mem_cons_of_mem _ hx)) (fun x hx=>h2 x (List.mem_cons_of_mem _ hx)) e3
  rw [this,iP.2 ⟨e1,e2⟩]
def wd (x:List Int):AV:=.agg (x.map (AV.int .i64))
theorem uL (x:List Int):Dat (wd x):=Dat.agg (by
 induction x with
 | nil=>exact DatL.nil
 | cons a l ih=>exact DatL.cons .int ih)
theorem si:∀ {n:Nat} {s:Spx},s.length ≤ n→cX s ++ ((d6 n []).map (AV.int .i64)).drop (s.length * 2)=(d6 n s).map (AV.int .i64)
 | n,[],_=>by simp [cX]
 | 0,_ :: _,h=>absurd h (by simp)
 | n + 1,v :: l,h=>by
  have:=si (n:=n) (s:=l) (by simp at h; omega)
  show [AV.int .i64 v.color,AV.int .i64 v.label] ++ cX l ++ _=AV.int .i64 v.color :: AV.int .i64 v.label :: (d6 n l).map (AV.int .i64)
  rw [← this,List.length_cons,show (l.length + 1) * 2=l.length * 2 + 1 + 1 by omega]
  rfl
def kc (k:Nat):List AV:=(d6 k [] ++ List.replicate (2 * (8 - k)) 0).map (AV.int .i64)
attribute [local irreducible] aC ah aU aO aH aJ az aK aP bb Go.Abs.Fn aM Go.Abs.Pure ar aD Yl
theorem wY (s:Spx) (h1:1 ≤ s.length) (hs:s.length ≤ 8):Pure Try.prog 96 [ax s] (wd (d6 8 s)):=by
 refine Pure.of_c2 follows AS (Nat.le_of_ble_eq_true rfl) ?_
 simp only [b96,cO,cG,cN,cM,cD,cF,cB,aF,aW]
 have hn:dL (ax s)=some s.length:=by unfold ax eV; simp [dL]
 have hput:=si (n:=8) (s:=s) hs
 (have zz:=and_self; repeat' (first|refine zW ?_|apply a_n|refine zO ?_|refine vY ?_|refine alY ?_|fail)) <;> (try clear zz)
 refine bk (X:=Nat) (fun k=>[(0,ax s),(2,.ptr 0 16 0),(3,.ptr 1 16 0),(5,.int .i64 k)]) (fun k H nx=>k ≤ 8∧H 0=some (kc 0)∧H 1=some (kc k)) (fun k=>8 - k) 0 ⟨Nat.zero_le _,by rw [ag (by omega),ai]; rfl,ai⟩ (by (iterate 4 refine And.intro rfl ?_); trivial) ?_
 rintro k H nx ⟨hk,g0,g1⟩
 rcases (by omega:k=8 ∨ k=0 ∨ k=1 ∨ k=2 ∨ k=3 ∨ k=4 ∨ k=5 ∨ k=6 ∨ k=7) with rfl | rfl | rfl | rfl | rfl | rfl | rfl | rfl | rfl
 ·(have zz:=aI @g0 @g1; repeat' (first|refine zW ?_|apply a_n|apply a_x|refine zO ?_|refine vY ?_|(refine zGY ?_ ?_ <;> (intro _hg; try (exfalso; omega)))|fail)) <;> (try clear zz)
  refine xK rfl g1 rfl rfl ?_
  (have zz:=and_self; repeat' (first|apply a_n|refine zO ?_|refine vY ?_|fail)) <;> (try clear zz)
  refine xC (n:=s.length) (H':=aq H 1 ((d6 8 s).map (AV.int .i64))) ?_ ?_
  ·((try simp only [bQ,ZA,reduceEqDiff,↓reduceIte,reduceAdd,reduceLeDiff]); (try with_reducible rfl))
   have htr:nW s.length (ax s)=ax s:=by unfold ax eV; simp [nW]; exact List.take_of_length_le (by simp)
   have hmin:min s.length 8=s.length:=Nat.min_eq_left hs
   have hal:dL (.msl 1 16 2 0 8)=some 8:=rfl
   simp only [kF,hal,hn,hmin,if_neg (show ¬ s.length=0 by omega),g1,htr,qg]
   rw [if_pos (by refine ⟨?_,?_,?_,?_⟩ <;> first | rfl | trivial | omega | exact gL s)]
   have:bm (kc 8) 0 (cX s)=(d6 8 s).map (AV.int .i64):=by
    rw [← hput]
    simp only [bm,List.take_zero,List.nil_append,Nat.zero_add,fk]
    rfl
   rw [this]
  ·have hl:((d6 8 s).map (AV.int .i64)).length=16:=by rw [List.length_map,js]
   have g1':aq H 1 ((d6 8 s).map (AV.int .i64)) 1=some ((d6 8 s).map (AV.int .i64)):=ai
   have g0':aq H 1 ((d6 8 s).map (AV.int .i64)) 0=some (kc 0):=by rw [ag (by omega)]; exact g0
   have hl0:(kc 0).length=16:=rfl
   unfold wd
   have ht:((d6 8 s).map (AV.int .i64)).take 16=(d6 8 s).map (AV.int .i64):=List.take_of_length_le (by omega)
   have hd:=uL (d6 8 s)
   unfold wd at hd
   have hfl:AV.ones ((d6 8 s).map (AV.int .i64))=true:=by
    unfold AV.ones
    rw [List.all_eq_true]
    intro x hx
    obtain ⟨y,_,rfl⟩:=List.mem_map.1 hx
    rfl
   have hlp:bm (kc 0) 0 ((d6 8 s).map (AV.int .i64))=(d6 8 s).map (AV.int .i64):=by
    simp only [bm,List.take_zero,List.nil_append,Nat.zero_add,hl]
    rw [List.drop_of_length_le (by decide),List.append_nil]
   generalize (d6 8 s).map (AV.int .i64)=K at *
   (have zz:=aI @g0' (aI @g1' (aI @hl (aI @hl0 @ht))); repeat' (first|refine zW ?_|apply a_n|refine zO ?_|refine vY ?_|fail)) <;> (try clear zz)
   refine yw (v:=.agg K) (cs:=kc 0) (vs:=K) (b:=0) (n:=16) (off:=0) rfl ev0 ev0 g0' rfl hfl hl0 hl (by omega) ?_
   rw [hlp]
   (have zz:=aI @hl @ht; repeat' (first|apply a_n|refine zO ?_|refine ak rfl ?_|refine r1Y ?_|fail)) <;> (try clear zz)
   exact hd _
 ·(have zz:=aI @g0 @g1; repeat' (first|refine zW ?_|apply a_n|refine zO ?_|refine vY ?_|(refine zGY ?_ ?_ <;> (intro _hg; try (exfalso; omega)))|fail)) <;> (try clear zz)
  refine ig (r:=.ptr 1 16 0) rfl rfl rfl ?_
  have hl:(kc 0).length=16:=rfl
  (have zz:=aI @g1 @hl; repeat' (first|apply a_n|refine zO ?_|refine vY ?_|refine stY ?_|fail)) <;> (try clear zz)
  exact ⟨1,by omega,⟨by omega,by rw [ag (by omega)]; exact g0,by rw [ai]; rfl⟩,by (iterate 4 refine And.intro rfl ?_); trivial⟩
 ·(have zz:=aI @g0 @g1; repeat' (first|refine zW ?_|apply a_n|refine zO ?_|refine vY ?_|(refine zGY ?_ ?_ <;> (intro _hg; try (exfalso; omega)))|fail)) <;> (try clear zz)
  refine ig (r:=.ptr 1 16 2) rfl rfl rfl ?_
  have hl:(kc 1).length=16:=rfl
  (have zz:=aI @g1 @hl; repeat' (first|apply a_n|refine zO ?_|refine vY ?_|refine stY ?_|fail)) <;> (try clear zz)
  exact ⟨2,by omega,⟨by omega,by rw [ag (by omega)]; exact g0,by rw [ai]; rfl⟩,by (iterate 4 refine And.intro rfl ?_); trivial⟩
 ·(have zz:=aI @g0 @g1; repeat' (first|refine zW ?_|apply a_n|refine zO ?_|refine vY ?_|(refine zGY ?_ ?_ <;> (intro _hg; try (exfalso; omega)))|fail)) <;> (try clear zz)
  refine ig (r:=.ptr 1 16 4) rfl rfl rfl ?_
  have hl:(kc 2).length=16:=rfl
  (have zz:=aI @g1 @hl; repeat' (first|apply a_n|refine zO ?_|refine vY ?_|refine stY ?_|fail)) <;> (try clear zz)
  exact ⟨3,by omega,⟨by omega,by rw [ag (by omega)]; exact g0,by rw [ai]; rfl⟩,by (iterate 4 refine And.intro rfl ?_); trivial⟩
 ·(have zz:=aI @g0 @g1; repeat' (first|refine zW ?_|apply a_n|refine zO ?_|refine vY ?_|(refine zGY ?_ ?_ <;> (intro _hg; try (exfalso; omega)))|fail)) <;> (try clear zz)
  refine ig (r:=.ptr 1 16 6) rfl rfl rfl ?_
  have hl:(kc 3).length=16:=rfl
  (have zz:=aI @g1 @hl; repeat' (first|apply a_n|refine zO ?_|refine vY ?_|refine stY ?_|fail)) <;> (try clear zz)
  exact ⟨4,by omega,⟨by omega,by rw [ag (by omega)]; exact g0,by rw [ai]; rfl⟩,by (iterate 4 refine And.intro rfl ?_); trivial⟩
 ·(have zz:=aI @g0 @g1; repeat' (first|refine zW ?_|apply a_n|refine zO ?_|refine vY ?_|(refine zGY ?_ ?_ <;> (intro _hg; try (exfalso; omega)))|fail)) <;> (try clear zz)
  refine ig (r:=.ptr 1 16 8) rfl rfl rfl ?_
  have hl:(kc 4).length=16:=rfl
  (have zz:=aI @g1 @hl; repeat' (first|apply a_n|refine zO ?_|refine vY ?_|refine stY ?_|fail)) <;> (try clear zz)
  exact ⟨5,by omega,⟨by omega,by rw [ag (by omega)]; exact g0,by rw [ai]; rfl⟩,by (iterate 4 refine And.intro rfl ?_); trivial⟩
 ·(have zz:=aI @g0 @g1; repeat' (first|refine zW ?_|apply a_n|refine zO ?_|refine vY ?_|(refine zGY ?_ ?_ <;> (intro _hg; try (exfalso; omega)))|fail)) <;> (try clear zz)
  refine ig (r:=.ptr 1 16 10) rfl rfl rfl ?_
  have hl:(kc 5).length=16:=rfl
  (have zz:=aI @g1 @hl; repeat' (first|apply a_n|refine zO ?_|refine vY ?_|refine stY ?_|fail)) <;> (try clear zz)
  exact ⟨6,by omega,⟨by omega,by rw [ag (by omega)]; exact g0,by rw [ai]; rfl⟩,by (iterate 4 refine And.intro rfl ?_); trivial⟩
 ·(have zz:=aI @g0 @g1; repeat' (first|refine zW ?_|apply a_n|refine zO ?_|refine vY ?_|(refine zGY ?_ ?_ <;> (intro _hg; try (exfalso; omega)))|fail)) <;> (try clear zz)
  refine ig (r:=.ptr 1 16 12) rfl rfl rfl ?_
  have hl:(kc 6).length=16:=rfl
  (have zz:=aI @g1 @hl; repeat' (first|apply a_n|refine zO ?_|refine vY ?_|refine stY ?_|fail)) <;> (try clear zz)
  exact ⟨7,by omega,⟨by omega,by rw [ag (by omega)]; exact g0,by rw [ai]; rfl⟩,by (iterate 4 refine And.intro rfl ?_); trivial⟩
 ·(have zz:=aI @g0 @g1; repeat' (first|refine zW ?_|apply a_n|refine zO ?_|refine vY ?_|(refine zGY ?_ ?_ <;> (intro _hg; try (exfalso; omega)))|fail)) <;> (try clear zz)
  refine ig (r:=.ptr 1 16 14) rfl rfl rfl ?_
  have hl:(kc 7).length=16:=rfl
  (have zz:=aI @g1 @hl; repeat' (first|apply a_n|refine zO ?_|refine vY ?_|refine stY ?_|fail)) <;> (try clear zz)
  exact ⟨8,by omega,⟨by omega,by rw [ag (by omega)]; exact g0,by rw [ai]; rfl⟩,by (iterate 4 refine And.intro rfl ?_); trivial⟩
end Go.Proofs.Ytfcenbapjhecfaa
namespace Go.Proofs.Ytfcenbapjhecfaa
open Go Go.Abs
attribute [local irreducible] aC ah aU aO aH aJ az aK aP bb Go.Abs.Fn aM Go.Abs.Pure ar aD Yl
end Go.Proofs.Ytfcenbapjhecfaa
namespace Go.Proofs.Ytfcenbapjhecfaa
open Go Go.Abs
open Nat (reduceEqDiff reduceAdd reduceLeDiff)
theorem s0 {H:Hp} {sz:Nat} {s:AV} {elems:List AV} (h:Row H sz s (elems.flatMap AV.cells)) (hc:∀ y ∈ elems,y.cells.length=sz) (hz:0 < sz) (hd:∀ y ∈ elems,∀ c ∈ y.cells,SnapF H c c):SnapF H s (.sl sz elems):=by
 obtain ⟨f1,f2⟩:=bZ elems hc
 generalize he:elems.flatMap AV.cells=cs at h
 cases h with
 | nil =>
  have:elems.length * sz=0:=by rw [← f1,he]; rfl
  have:elems=[]:=List.length_eq_zero_iff.1 (by
   rcases Nat.mul_eq_zero.1 this with h | h
   ·exact h
   ·omega)
  subst this; exact .eslsl sz
 | box b len cs hb hl =>
  have hlen:elems.length=len:=Nat.eq_of_mul_eq_mul_right hz (by rw [← f1,he,hl])
  refine .msl b (len * sz) sz 0 len cs elems hb hl (by omega) hlen hc (fun i j y a c hy hc' ha=>?_)
  have hj:j < sz:=by rw [← hc y (List.mem_of_getElem? hy)]; exact (List.getElem?_eq_some_iff.1 hc').1
  have key:∀ (l:List AV) (i j:Nat) (y c:AV),(∀ z ∈ l,z.cells.length=sz)→l[i]?=some y→y.cells[j]?=some c→j < sz→(l.flatMap AV.cells)[i * sz + j]?=some c:=by
   intro l
   induction l with
   | nil=>intro i j y c _ h; simp at h
   | cons x l ih =>
    intro i j y c hl hy hc hj
    rw [List.flatMap_cons]
    cases i with
    | zero =>
     simp at hy; subst hy
     rw [Nat.zero_mul,Nat.zero_add,List.getElem?_append_left (by rw [hl x (by simp)]; exact hj)]; exact hc
    | succ i =>
     rw [List.getElem?_append_right (by rw [hl x (by simp),Nat.add_mul]; omega),hl x (by simp)]
     have:=ih i j y c (fun z hz=>hl z (by simp [hz])) (by simpa using hy) hc hj
     rw [← this]; congr 1; rw [Nat.add_mul]; omega
  have:=key elems i j y c hc hy hc' hj
  rw [he,← Nat.zero_add (i * sz)] at this
  rw [this] at ha; cases ha
  exact hd y (List.mem_of_getElem? hy) a (List.mem_of_getElem? hc')
theorem lq {H:Hp} {s:AV} {l:Spx} (h:Row H 2 s (cX l)):SnapF H s (ax l):=by
 refine s0 (elems:=l.map bO) (by rw [r9]; exact h) (fun y hy=>?_) (by omega) (fun y hy c hx=>?_)
 ·obtain ⟨n,_,rfl⟩:=List.mem_map.1 hy; rfl
 ·obtain ⟨n,_,rfl⟩:=List.mem_map.1 hy
  simp only [bO,AV.cells,List.mem_cons,List.not_mem_nil,or_false] at hx
  rcases hx with rfl | rfl <;> exact .int _ _
attribute [local irreducible] aC ah aU aO aH aJ az aK aP bb Go.Abs.Fn aM Go.Abs.Pure ar aD Yl
theorem ue (l:Spx) (hl:l.length ≤ 1000000):de Try.prog 83 [ax l] (ax l):=by
 refine de.of_c2 follows zI (Nat.le_of_ble_eq_true rfl) ?_
 simp only [b83,cO,cG,cN,cM,cD,cF,cB,aF,aW]
 (have zz:=and_self; repeat' (first|refine zW ?_|apply a_n|refine zO ?_|refine vY ?_|fail)) <;> (try clear zz)
 have hn:dL (ax l)=some l.length:=by unfold ax eV; simp [dL]
 refine uT (k:=l.length) (by ((try simp only [bQ,ZA,reduceEqDiff,↓reduceIte,reduceAdd,reduceLeDiff]); (try with_reducible rfl)); exact hn) (fun h=>?_) (fun h=>?_) (fun h=>?_)
 ·(have zz:=and_self; repeat' (first|refine zW ?_|apply a_n|refine zO ?_|refine vY ?_|refine b0Y ?_|refine cFY ?_|fail)) <;> (try clear zz)
  refine pe rfl ev0 ev0 qg (gL _) (by omega) (by omega) ?_
  (have zz:=and_self; repeat' (first|apply a_n|refine zO ?_|refine vY ?_|refine ak rfl ?_|refine r1Y ?_|fail)) <;> (try clear zz)
  exact lq (Row.box _ l.length (cX l) ai (fk l))
 ·(have zz:=and_self; repeat' (first|refine zW ?_|apply a_n|apply a_r|refine zO ?_|refine vY ?_|refine cTY ?_|refine ak rfl ?_|refine r1Y ?_|fail)) <;> (try clear zz)
  obtain rfl:=List.length_eq_zero_iff.1 h
  exact .eslsl 2
 ·(have zz:=and_self; repeat' (first|refine zW ?_|apply a_n|refine zO ?_|refine vY ?_|refine b0Y ?_|refine cFY ?_|fail)) <;> (try clear zz)
  refine pe rfl ev0 ev0 qg (gL _) (by omega) (by omega) ?_
  (have zz:=and_self; repeat' (first|apply a_n|refine zO ?_|refine vY ?_|refine ak rfl ?_|refine r1Y ?_|fail)) <;> (try clear zz)
  exact lq (Row.box _ l.length (cX l) ai (fk l))
section
variable {g:Nat} {caps:List AV} {s:AV}
theorem yJ (hs:bI s=some (.int .i64 0)) {H:Hp} {nx:Nat}:Abs.Fn Try.prog 98 [s,.int .i64 0,.int .i64 0,.func g caps] H nx fun r H' nx'=>nx'=nx∧H'=H:=by
 refine Abs.Fn.of_c2 follows z7 (Nat.le_of_ble_eq_true rfl) ?_
 simp only [b98,cO,cG,cN,cM,cD,cF,cB,aF,aW]
 (have zz:=and_self; repeat' (first|refine zW ?_|apply a_n|refine zO ?_|refine vZ ?_|fail)) <;> (try clear zz)
 refine bk (X:=Unit) (fun x=>[(0,s),(1,.int .i64 0),(2,.int .i64 0),(3,.func g caps),(8,.int .i64 1)]) (fun x H' nx'=>H'=H∧nx'=nx) (fun x=>0) () ⟨rfl,rfl⟩ (by simp (disch:=omega) only [agr,ZG,reduceEqDiff,↓reduceIte,Int.zero_add,true_and]) ?_
 rintro _ _ _ ⟨rfl,rfl⟩
 (have zz:=and_self; repeat' (first|refine zW ?_|apply a_n|apply a_x|refine zO ?_|refine vZ ?_|(refine zGZ ?_ ?_ <;> (intro _hg; try (exfalso; omega)))|refine ak rfl ?_|fail)) <;> (try clear zz)
 exact ⟨rfl,rfl⟩
theorem yq (hs:bI s=some (.int .i64 0)) {H:Hp} {nx:Nat}:Abs.Fn Try.prog 89 [s,.int .i64 0,.int .i64 0,.int .i64 0,.func g caps] H nx fun r H' nx'=>nx'=nx∧H'=H:=by
 refine Abs.Fn.of_c2 follows zx (Nat.le_of_ble_eq_true rfl) ?_
 simp only [b89,cO,cG,cN,cM,cD,cF,cB,aF,aW]
 (have zz:=and_self; repeat' (first|refine zW ?_|apply a_n|refine zO ?_|refine vZ ?_|fail)) <;> (try clear zz)
 refine bk (X:=Unit) (fun x=>[(0,s),(1,.int .i64 0),(2,.int .i64 0),(3,.int .i64 0),(4,.func g caps)]) (fun x H' nx'=>H'=H∧nx'=nx) (fun x=>0) () ⟨rfl,rfl⟩ ag0 ?_
 rintro _ _ _ ⟨rfl,rfl⟩
 (have zz:=and_self; repeat' (first|refine zW ?_|apply a_n|refine zO ?_|refine vZ ?_|(refine zGZ ?_ ?_ <;> (intro _hg; try (exfalso; omega)))|fail)) <;> (try clear zz)
 refine aS ev0 ev0 (yJ hs) ?_
 rintro _ _ _ ⟨rfl,rfl⟩
 (have zz:=and_self; repeat' (first|apply a_n|apply a_r|refine zO ?_|refine ak rfl ?_|fail)) <;> (try clear zz)
 exact ⟨rfl,rfl⟩
theorem ji (hs:bI s=some (.int .i64 0)) {H:Hp} {nx:Nat}:Abs.Fn Try.prog 73 [s,.func g caps] H nx fun r H' nx'=>nx'=nx∧H'=H:=by
 refine Abs.Fn.of_c2 follows zl (Nat.le_of_ble_eq_true rfl) ?_
 simp only [b73,cO,cG,cN,cM,cD,cF,cB,aF,aW]
 have w8:IntKind.wrap .u64 0=0:=by decide
 (have zz:=aI @w8 @hs; repeat' (first|refine zW ?_|apply a_n|refine zO ?_|refine vZ ?_|fail)) <;> (try clear zz)
 refine aS ev0 (have zz:=@w8; evZ) yS ?_
 rintro _ _ _ ⟨rfl,rfl,rfl⟩
 (have zz:=and_self; repeat' (first|apply a_n|refine zO ?_|refine vZ ?_|fail)) <;> (try clear zz)
 refine aS ev0 ev0 (yq hs) ?_
 rintro _ _ _ ⟨rfl,rfl⟩
 (have zz:=and_self; repeat' (first|apply a_n|refine zO ?_|refine ak rfl ?_|fail)) <;> (try clear zz)
 exact ⟨rfl,rfl⟩
end
end Go.Proofs.Ytfcenbapjhecfaa
namespace Go.Proofs.Ytfcenbapjhecfaa
open Go Go.Abs
attribute [local irreducible] aC ah aU aO aH aJ az aK aP bb Go.Abs.Fn aM Go.Abs.Pure ar aD Yl
theorem yR:Cmp Try.prog ax aN (fun s=>Shn s) 40 [] where
 cells _:=rfl
 one _:=rfl
 dat x:=aA x
 dcaps x hx:=by cases hx
 run x y hx hy:=dP x y hx hy
 ord:=dK.ord
end Go.Proofs.Ytfcenbapjhecfaa
namespace Go.Proofs.Ytfcenbapjhecfaa
open Go Go.Abs
def K16:Type:={x:List Int // x.length=16}
instance:DecidableEq K16:=inferInstanceAs (DecidableEq {x:List Int // x.length=16})
def kK (s:Spx):K16:=⟨d6 8 s,by rw [js]⟩
def eK (x:K16):AV:=wd x.1
theorem lJ:∀ {n:Nat} {xs ys:List Int},xs.length=n→ys.length=n→bL (List.replicate n .int) (xs.map (AV.int .i64)) (ys.map (AV.int .i64))=some (decide (xs=ys))
 | 0,[],[],_,_=>rfl
 | 0,_ :: _,_,h,_=>absurd h (by simp)
 | 0,[],_ :: _,_,h=>absurd h (by simp)
 | n + 1,[],_,h,_=>absurd h (by simp)
 | n + 1,_ :: _,[],_,h=>absurd h (by simp)
 | n + 1,x :: xs,y :: ys,h1,h2=>by
  have ih:=lJ (n:=n) (xs:=xs) (ys:=ys) (by simpa using h1) (by simpa using h2)
  have e:(x == y)=decide (x=y):=rfl
  rw [List.replicate_succ,List.map_cons,List.map_cons]
  by_cases hxy:x=y
  ·subst hxy
   simp only [bL,eJ,if_true,e,decide_true,ih]
   simp
  ·simp only [bL,eJ,if_true,e,decide_eq_false hxy]
   simp [hxy]
theorem xW (a b:K16):jo (.st [.int,.int,.int,.int,.int,.int,.int,.int,.int,.int,.int,.int,.int,.int,.int,.int]) (eK a) (eK b)=some (decide (a=b)):=by
 show bL (List.replicate 16 .int) (a.1.map (AV.int .i64)) (b.1.map (AV.int .i64))=_
 rw [lJ a.2 b.2]
 congr 1
 exact decide_eq_decide.2 ⟨Subtype.ext,fun h=>congrArg Subtype.val h⟩
theorem wo (v:K16) (ks:List K16):bE (.st [.int,.int,.int,.int,.int,.int,.int,.int,.int,.int,.int,.int,.int,.int,.int,.int]) (eK v) (ks.map eK)=some (if v ∈ ks then some (ks.idxOf v) else none):=jO _ eK xW v ks
theorem sN (v:K16):eB (.st [.int,.int,.int,.int,.int,.int,.int,.int,.int,.int,.int,.int,.int,.int,.int,.int]) (eK v)=true:=by
 show (16 == (v.1.map (AV.int .i64)).length)=true
 rw [List.length_map,v.2]; rfl
def gr (s:Spx):Prop:=1 ≤ s.length∧s.length ≤ 8∧∀ v ∈ s,0 ≤ v.color
theorem yi {s t:Spx} (hs:gr s) (ht:gr t) (h:kK s=kK t):s=t:=pK hs.2.1 ht.2.1 hs.2.2 ht.2.2 (congrArg Subtype.val h)
theorem ye {O:List Spx} {f:Spx} (hO:∀ s ∈ O,gr s) (hf:gr f):kK f ∈ O.map kK ↔ f ∈ O:=by
 rw [List.mem_map]
 exact ⟨fun ⟨s,h1,h2⟩=>by rw [← yi (hO s h1) hf h2]; exact h1,fun h=>⟨f,h,rfl⟩⟩
theorem wL {s:Spx} (h:be s=0):gr s:=by
 obtain ⟨p1,p2,p3,p4⟩:=cz h
 refine ⟨p1,p2,fun v hv=>?_⟩
 have:=p4 v hv
 unfold dj at this
 simp only [Bool.and_eq_true,decide_eq_true_eq] at this
 exact this.1.1
theorem vH {s t:Spx} {k:Nat} (hs:gr s) (hk:1 ≤ k) (h:t ∈ bx s k):gr t:=by
 obtain ⟨h1,h2⟩:=cL.1 h
 exact ⟨by omega,Nat.le_trans h1.length_le hs.2.1,fun v hv=>hs.2.2 v (h1.subset hv)⟩
theorem kR {O L P:List Spx} (hp:L.Perm O) (hs:aZ aN 0 L.length L) (hn:O.Nodup) (hm:∀ s,s ∈ O ↔ s ∈ P):L=nw aN P:=by
 refine fF dK ?_ (lZ dK P) fun s=>by rw [hp.mem_iff,hm,jl]
 unfold bg
 rw [List.pairwise_iff_getElem]
 intro i j hi hj hij
 have h1:=hs i j (Nat.zero_le _) hij hj
 rw [show L.getD i default=L[i] by simp [List.getD,hi],show L.getD j default=L[j] by simp [List.getD,hj]] at h1
 rcases dK.tri L[i] L[j] with h | h | h
 ·exact h
 ·have:=(List.nodup_iff_pairwise_ne.1 (hp.nodup_iff.2 hn))
  exact absurd h ((List.pairwise_iff_getElem.1 this) i j hi hj hij)
 ·exact absurd h h1
end Go.Proofs.Ytfcenbapjhecfaa
namespace Go.Proofs.Ytfcenbapjhecfaa
open Go Go.Abs
section
variable {α:Type} {K:α→α→Int}
def oL (K:α→α→Int):Nat→List α→List α→List α
 | 0,_,_=>[]
 | _ + 1,[],b=>b
 | _ + 1,x :: a,[]=>x :: a
 | n + 1,x :: a,y :: b=>if K x y < 0 then x :: oL K n a (y :: b) else if K y x < 0 then y :: oL K n (x :: a) b else oL K n a b
def bz (K:α→α→Int) (a b:List α):List α:=oL K (a.length + b.length + 1) a b
theorem gQ:∀ (n m:Nat) (a b:List α),a.length + b.length < n→a.length + b.length < m→oL K n a b=oL K m a b
 | 0,_,_,_,h,_=>absurd h (by omega)
 | _ + 1,0,_,_,_,h=>absurd h (by omega)
 | _ + 1,_ + 1,[],b,_,_=>rfl
 | _ + 1,_ + 1,x :: a,[],_,_=>rfl
 | n + 1,m + 1,x :: a,y :: b,h1,h2=>by
  simp only [List.length_cons] at h1 h2
  simp only [oL]
  rw [gQ n m a (y :: b) (by simp only [List.length_cons]; omega) (by simp only [List.length_cons]; omega),gQ n m (x :: a) b (by simp only [List.length_cons]; omega) (by simp only [List.length_cons]; omega),gQ n m a b (by omega) (by omega)]
theorem jJ {b:List α}:bz K [] b=b:=rfl
theorem mz {a:List α}:bz K a []=a:=by cases a <;> rfl
theorem pG {x y:α} {a b:List α}:bz K (x :: a) (y :: b)=if K x y < 0 then x :: bz K a (y :: b) else if K y x < 0 then y :: bz K (x :: a) b else bz K a b:=by
 show oL K (a.length + 1 + (b.length + 1) + 1) (x :: a) (y :: b)=_
 simp only [oL]
 unfold bz
 rw [gQ (a.length + 1 + (b.length + 1)) (a.length + (y :: b).length + 1) a (y :: b) (by simp only [List.length_cons]; omega) (by simp only [List.length_cons]; omega),gQ (a.length + 1 + (b.length + 1)) ((x :: a).length + b.length + 1) (x :: a) b (by simp only [List.length_cons]; omega) (by simp only [List.length_cons]; omega),gQ (a.length + 1 + (b.length + 1)) (a.length + b.length + 1) a b (by omega) (by omega)]
theorem iR:∀ (n:Nat) (a b:List α),a.length + b.length ≤ n→(bz K a b).length ≤ a.length + b.length
 | _,[],b,_=>by rw [jJ]; simp
 | _,x :: a,[],_=>by rw [mz]; simp
 | 0,x :: a,y :: b,h=>by simp only [List.length_cons] at h; omega
 | n + 1,x :: a,y :: b,h=>by
  simp only [List.length_cons] at h ⊢
  rw [pG]
  have h1:=iR n a (y :: b) (by simp only [List.length_cons]; omega)
  have h2:=iR n (x :: a) b (by simp only [List.length_cons]; omega)
  have h3:=iR n a b (by omega)
  simp only [List.length_cons] at h1 h2
  split
  ·simp only [List.length_cons]; omega
  split
  ·simp only [List.length_cons]; omega
  ·omega
theorem gy (hK:LinK K):∀ (n:Nat) (a b:List α),a.length + b.length ≤ n→bg K a→bg K b→bg K (bz K a b)∧∀ z,z ∈ bz K a b ↔ (z ∈ a∧z ∉ b) ∨ (z ∈ b∧z ∉ a)
 | _,[],b,_,_,hb=>by rw [jJ]; exact ⟨hb,fun z=>by simp⟩
 | _,x :: a,[],_,ha,_=>by rw [mz]; exact ⟨ha,fun z=>by simp⟩
 | 0,x :: a,y :: b,h,_,_=>by simp only [List.length_cons] at h; omega
 | n + 1,x :: a,y :: b,h,ha,hb=>by
  simp only [List.length_cons] at h
  obtain ⟨a1,a2⟩:=List.pairwise_cons.1 ha
  obtain ⟨b1,b2⟩:=List.pairwise_cons.1 hb
  have irr:=fun v=>hK.ord.irr v
  rw [pG]
  by_cases g1:K x y < 0
  ·rw [if_pos g1]
   obtain ⟨h1,h2⟩:=gy hK n a (y :: b) (by simp only [List.length_cons]; omega) a2 hb
   have hxb:∀ z ∈ y :: b,K x z < 0:=fun z hz=>by
    rcases List.mem_cons.1 hz with rfl | hz
    ·exact g1
    ·exact hK.trans g1 (b1 z hz)
   refine ⟨List.pairwise_cons.2 ⟨fun z hz=>?_,h1⟩,fun z=>?_⟩
   ·rcases (h2 z).1 hz with ⟨q,_⟩ | ⟨q,_⟩
    ·exact a1 z q
    ·exact hxb z q
   ·rw [List.mem_cons,h2,List.mem_cons (a:=z) (b:=x)]
    by_cases hz:z=x
    ·subst hz
     have:z ∉ y :: b:=fun q=>irr _ (hxb z q)
     simp [this]
    ·simp [hz]
  rw [if_neg g1]
  by_cases g2:K y x < 0
  ·rw [if_pos g2]
   obtain ⟨h1,h2⟩:=gy hK n (x :: a) b (by simp only [List.length_cons]; omega) ha b2
   have hya:∀ z ∈ x :: a,K y z < 0:=fun z hz=>by
    rcases List.mem_cons.1 hz with rfl | hz
    ·exact g2
    ·exact hK.trans g2 (a1 z hz)
   refine ⟨List.pairwise_cons.2 ⟨fun z hz=>?_,h1⟩,fun z=>?_⟩
   ·rcases (h2 z).1 hz with ⟨q,_⟩ | ⟨q,_⟩
    ·exact hya z q
    ·exact b1 z q
   ·rw [List.mem_cons,h2,List.mem_cons (a:=z) (b:=y)]
    by_cases hz:z=y
    ·subst hz
     have:z ∉ x :: a:=fun q=>irr _ (hya z q)
     simp [this]
    ·simp [hz]
  rw [if_neg g2]
  obtain rfl:x=y:=by
   rcases hK.tri x y with q | q | q
   ·exact absurd q g1
   ·exact q
   ·exact absurd q g2
  obtain ⟨h1,h2⟩:=gy hK n a b (by omega) a2 b2
  refine ⟨h1,fun z=>?_⟩
  rw [h2]
  by_cases hz:z=x
  ·subst hz
   have q1:z ∉ a:=fun q=>irr _ (a1 z q)
   have q2:z ∉ b:=fun q=>irr _ (b1 z q)
   simp [q1,q2]
  ·simp [hz]
theorem gz (hK:LinK K) (h:α→Nat):∀ (n:Nat) (a b:List α),a.length + b.length ≤ n→((bz K a b).map h).sum % 2=((a.map h).sum + (b.map h).sum) % 2
 | _,[],b,_=>by rw [jJ]; simp
 | _,x :: a,[],_=>by rw [mz]; simp
 | 0,x :: a,y :: b,hl=>by simp only [List.length_cons] at hl; omega
 | n + 1,x :: a,y :: b,hl=>by
  simp only [List.length_cons] at hl
  rw [pG]
  by_cases g1:K x y < 0
  ·rw [if_pos g1,List.map_cons,List.sum_cons]
   have:=gz hK h n a (y :: b) (by simp only [List.length_cons]; omega)
   simp only [List.map_cons,List.sum_cons] at this ⊢
   omega
  rw [if_neg g1]
  by_cases g2:K y x < 0
  ·rw [if_pos g2,List.map_cons,List.sum_cons]
   have:=gz hK h n (x :: a) b (by simp only [List.length_cons]; omega)
   simp only [List.map_cons,List.sum_cons] at this ⊢
   omega
  rw [if_neg g2]
  obtain rfl:x=y:=by
   rcases hK.tri x y with q | q | q
   ·exact absurd q g1
   ·exact q
   ·exact absurd q g2
  have:=gz hK h n a b (by omega)
  simp only [List.map_cons,List.sum_cons] at this ⊢
  omega
theorem cS (hK:LinK K) {a b:List α} (ha:bg K a) (hb:bg K b):bg K (bz K a b):=(gy hK _ a b (Nat.le_refl _) ha hb).1
theorem di (hK:LinK K) {a b:List α} (ha:bg K a) (hb:bg K b) {z:α}:z ∈ bz K a b ↔ (z ∈ a∧z ∉ b) ∨ (z ∈ b∧z ∉ a):=(gy hK _ a b (Nat.le_refl _) ha hb).2 z
theorem fK {a b:List α}:(bz K a b).length ≤ a.length + b.length:=iR _ a b (Nat.le_refl _)
theorem uW (hK:LinK K) {a b:List α} (ha:bg K a) (hb:bg K b):bz K a b=bz K b a:=fF hK (cS hK ha hb) (cS hK hb ha) fun z=>by rw [di hK ha hb,di hK hb ha]; exact Or.comm
theorem tx (hK:LinK K) {a b c:List α} (ha:bg K a) (hb:bg K b) (hc:bg K c):bz K (bz K a b) c=bz K a (bz K b c):=fF hK (cS hK (cS hK ha hb) hc) (cS hK ha (cS hK hb hc)) fun z=>by
 rw [di hK (cS hK ha hb) hc,di hK ha (cS hK hb hc),di hK ha hb,di hK hb hc]
 by_cases h1:z ∈ a <;> by_cases h2:z ∈ b <;> by_cases h3:z ∈ c <;> simp [h1,h2,h3]
theorem uR (hK:LinK K) {a:List α} (ha:bg K a):bz K a a=[]:=List.eq_nil_iff_forall_not_mem.2 fun z hz=>by
 rcases (di hK ha ha).1 hz with ⟨h1,h2⟩ | ⟨h1,h2⟩ <;> exact h2 h1
end
def a7 (s:Spx):List Spx:=if s.length < 2 then [] else bx s (s.length - 1)
def fx (a:List Spx) (o:List Spx):List Spx:=a.foldl (fun o s=>bz aN o (a7 s)) o
def bq (a:List Spx):List Spx:=fx a []
theorem mZ {s:Spx} (h:bg bt s):bg aN (a7 s):=by
 unfold a7; split
 ·exact bg.nil
 ·exact gw h
theorem eI {s f:Spx}:f ∈ a7 s ↔ 2 ≤ s.length∧f.Sublist s∧f.length=s.length - 1:=by
 unfold a7; split
 ·exact ⟨fun h=>(by cases h),fun h=>absurd h.1 (by omega)⟩
 ·rw [cL]; exact ⟨fun h=>⟨by omega,h⟩,fun h=>h.2⟩
def ga (a:List Spx) (f:Spx):Nat:=(a.map fun s=>(a7 s).count f).sum
theorem nZ {s:Spx} {a:List Spx} {f:Spx}:ga (s :: a) f=(a7 s).count f + ga a f:=by unfold ga; rw [List.map_cons,List.sum_cons]
theorem tC {L:List Spx} (h:bg aN L) (f:Spx):L.count f % 2=1 ↔ f ∈ L:=by
 by_cases hf:f ∈ L
 ·have h1:=List.count_pos_iff.2 hf
  have h2:=List.nodup_iff_count.1 (h.nodup dK) f
  exact ⟨fun _=>hf,fun _=>by omega⟩
 ·rw [List.count_eq_zero_of_not_mem hf]; exact ⟨fun h=>absurd h (by decide),fun h=>absurd h hf⟩
theorem mf:∀ (a o:List Spx) (c:Spx→Nat),(∀ s ∈ a,bg bt s)→bg aN o→(∀ f,f ∈ o ↔ c f % 2=1)→bg aN (fx a o)∧∀ f,f ∈ fx a o ↔ (c f + ga a f) % 2=1
 | [],o,c,_,ho,hc=>⟨ho,fun f=>by show f ∈ o ↔ _; rw [hc]; rfl⟩
 | s :: a,o,c,hs,ho,hc=>by
  have hf:=mZ (hs s List.mem_cons_self)
  obtain ⟨h1,h2⟩:=mf a (bz aN o (a7 s)) (fun f=>c f + (a7 s).count f) (fun t ht=>hs t (List.mem_cons_of_mem _ ht)) (cS dK ho hf) fun f=>by
   rw [di dK ho hf,hc,← tC hf f]
   omega
  refine ⟨h1,fun f=>?_⟩
  show f ∈ fx a (bz aN o (a7 s)) ↔ _
  rw [h2,nZ,Nat.add_assoc]
theorem dq {a:List Spx} (hs:∀ s ∈ a,bg bt s):bg aN (bq a)∧∀ f,f ∈ bq a ↔ ga a f % 2=1:=by
 obtain ⟨h1,h2⟩:=mf a [] (fun _=>0) hs bg.nil fun f=>⟨fun h=>(by cases h),fun h=>absurd h (by decide)⟩
 exact ⟨h1,fun f=>by rw [show bq a=fx a [] from rfl,h2,Nat.zero_add]⟩
theorem dU {a:List Spx} (hs:∀ s ∈ a,bg bt s):bg aN (bq a):=(dq hs).1
theorem ot {a L:List Spx} (hs:∀ s ∈ a,bg bt s) (hL:bg aN L) (h:∀ f,f ∈ L ↔ ga a f % 2=1):L=bq a:=fF dK hL (dU hs) fun f=>by rw [h,(dq hs).2]
theorem iE {a:List Spx} (hs:∀ s ∈ a,bg bt s) {f:Spx} (hf:f ∈ bq a):∃ s ∈ a,f ∈ a7 s:=by
 have h:=((dq hs).2 f).1 hf
 have hp:0 < ga a f:=by omega
 clear h hf hs
 induction a with
 | nil=>exact absurd hp (Nat.lt_irrefl 0)
 | cons s a ih =>
  rw [nZ] at hp
  by_cases h:0 < (a7 s).count f
  ·exact ⟨s,List.mem_cons_self,List.count_pos_iff.1 h⟩
  ·obtain ⟨t,h1,h2⟩:=ih (by omega)
   exact ⟨t,List.mem_cons_of_mem _ h1,h2⟩
theorem rm {a:List Spx} (hs:∀ s ∈ a,bg bt s):∀ f ∈ bq a,bg bt f:=fun f hf=>by
 obtain ⟨s,h1,h2⟩:=iE hs hf
 exact (hs s h1).sublist (eI.1 h2).2.1
theorem nJ:∀ (a o:List Spx),(∀ s ∈ a,s.length ≤ 8)→(fx a o).length ≤ o.length + a.length * 70
 | [],o,_=>Nat.le_add_right _ _
 | s :: a,o,h=>by
  have h1:=nJ a (bz aN o (a7 s)) fun t ht=>h t (List.mem_cons_of_mem _ ht)
  have h2:=fK (K:=aN) (a:=o) (b:=a7 s)
  have h3:(a7 s).length ≤ 70:=by
   unfold a7; split
   ·exact Nat.zero_le _
   ·exact oV (h s List.mem_cons_self)
  show (fx a (bz aN o (a7 s))).length ≤ _
  rw [List.length_cons]; omega
theorem oE {a:List Spx} (h:∀ s ∈ a,s.length ≤ 8):(bq a).length ≤ a.length * 70:=by
 have:=nJ a [] h
 rw [List.length_nil,Nat.zero_add] at this
 exact this
theorem lL {a b:List Spx} (ha:bg aN a) (hb:bg aN b) (P:Spx→Prop) (h1:∀ s ∈ a,P s) (h2:∀ s ∈ b,P s):∀ s ∈ bz aN a b,P s:=fun s hs=>by
 rcases (di dK ha hb).1 hs with ⟨h,_⟩ | ⟨h,_⟩
 ·exact h1 s h
 ·exact h2 s h
theorem uU {a b:List Spx} (ha:bg aN a) (hb:bg aN b) (h1:∀ s ∈ a,bg bt s) (h2:∀ s ∈ b,bg bt s):bz aN (bq a) (bq b)=bq (bz aN a b) :=
 ot (lL ha hb _ h1 h2) (cS dK (dU h1) (dU h2)) fun f=>by
  rw [di dK (dU h1) (dU h2),(dq h1).2,(dq h2).2]
  have:=gz dK (fun s=>(a7 s).count f) _ a b (Nat.le_refl _)
  unfold ga at *
  omega
def fc0:Spx→List Spx
 | []=>[]
 | x :: s=>s :: (fc0 s).map (x :: ·)
theorem oA:∀ {s:Spx},bx s s.length=[s]
 | []=>rfl
 | x :: s=>by rw [List.length_cons,eF,oA,mQ (by omega)]; rfl
theorem jg:∀ {s:Spx},s ≠ []→(bx s (s.length - 1)).Perm (fc0 s)
 | [],h=>absurd rfl h
 | [x],_=>by show (bx [x] 0).Perm _; rw [jQ]; exact List.Perm.refl _
 | x :: y :: s,_=>by
  show (bx (x :: y :: s) (s.length + 1)).Perm _
  rw [eF,show s.length + 1=(y :: s).length from rfl,oA]
  have ih:=jg (s:=y :: s) (by simp)
  show ((bx (y :: s) s.length).map (x :: ·) ++ [y :: s]).Perm ((y :: s) :: (fc0 (y :: s)).map (x :: ·))
  exact List.perm_append_comm.trans ((ih.map (x :: ·)).cons _)
theorem tY {s g:Spx} (h:s ≠ []):(bx s (s.length - 1)).count g=(fc0 s).count g:=(jg h).count_eq g
theorem sG {α:Type} {f g:α→Nat}:∀ {l:List α},(l.map fun x=>f x + g x).sum=(l.map f).sum + (l.map g).sum
 | []=>rfl
 | x :: l=>by simp only [List.map_cons,List.sum_cons]; rw [sG]; omega
theorem gD {x:Vtx} {g:Spx}:∀ {L:List Spx},(L.map (x :: ·)).count (x :: g)=L.count g
 | []=>rfl
 | f :: L=>by
  rw [List.map_cons,List.count_cons,List.count_cons,gD]
  congr 1
  by_cases h:f=g
  ·subst h; simp
  ·simp [h]
theorem sW {g:Spx}:∀ {L:List Spx},(L.map fun f=>if f=g then 1 else 0).sum=L.count g
 | []=>rfl
 | f :: L=>by
  rw [List.map_cons,List.sum_cons,sW,List.count_cons,Nat.add_comm]
  congr 1
  by_cases h:f=g
  ·subst h; simp
  ·simp [h]
theorem dd0:∀ (s g:Spx),((fc0 s).map fun f=>(fc0 f).count g).sum % 2=0
 | [],_=>rfl
 | x :: s,g=>by
  show (((s :: (fc0 s).map (x :: ·)).map fun f=>(fc0 f).count g).sum) % 2=0
  rw [List.map_cons,List.sum_cons,List.map_map]
  have e:((fun f=>(fc0 f).count g) ∘ (x :: ·):Spx→Nat)=fun f=>(if f=g then 1 else 0) + ((fc0 f).map (x :: ·)).count g:=by
   funext f
   show (f :: (fc0 f).map (x :: ·)).count g=_
   rw [List.count_cons,Nat.add_comm]
   congr 1
   by_cases h:f=g
   ·subst h; simp
   ·simp [h]
  rw [e,sG,sW]
  match g with
  | [] =>
   have:∀ L:List Spx,(L.map fun f=>((fc0 f).map (x :: ·)).count ([]:Spx)).sum=0:=fun L=>by
    induction L with
    | nil=>rfl
    | cons f L ih =>
     rw [List.map_cons,List.sum_cons,ih,List.count_eq_zero_of_not_mem (by simp)]
   rw [this]; omega
  | y :: g' =>
   by_cases h:x=y
   ·subst h
    have h1:(fun f:Spx=>((fc0 f).map (x :: ·)).count (x :: g'))=fun f=>(fc0 f).count g':=by funext f; exact gD
    rw [h1]
    have:=dd0 s g'
    omega
   ·have:∀ L:List Spx,(L.map fun f=>((fc0 f).map (x :: ·)).count (y :: g')).sum=0:=fun L=>by
      induction L with
      | nil=>rfl
      | cons f L ih =>
       rw [List.map_cons,List.sum_cons,ih,List.count_eq_zero_of_not_mem (by simp [h])]
    rw [this]; omega
theorem dd1 (s g:Spx):((a7 s).map fun f=>(a7 f).count g).sum % 2=0:=by
 by_cases h:s.length ≤ 2
 ·have:∀ f ∈ a7 s,(a7 f).count g=0:=fun f hf=>by
    obtain ⟨_,_,h3⟩:=eI.1 hf
    unfold a7
    rw [if_pos (by omega)]; rfl
  have h2:∀ L:List Spx,(∀ f ∈ L,(a7 f).count g=0)→(L.map fun f=>(a7 f).count g).sum=0:=fun L hL=>by
   induction L with
   | nil=>rfl
   | cons f L ih =>
    rw [List.map_cons,List.sum_cons,ih fun t ht=>hL t (List.mem_cons_of_mem _ ht),hL f List.mem_cons_self]
  rw [h2 _ this]
 ·have h1:(a7 s).map (fun f=>(a7 f).count g)=(bx s (s.length - 1)).map fun f=>(fc0 f).count g:=by
    rw [show a7 s=bx s (s.length - 1) by unfold a7; rw [if_neg (by omega)]]
    refine List.map_congr_left fun f hf=>?_
    have hl:=(cL.1 hf).2
    have hne:f ≠ []:=fun e=>by rw [e] at hl; simp at hl; omega
    rw [← tY hne]
    unfold a7
    rw [if_neg (by omega)]
  rw [h1,((jg (s:=s) (fun e=>by rw [e] at h; simp at h)).map _).sum_nat]
  exact dd0 s g
theorem nP (h:Spx→Nat):∀ (a o:List Spx),((fx a o).map h).sum % 2=((o.map h).sum + (a.map fun s=>((a7 s).map h).sum).sum) % 2
 | [],o=>by simp [fx]
 | s :: a,o=>by
  have h1:=nP h a (bz aN o (a7 s))
  have h2:=gz dK h _ o (a7 s) (Nat.le_refl _)
  show ((fx a (bz aN o (a7 s))).map h).sum % 2=_
  rw [List.map_cons,List.sum_cons]
  omega
theorem og {a:List Spx} (hs:∀ s ∈ a,bg bt s):bq (bq a)=[]:=by
 refine (ot (rm hs) bg.nil fun f=>⟨fun h=>(by cases h),fun h=>?_⟩).symm
 exfalso
 have h1:=nP (fun s=>(a7 s).count f) a []
 have h2:∀ L:List Spx,(L.map fun s=>((a7 s).map fun t=>(a7 t).count f).sum).sum % 2=0:=fun L=>by
  induction L with
  | nil=>rfl
  | cons s L ih =>
   have:=dd1 s f
   rw [List.map_cons,List.sum_cons]; omega
 have h3:=h2 a
 unfold ga at h
 rw [show bq a=fx a [] from rfl] at h
 simp only [List.map_nil,List.sum_nil] at h1
 omega
def th (a:List Spx) (k:Nat):Int:=if be (a.getD k default) ≠ 0 then be (a.getD k default) else if (a.getD k default).length ≠ (a.getD 0 default).length then 15 else if 0 < k∧0 ≤ aN (a.getD (k - 1) default) (a.getD k default) then 14 else 0
def bB (a:List Spx):Int:=if 4096 < a.length then 5 else cm (th a) a.length
theorem bR {a:List Spx} (h:bB a=0):a.length ≤ 4096∧(∀ s ∈ a,be s=0)∧bg aN a∧∀ s ∈ a,s.length=(a.getD 0 default).length:=by
 unfold bB at h
 split at h
 ·exact absurd h (by decide)
 rename_i hl
 have h0:=eG h
 have hk:∀ k,k < a.length→be (a.getD k default)=0∧(a.getD k default).length=(a.getD 0 default).length∧(0 < k→aN (a.getD (k - 1) default) (a.getD k default) < 0):=fun k hk=>by
  have q:=h0 k hk
  unfold th at q
  split at q
  ·exact absurd q ‹_›
  split at q
  ·exact absurd q (by decide)
  split at q
  ·exact absurd q (by decide)
  ·rename_i q1 q2 q3
   exact ⟨Decidable.of_not_not q1,Decidable.of_not_not q2,fun h0=>by omega⟩
 have hm:∀ s ∈ a,∃ k,k < a.length∧a.getD k default=s:=fun s hs=>by
  obtain ⟨k,h1,h2⟩:=List.getElem_of_mem hs
  exact ⟨k,h1,by simp [List.getD,h1,h2]⟩
 refine ⟨by omega,fun s hs=>?_,?_,fun s hs=>?_⟩
 ·obtain ⟨k,h1,rfl⟩:=hm s hs; exact (hk k h1).1
 ·have hchain:∀ j i,i < j→j < a.length→aN (a.getD i default) (a.getD j default) < 0:=fun j=>by
    induction j with
    | zero=>intro i hi; omega
    | succ j ih =>
     intro i hi hj
     have q:=(hk (j + 1) hj).2.2 (by omega)
     rw [Nat.add_sub_cancel] at q
     rcases (by omega:i < j ∨ i=j) with h | rfl
     ·exact dK.trans (ih i h (by omega)) q
     ·exact q
  unfold bg
  rw [List.pairwise_iff_getElem]
  intro i j hi hj hij
  have:=hchain j i hij hj
  rwa [show a.getD i default=a[i] by simp [List.getD,hi],show a.getD j default=a[j] by simp [List.getD,hj]] at this
 ·obtain ⟨k,h1,rfl⟩:=hm s hs; exact (hk k h1).2.1
theorem sg {a:List Spx} {n:Nat} (h1:a.length ≤ 4096) (h2:∀ s ∈ a,be s=0) (h3:bg aN a) (h4:∀ s ∈ a,s.length=n):bB a=0:=by
 unfold bB
 rw [if_neg (by omega)]
 refine b4 fun k hk=>?_
 unfold th
 rw [if_neg (fun h=>h (h2 _ (aV hk))),if_neg (fun h=>h (by rw [h4 _ (aV hk),h4 _ (aV (by omega))])),if_neg]
 rintro ⟨q1,q2⟩
 have:=c9 h3 (i:=k - 1) (j:=k) (by omega) hk
 omega
theorem c7 {a:List Spx} (h:∀ s ∈ a,be s=0):∀ s ∈ a,bg bt s:=fun s hs=>(cz (h s hs)).2.2.1
end Go.Proofs.Ytfcenbapjhecfaa
namespace Go.Proofs.Ytfcenbapjhecfaa
open Go Go.Abs
theorem lU {a:List Spx} {k:Nat}:th a k=if be (a.getD k default) ≠ 0 then be (a.getD k default) else if (a.getD k default).length ≠ (a.getD 0 default).length then 15 else if 0 < k∧0 ≤ aN (a.getD (k - 1) default) (a.getD k default) then 14 else 0:=rfl
def dp (l:List (List Spx)):AV:=eV 1 au l
theorem pU (l:List (List Spx)):Dat (dp l):=uz (fun _=>rfl) ay
instance datI_encXsss {l:List (List Spx)}:DatI (dp l):=⟨pU l⟩
theorem fg {l:List (List Spx)}:bI (dp l)=some (.int .i64 l.length):=iA
theorem zg {l:List (List Spx)} {k:Nat} (h:k < l.length):dE 1 (dp l) (.int .i64 (k:Int))=some (.iptr [au (l.getD k default)] 0):=by
 unfold dp
 rw [jy,if_pos ⟨by omega,by omega⟩,Int.toNat_natCast]; rfl
theorem ln {l:List Spx} (h:0 < l.length):dE 1 (au l) (.int .i64 0)=some (.iptr [ax (l.getD 0 default)] 0):=ec h
abbrev ShC (a:List Spx):Prop:=Shn a∧∀ s ∈ a,Shn s
attribute [local irreducible] aC ah aU aO aH aJ az aK aP bb Go.Abs.Fn aM Go.Abs.Pure ar aD Yl
theorem jv (a:List Spx) (ha:ShC a):Pure Try.prog 14 [au a] (.int .i64 (bB a)):=by
 refine Pure.of_c2 follows AI (Nat.le_of_ble_eq_true rfl) ?_
 simp only [b14,cO,cG,cN,cM,cD,cF,cB,aF,aW]
 have ha':a.length ≤ 17592186044416:=ha.1
 unfold bB
 by_cases h0:4096 < a.length
 ·rw [if_pos h0]
  (have zz:=aI @aj (aI @av @an); repeat' (first|refine zW ?_|apply a_n|apply a_r|refine zO ?_|refine vZ ?_|(refine zGZ ?_ ?_ <;> (intro _hg; try (exfalso; omega)))|refine ak rfl ?_|refine r1Z ?_|fail)) <;> (try clear zz)
  all_goals exact cb rfl
 rw [if_neg h0]
 (have zz:=aI @aj (aI @av @an); repeat' (first|refine zW ?_|apply a_n|refine zO ?_|refine vZ ?_|(refine zGZ ?_ ?_ <;> (intro _hg; try (exfalso; omega)))|fail)) <;> (try clear zz)
 refine jq (X:=Nat) (fun k=>[(0,au a),(9,au a),(10,.int .i64 a.length),(11,.int .i64 k)]) (fun k=>k ≤ a.length∧∀ i,i < k→th a i=0) (fun k=>a.length - k) 0 ⟨Nat.zero_le _,fun i h=>absurd h (by omega)⟩ ag0 ?_
 rintro k ⟨h1,h2⟩
 by_cases hk:k < a.length
 rotate_left
 ·rw [b4 fun i hi=>h2 i (by omega)]
  (have zz:=and_self; repeat' (first|refine zW ?_|apply a_n|apply a_x|refine zO ?_|refine vY ?_|(refine zGY ?_ ?_ <;> (intro _hg; try (exfalso; omega)))|refine ak rfl ?_|refine r1Y ?_|fail)) <;> (try clear zz)
  exact .int _ _
 have ix:=ec hk
 have i0:=ln (l:=a) (by omega)
 have hs1:=ha.2 _ (aX hk)
 have hp:=ju (a.getD k default) hs1
 have hsp:=lU (a:=a) (k:=k)
 by_cases he:be (a.getD k default) ≠ 0
 ·rw [if_pos he] at hsp
  rw [bF hk h2 (by rw [hsp]; exact he),hsp]
  have z:decide (be (a.getD k default) ≠ 0)=true:=decide_eq_true he
  (have zz:=aI @aj (aI @ap (aI @ix @z)); repeat' (first|refine zW ?_|apply a_n|apply a_r|refine zO ?_|refine vY ?_|refine cY ?_ (hp:=hp) (hs:=by (first | refine ac ?_ rfl | apply ae); (repeat' (first | exact aa | apply ao | apply af | exact aA _)); first | done | fail)|refine cTY ?_|(refine zGY ?_ ?_ <;> (intro _hg; try (exfalso; omega)))|refine ak rfl ?_|refine r1Y ?_|fail)) <;> (try clear zz)
  exact .int _ _
 rw [if_neg he] at hsp
 have he:=Decidable.of_not_not he
 rw [he] at hp
 have z:decide ((0:Int) ≠ 0)=false:=rfl
 by_cases hl:(a.getD k default).length ≠ (a.getD 0 default).length
 ·rw [if_pos hl] at hsp
  rw [bF hk h2 (by rw [hsp]; decide),hsp]
  have z1:decide (((a.getD k default).length:Int) ≠ (a.getD 0 default).length)=true:=decide_eq_true (by omega)
  (have zz:=aI @aj (aI @ap (aI @ix (aI @i0 (aI @z @z1)))); repeat' (first|refine zW ?_|apply a_n|apply a_r|refine zO ?_|refine vY ?_|refine cY ?_ (hp:=hp) (hs:=by (first | refine ac ?_ rfl | apply ae); (repeat' (first | exact aa | apply ao | apply af | exact aA _)); first | done | fail)|refine cTY ?_|refine cFY ?_|(refine zGY ?_ ?_ <;> (intro _hg; try (exfalso; omega)))|refine ak rfl ?_|refine r1Y ?_|fail)) <;> (try clear zz)
  exact .int _ _
 rw [if_neg hl] at hsp
 have z1:decide (((a.getD k default).length:Int) ≠ (a.getD 0 default).length)=false:=decide_eq_false (by omega)
 by_cases hk0:0 < k
 rotate_left
 ·rw [if_neg (fun h=>hk0 h.1)] at hsp
  have zk:decide (0 < (k:Int))=false:=decide_eq_false (by omega)
  (have zz:=aI @aj (aI @ap (aI @ix (aI @i0 (aI @z (aI @z1 @zk))))); repeat' (first|refine zW ?_|apply a_n|refine zO ?_|refine vY ?_|refine cY ?_ (hp:=hp) (hs:=by (first | refine ac ?_ rfl | apply ae); (repeat' (first | exact aa | apply ao | apply af | exact aA _)); first | done | fail)|refine gFY ?_|refine cFY ?_|(refine zGY ?_ ?_ <;> (intro _hg; try (exfalso; omega)))|fail)) <;> (try clear zz)
  exact ⟨k + 1,⟨by omega,fun i hi=>by
   rcases Nat.lt_succ_iff_lt_or_eq.1 hi with h' | rfl
   ·exact h2 i h'
   ·exact hsp⟩,by omega,ag0,rfl,rfl⟩
 have zk:decide (0 < (k:Int))=true:=decide_eq_true (by omega)
 have iy:dE 1 (au a) (.int .i64 ((k:Int) - 1))=some (.iptr [ax (a.getD (k - 1) default)] 0):=by
  have:=ec (l:=a) (k:=k - 1) (by omega)
  rwa [show ((k - 1:Nat):Int)=(k:Int) - 1 by omega] at this
 have hcm:=dP (a.getD (k - 1) default) (a.getD k default) (ha.2 _ (aX (by omega))) hs1
 by_cases hv:0 ≤ aN (a.getD (k - 1) default) (a.getD k default)
 ·have z2:decide (0 ≤ aN (a.getD (k - 1) default) (a.getD k default))=true:=decide_eq_true hv
  rw [if_pos ⟨hk0,hv⟩] at hsp
  rw [bF hk h2 (by rw [hsp]; decide),hsp]
  (have zz:=aI @aj (aI @ap (aI @ix (aI @i0 (aI @iy (aI @z (aI @z1 (aI @zk @z2))))))); repeat' (first|refine zW ?_|apply a_n|apply a_r|refine zO ?_|refine vY ?_|refine cY ?_ (hp:=by first | exact hp | exact hcm) (hs:=by (first | refine ac ?_ rfl | apply ae); (repeat' (first | exact aa | apply ao | apply af | exact aA _)); first | done | fail)|refine gTY ?_|refine cTY ?_|refine cFY ?_|(refine zGY ?_ ?_ <;> (intro _hg; try (exfalso; omega)))|refine ak rfl ?_|refine r1Y ?_|fail)) <;> (try clear zz)
  exact .int _ _
 ·have z2:decide (0 ≤ aN (a.getD (k - 1) default) (a.getD k default))=false:=decide_eq_false hv
  rw [if_neg (fun h=>hv h.2)] at hsp
  (have zz:=aI @aj (aI @ap (aI @ix (aI @i0 (aI @iy (aI @z (aI @z1 (aI @zk @z2))))))); repeat' (first|refine zW ?_|apply a_n|refine zO ?_|refine vY ?_|refine cY ?_ (hp:=by first | exact hp | exact hcm) (hs:=by (first | refine ac ?_ rfl | apply ae); (repeat' (first | exact aa | apply ao | apply af | exact aA _)); first | done | fail)|refine gTY ?_|refine cFY ?_|(refine zGY ?_ ?_ <;> (intro _hg; try (exfalso; omega)))|fail)) <;> (try clear zz)
  exact ⟨k + 1,⟨by omega,fun i hi=>by
   rcases Nat.lt_succ_iff_lt_or_eq.1 hi with h' | rfl
   ·exact h2 i h'
   ·exact hsp⟩,by omega,ag0,rfl,rfl⟩
theorem wM (a:List Spx) (ha:ShC a):Pure Try.prog 15 [au a] (.int .i64 (bB a)):=by
 refine Pure.of_c2 follows AC (Nat.le_of_ble_eq_true rfl) ?_
 simp only [b15,cO,cG,cN,cM,cD,cF,cB,aF,aW]
 have ha':a.length ≤ 17592186044416:=ha.1
 unfold bB
 by_cases h0:4096 < a.length
 ·rw [if_pos h0]
  (have zz:=aI @aj (aI @av @an); repeat' (first|refine zW ?_|apply a_n|apply a_r|refine zO ?_|refine vZ ?_|(refine zGZ ?_ ?_ <;> (intro _hg; try (exfalso; omega)))|refine ak rfl ?_|refine r1Z ?_|fail)) <;> (try clear zz)
  all_goals exact cb rfl
 rw [if_neg h0]
 (have zz:=aI @aj (aI @av @an); repeat' (first|refine zW ?_|apply a_n|refine zO ?_|refine vZ ?_|(refine zGZ ?_ ?_ <;> (intro _hg; try (exfalso; omega)))|fail)) <;> (try clear zz)
 refine jq (X:=Nat) (fun k=>[(0,au a),(3,.int .i64 k)]) (fun k=>k ≤ a.length∧∀ i,i < k→th a i=0) (fun k=>a.length - k) 0 ⟨Nat.zero_le _,fun i h=>absurd h (by omega)⟩ ag0 ?_
 rintro k ⟨h1,h2⟩
 by_cases hk:k < a.length
 rotate_left
 ·rw [b4 fun i hi=>h2 i (by omega)]
  (have zz:=@aj; repeat' (first|refine zW ?_|apply a_n|apply a_x|refine zO ?_|refine vY ?_|(refine zGY ?_ ?_ <;> (intro _hg; try (exfalso; omega)))|refine ak rfl ?_|refine r1Y ?_|fail)) <;> (try clear zz)
  exact .int _ _
 have ix:=ec hk
 have i0:=ln (l:=a) (by omega)
 have hs1:=ha.2 _ (aX hk)
 have hp:=wu (a.getD k default) hs1
 have hsp:=lU (a:=a) (k:=k)
 by_cases he:be (a.getD k default) ≠ 0
 ·rw [if_pos he] at hsp
  rw [bF hk h2 (by rw [hsp]; exact he),hsp]
  have z:decide (be (a.getD k default) ≠ 0)=true:=decide_eq_true he
  (have zz:=aI @aj (aI @ap (aI @ix @z)); repeat' (first|refine zW ?_|apply a_n|apply a_r|refine zO ?_|refine vY ?_|refine cY ?_ (hp:=hp) (hs:=by (first | refine ac ?_ rfl | apply ae); (repeat' (first | exact aa | apply ao | apply af | exact aA _)); first | done | fail)|refine cTY ?_|(refine zGY ?_ ?_ <;> (intro _hg; try (exfalso; omega)))|refine ak rfl ?_|refine r1Y ?_|fail)) <;> (try clear zz)
  exact .int _ _
 rw [if_neg he] at hsp
 have he:=Decidable.of_not_not he
 rw [he] at hp
 have z:decide ((0:Int) ≠ 0)=false:=rfl
 by_cases hl:(a.getD k default).length ≠ (a.getD 0 default).length
 ·rw [if_pos hl] at hsp
  rw [bF hk h2 (by rw [hsp]; decide),hsp]
  have z1:decide (((a.getD k default).length:Int) ≠ (a.getD 0 default).length)=true:=decide_eq_true (by omega)
  (have zz:=aI @aj (aI @ap (aI @ix (aI @i0 (aI @z @z1)))); repeat' (first|refine zW ?_|apply a_n|apply a_r|refine zO ?_|refine vY ?_|refine cY ?_ (hp:=hp) (hs:=by (first | refine ac ?_ rfl | apply ae); (repeat' (first | exact aa | apply ao | apply af | exact aA _)); first | done | fail)|refine cTY ?_|refine cFY ?_|(refine zGY ?_ ?_ <;> (intro _hg; try (exfalso; omega)))|refine ak rfl ?_|refine r1Y ?_|fail)) <;> (try clear zz)
  exact .int _ _
 rw [if_neg hl] at hsp
 have z1:decide (((a.getD k default).length:Int) ≠ (a.getD 0 default).length)=false:=decide_eq_false (by omega)
 by_cases hk0:0 < k
 rotate_left
 ·rw [if_neg (fun h=>hk0 h.1)] at hsp
  have zk:decide (0 < (k:Int))=false:=decide_eq_false (by omega)
  (have zz:=aI @aj (aI @ap (aI @ix (aI @i0 (aI @z (aI @z1 @zk))))); repeat' (first|refine zW ?_|refine zM ?_|apply a_n|refine zO ?_|refine vY ?_|refine cY ?_ (hp:=hp) (hs:=by (first | refine ac ?_ rfl | apply ae); (repeat' (first | exact aa | apply ao | apply af | exact aA _)); first | done | fail)|refine gFY ?_|refine cFY ?_|(refine zGY ?_ ?_ <;> (intro _hg; try (exfalso; omega)))|fail)) <;> (try clear zz)
  exact ⟨k + 1,⟨by omega,fun i hi=>by
   rcases Nat.lt_succ_iff_lt_or_eq.1 hi with h' | rfl
   ·exact h2 i h'
   ·exact hsp⟩,by omega,ag0,rfl,rfl⟩
 have zk:decide (0 < (k:Int))=true:=decide_eq_true (by omega)
 have iy:dE 1 (au a) (.int .i64 ((k:Int) - 1))=some (.iptr [ax (a.getD (k - 1) default)] 0):=by
  have:=ec (l:=a) (k:=k - 1) (by omega)
  rwa [show ((k - 1:Nat):Int)=(k:Int) - 1 by omega] at this
 have hcm:=na (a.getD (k - 1) default) (a.getD k default) (ha.2 _ (aX (by omega))) hs1
 by_cases hv:0 ≤ aN (a.getD (k - 1) default) (a.getD k default)
 ·have z2:decide (0 ≤ aN (a.getD (k - 1) default) (a.getD k default))=true:=decide_eq_true hv
  rw [if_pos ⟨hk0,hv⟩] at hsp
  rw [bF hk h2 (by rw [hsp]; decide),hsp]
  (have zz:=aI @aj (aI @ap (aI @ix (aI @i0 (aI @iy (aI @z (aI @z1 (aI @zk @z2))))))); repeat' (first|refine zW ?_|refine zM ?_|apply a_n|apply a_r|refine zO ?_|refine vY ?_|refine cY ?_ (hp:=by first | exact hp | exact hcm) (hs:=by (first | refine ac ?_ rfl | apply ae); (repeat' (first | exact aa | apply ao | apply af | exact aA _)); first | done | fail)|refine gTY ?_|refine cTY ?_|refine cFY ?_|(refine zGY ?_ ?_ <;> (intro _hg; try (exfalso; omega)))|refine ak rfl ?_|refine r1Y ?_|fail)) <;> (try clear zz)
  exact .int _ _
 ·have z2:decide (0 ≤ aN (a.getD (k - 1) default) (a.getD k default))=false:=decide_eq_false hv
  rw [if_neg (fun h=>hv h.2)] at hsp
  (have zz:=aI @aj (aI @ap (aI @ix (aI @i0 (aI @iy (aI @z (aI @z1 (aI @zk @z2))))))); repeat' (first|refine zW ?_|refine zM ?_|apply a_n|refine zO ?_|refine vY ?_|refine cY ?_ (hp:=by first | exact hp | exact hcm) (hs:=by (first | refine ac ?_ rfl | apply ae); (repeat' (first | exact aa | apply ao | apply af | exact aA _)); first | done | fail)|refine gTY ?_|refine cFY ?_|(refine zGY ?_ ?_ <;> (intro _hg; try (exfalso; omega)))|fail)) <;> (try clear zz)
  exact ⟨k + 1,⟨by omega,fun i hi=>by
   rcases Nat.lt_succ_iff_lt_or_eq.1 hi with h' | rfl
   ·exact h2 i h'
   ·exact hsp⟩,by omega,ag0,rfl,rfl⟩
def iC:List (List Spx)→Int
 | []=>0
 | a :: l=>if bB a ≠ 0 then bB a else iC l
theorem pB {l:List (List Spx)} {k:Nat} (h:k < l.length):iC (l.drop k)=if bB (l.getD k default) ≠ 0 then bB (l.getD k default) else iC (l.drop (k + 1)):=by
 rw [fw h]; rfl
theorem wz (l:List (List Spx)) (hl:Shn l) (h:∀ a ∈ l,ShC a):Pure Try.prog 37 [dp l] (.int .i64 (iC l)):=by
 refine Pure.of_c2 follows AB (Nat.le_of_ble_eq_true rfl) ?_
 simp only [b37,cO,cG,cN,cM,cD,cF,cB,aF,aW]
 have hl':l.length ≤ 17592186044416:=hl
 (have zz:=@fg; repeat' (first|refine zW ?_|apply a_n|refine zO ?_|refine vZ ?_|fail)) <;> (try clear zz)
 refine jq (X:=Nat) (fun k=>[(6,dp l),(7,.int .i64 l.length),(8,.int .i64 k)]) (fun k=>k ≤ l.length∧iC (l.drop k)=iC l) (fun k=>l.length - k) 0 ⟨Nat.zero_le _,rfl⟩ ag0 ?_
 rintro k ⟨h1,h2⟩
 by_cases hk:k < l.length
 rotate_left
 ·rw [← h2,List.drop_of_length_le (by omega)]
  (have zz:=and_self; repeat' (first|refine zW ?_|apply a_n|apply a_x|refine zO ?_|refine vY ?_|(refine zGY ?_ ?_ <;> (intro _hg; try (exfalso; omega)))|refine ak rfl ?_|refine r1Y ?_|fail)) <;> (try clear zz)
  exact .int _ _
 have ix:=zg hk
 have hc:=jv _ (h _ (aX hk))
 rw [pB hk] at h2
 generalize l.getD k default=a at *
 by_cases he:bB a=0
 rotate_left
 ·rw [if_pos he] at h2
  rw [← h2]
  have z:decide (bB a ≠ 0)=true:=decide_eq_true he
  (have zz:=aI @ix @z; repeat' (first|refine zW ?_|apply a_n|apply a_r|refine zO ?_|refine vY ?_|refine cY ?_ (hp:=hc) (hs:=by (first | refine ac ?_ rfl | apply ae); (repeat' (first | exact aa | apply ao | apply af | exact ay _)); first | done | fail)|refine cTY ?_|(refine zGY ?_ ?_ <;> (intro _hg; try (exfalso; omega)))|refine ak rfl ?_|refine r1Y ?_|fail)) <;> (try clear zz)
  exact .int _ _
 ·rw [if_neg (fun q=>q he)] at h2
  rw [he] at hc
  have z:decide ((0:Int) ≠ 0)=false:=rfl
  (have zz:=aI @ix @z; repeat' (first|refine zW ?_|apply a_n|refine zO ?_|refine vY ?_|refine cY ?_ (hp:=hc) (hs:=by (first | refine ac ?_ rfl | apply ae); (repeat' (first | exact aa | apply ao | apply af | exact ay _)); first | done | fail)|refine cFY ?_|(refine zGY ?_ ?_ <;> (intro _hg; try (exfalso; omega)))|fail)) <;> (try clear zz)
  exact ⟨k + 1,⟨by omega,h2⟩,by omega,ag0,rfl,rfl⟩
def fv (a:List Spx):Bool:=((a.take 50).all fun s=>decide (s.length ≤ 10)) && (decide (a.length ≤ 40) || decide (4096 < a.length))
theorem xP (a:List Spx) (ha:ShC a):Pure Try.prog 35 [au a] (.bool (fv a)):=by
 refine Pure.of_c2 follows AA (Nat.le_of_ble_eq_true rfl) ?_
 simp only [b35,cO,cG,cN,cM,cD,cF,cB,aF,aW]
 have ha':a.length ≤ 17592186044416:=ha.1
 have hlt:(a.take 50).length=min 50 a.length:=List.length_take
 (have zz:=@aj; repeat' (first|refine zW ?_|apply a_n|refine zO ?_|refine vZ ?_|fail)) <;> (try clear zz)
 refine jq (X:=Nat) (fun k=>[(0,au a),(3,.int .i64 k)]) (fun k=>k ≤ (a.take 50).length∧∀ i,i < k→decide (((a.take 50).getD i default).length ≤ 10)=true) (fun k=>(a.take 50).length - k) 0 ⟨Nat.zero_le _,fun i h=>absurd h (by omega)⟩ ag0 ?_
 rintro k ⟨h1,h2⟩
 by_cases hk:k < (a.take 50).length
 rotate_left
 ·have e:fv a=(decide (a.length ≤ 40) || decide (4096 < a.length)):=by
    unfold fv
    rw [i8 fun i hi=>h2 i (by omega),Bool.true_and]
  rw [e]
  by_cases h3:a.length ≤ 40
  ·have y1:decide ((a.length:Int) ≤ 40)=true:=decide_eq_true (by omega)
   have y2:decide ((k:Int) < a.length)=false:=decide_eq_false (by omega)
   rw [decide_eq_true h3]
   (have zz:=aI @aj (aI @y1 @y2); repeat' (first|refine zW ?_|apply a_n|apply a_x|refine zO ?_|refine vY ?_|refine gFY ?_|refine cFY ?_|refine ak rfl ?_|refine r1Y ?_|fail)) <;> (try clear zz)
   exact .bool _
  ·have y1:decide ((a.length:Int) ≤ 40)=false:=decide_eq_false (by omega)
   rw [decide_eq_false h3,Bool.false_or]
   by_cases h4:k < a.length
   ·have y2:decide ((k:Int) < a.length)=true:=decide_eq_true (by omega)
    have y3:decide ((k:Int) < 50)=false:=decide_eq_false (by omega)
    (have zz:=aI @aj (aI @y1 (aI @y2 @y3)); repeat' (first|refine zW ?_|apply a_n|apply a_x|refine zO ?_|refine vY ?_|refine gTY ?_|refine cFY ?_|refine ak rfl ?_|refine r1Y ?_|fail)) <;> (try clear zz)
    exact bn (decide_eq_decide.2 (by omega))
   ·have y2:decide ((k:Int) < a.length)=false:=decide_eq_false (by omega)
    (have zz:=aI @aj (aI @y1 @y2); repeat' (first|refine zW ?_|apply a_n|apply a_x|refine zO ?_|refine vY ?_|refine gTY ?_|refine gFY ?_|refine cFY ?_|refine ak rfl ?_|refine r1Y ?_|fail)) <;> (try clear zz)
    exact bn (decide_eq_decide.2 (by omega))
 have hk1:k < a.length:=by omega
 have ix:=ec hk1
 have e:(a.take 50).getD k default=a.getD k default:=jS (by omega)
 have y2:decide ((k:Int) < a.length)=true:=decide_eq_true (by omega)
 have y3:decide ((k:Int) < 50)=true:=decide_eq_true (by omega)
 by_cases hs:(a.getD k default).length ≤ 10
 ·have y4:decide ((10:Int) < (a.getD k default).length)=false:=decide_eq_false (by omega)
  (have zz:=aI @aj (aI @ap (aI @ix (aI @y2 (aI @y3 @y4)))); repeat' (first|refine zW ?_|apply a_n|refine zO ?_|refine vY ?_|refine gTY ?_|refine cTY ?_|refine cFY ?_|fail)) <;> (try clear zz)
  exact ⟨k + 1,⟨by omega,fun i hi=>by
   rcases Nat.lt_succ_iff_lt_or_eq.1 hi with h' | rfl
   ·exact h2 i h'
   ·rw [e]; exact decide_eq_true hs⟩,by omega,ag0,rfl,rfl⟩
 ·have y4:decide ((10:Int) < (a.getD k default).length)=true:=decide_eq_true (by omega)
  have e2:fv a=false:=by
   unfold fv
   rw [gO hk (by rw [e]; exact decide_eq_false hs),Bool.false_and]
  rw [e2]
  (have zz:=aI @aj (aI @ap (aI @ix (aI @y2 (aI @y3 @y4)))); repeat' (first|refine zW ?_|apply a_n|apply a_r|refine zO ?_|refine vY ?_|refine gTY ?_|refine cTY ?_|refine ak rfl ?_|refine r1Y ?_|fail)) <;> (try clear zz)
  exact .bool _
theorem wJ (l:List (List Spx)) (hl:Shn l) (h:∀ a ∈ l,ShC a):Pure Try.prog 10 [dp l] (.bool (l.all fv)):=by
 refine Pure.of_c2 follows AW (Nat.le_of_ble_eq_true rfl) ?_
 simp only [b10,cO,cG,cN,cM,cD,cF,cB,aF,aW]
 have hl':l.length ≤ 17592186044416:=hl
 (have zz:=@fg; repeat' (first|refine zW ?_|apply a_n|refine zO ?_|refine vZ ?_|fail)) <;> (try clear zz)
 refine xM (fun k=>[(5,dp l),(6,.int .i64 l.length),(7,.int .i64 k)]) l.length (fun k=>fv (l.getD k default)=true) ag0 ?_
 intro k hk hz
 by_cases hk2:k < l.length
 rotate_left
 ·(have zz:=@fg; repeat' (first|refine zW ?_|apply a_n|apply a_x|refine zO ?_|refine vZ ?_|(refine zGZ ?_ ?_ <;> (intro _hg; try (exfalso; omega)))|refine ak rfl ?_|refine r1Z ?_|fail)) <;> (try clear zz)
  exact bn (i8 fun i hi=>hz i (by omega)).symm
 have ix:=zg hk2
 have hf:=xP (l.getD k default) (h _ (aV hk2))
 cases hm:fv (l.getD k default)
 ·rw [hm] at hf
  rw [gO hk2 hm]
  (have zz:=@ix; repeat' (first|refine zW ?_|apply a_n|apply a_r|refine zO ?_|refine vY ?_|refine cY ?_ (hp:=hf) (hs:=by (first | refine ac ?_ rfl | apply ae); (repeat' (first | exact aa | apply ao | apply af | exact ay _)); first | done | fail)|refine cTY ?_|(refine zGY ?_ ?_ <;> (intro _hg; try (exfalso; omega)))|refine ak rfl ?_|refine r1Y ?_|fail)) <;> (try clear zz)
  exact .bool _
 ·rw [hm] at hf
  (have zz:=@ix; repeat' (first|refine zW ?_|apply a_n|refine zO ?_|refine vY ?_|refine cY ?_ (hp:=hf) (hs:=by (first | refine ac ?_ rfl | apply ae); (repeat' (first | exact aa | apply ao | apply af | exact ay _)); first | done | fail)|refine cFY ?_|(refine zGY ?_ ?_ <;> (intro _hg; try (exfalso; omega)))|fail)) <;> (try clear zz)
  exact ⟨hk2,rfl,ag0,rfl,rfl⟩
theorem np {a:List Spx} (h:fv a=true) (hc:bB a=0):a.length ≤ 40:=by
 unfold fv at h
 have:=(bR hc).1
 simp only [Bool.and_eq_true,Bool.or_eq_true,decide_eq_true_eq] at h
 omega
end Go.Proofs.Ytfcenbapjhecfaa
namespace Go.Proofs.Ytfcenbapjhecfaa
open Go Go.Abs
attribute [local irreducible] aC ah aU aO aH aJ az aK aP bb Go.Abs.Fn aM Go.Abs.Pure ar aD Yl
end Go.Proofs.Ytfcenbapjhecfaa
namespace Go.Proofs.Ytfcenbapjhecfaa
open Go Go.Abs
theorem eC {x:Spx} {l:List Spx}:ip 1 (au (x :: l)) (some (.int .i64 1)) none none=some (au l):=fI (l:=x :: l) (k:=1) (by simp)
theorem qt {x:Spx} {l:List Spx}:dE 1 (au (x :: l)) (.int .i64 0)=some (.iptr [ax x] 0):=ln (by simp)
attribute [local irreducible] aC ah aU aO aH aJ az aK aP bb Go.Abs.Fn aM Go.Abs.Pure ar aD Yl
theorem ui (l:List Spx) (hl:l.length ≤ 100000) (hs:∀ x ∈ l,x.length ≤ 1000000):Pure Try.prog 58 [au l] (au l):=by
 refine Pure.of_c2 follows Az (Nat.le_of_ble_eq_true rfl) ?_
 simp only [b58,cO,cG,cN,cM,cD,cF,cB,aF,aW]
 (have zz:=@aj; repeat' (first|refine zW ?_|apply a_n|refine zO ?_|refine vZ ?_|fail)) <;> (try clear zz)
 refine bk (X:=AV × Nat) (fun x=>[(3,x.1),(6,au l),(7,.int .i64 l.length),(8,.int .i64 x.2)]) (fun x H nx=>x.2 ≤ l.length∧Row H 1 x.1 ((l.take x.2).map ax)∧∀ b,cH x.1=some b→b < nx) (fun x=>l.length - x.2) (.esl,0) ⟨Nat.zero_le _,Row.nil,fun b hb=>(by cases hb)⟩ ag0 ?_
 rintro ⟨s,j⟩ H nx ⟨h1,h2,h3⟩
 dsimp only at h1 h2 h3 ⊢
 by_cases hj:j < l.length
 ·have hw:=aX hj
  have hcl:=ue _ (hs _ hw)
  have ix:=ec hj
  (have zz:=@ix; repeat' (first|refine zW ?_|apply a_n|refine zO ?_|refine vY ?_|(refine zGY ?_ ?_ <;> (intro _hg; try (exfalso; omega)))|fail)) <;> (try clear zz)
  refine bT ev0 ev0 hcl (am (aA _ _) aa) ?_
  (have zz:=aI @aB @aw; repeat' (first|apply a_n|refine zO ?_|refine blY ?_|fail)) <;> (try clear zz)
  refine hJ rfl ev0 (h2.same fun b hb=>?_) ev0 dY rfl rfl Nat.one_pos (by simp; omega) (by simp; omega) ?_
  ·have:=h3 b hb
   rw [ag (by omega)]
  rintro s2 E e hrow hle1 hle2 hsame hb2
  (have zz:=and_self; repeat' (first|apply a_n|refine zO ?_|refine vY ?_|fail)) <;> (try clear zz)
  refine ⟨(s2,j + 1),by dsimp only; omega,⟨by dsimp only; omega,?_,fun b hb=>?_⟩,ag0⟩
  ·dsimp only
   rw [sa hj,List.map_append]
   exact hrow
  ·rcases hb2 b hb with h | h
   ·have:=h3 b h; omega
   ·omega
 ·(have zz:=and_self; repeat' (first|refine zW ?_|apply a_n|apply a_x|refine zO ?_|refine vY ?_|(refine zGY ?_ ?_ <;> (intro _hg; try (exfalso; omega)))|refine ak rfl ?_|refine r1Y ?_|fail)) <;> (try clear zz)
  rw [List.take_of_length_le (by omega)] at h2
  exact gI h2
theorem od (l:List Spx) (hl:Shn l) (hs:∀ x ∈ l,x.length ≤ 1000000):Pure Try.prog 38 [au l] (.tup [au (if 4096 < l.length then [] else l),.int .i64 (if 4096 < l.length then 5 else 0)]):=by
 refine Pure.of_c2 follows Ah (Nat.le_of_ble_eq_true rfl) ?_
 simp only [b38,cO,cG,cN,cM,cD,cF,cB,aF,aW]
 have hl':l.length ≤ 17592186044416:=hl
 by_cases h:4096 < l.length
 ·have z:decide ((4096:Int) < l.length)=true:=decide_eq_true (by omega)
  rw [if_pos h,if_pos h]
  (have zz:=aI @aj @z; repeat' (first|refine zW ?_|apply a_n|apply a_r|refine zO ?_|refine vY ?_|refine cTY ?_|refine ak rfl ?_|refine r2Y ?_|fail)) <;> (try clear zz)
  exact ci (.eslsl _) rfl
 ·have z:decide ((4096:Int) < l.length)=false:=decide_eq_false (by omega)
  rw [if_neg h,if_neg h]
  have hc:=ui l (by omega) hs
  (have zz:=aI @aj @z; repeat' (first|refine zW ?_|apply a_n|refine zO ?_|refine vY ?_|refine cY ?_ (hp:=hc) (hs:=by (first | refine ac ?_ rfl | apply ae); (repeat' (first | exact aa | apply ao | apply af | exact ay _)); first | done | fail)|refine cFY ?_|refine ak rfl ?_|refine r2Y ?_|fail)) <;> (try clear zz)
  exact ci (ay _).snap rfl
theorem xj (a b:List Spx) (ha:a.length ≤ 1000000∧∀ s ∈ a,Shn s) (hb:b.length ≤ 1000000∧∀ s ∈ b,Shn s):Pure Try.prog 39 [au a,au b,.func 40 []] (au (bz aN a b)):=by
 refine Pure.of_c2 follows Be (Nat.le_of_ble_eq_true rfl) ?_
 simp only [b39,cO,cG,cN,cM,cD,cF,cB,aF,aW]
 (have zz:=and_self; repeat' (first|refine zW ?_|apply a_n|refine zO ?_|refine vZ ?_|fail)) <;> (try clear zz)
 refine bk (X:=List Spx × List Spx × List Spx × AV) (fun x=>[(0,au x.1),(1,au x.2.1),(2,.func 40 []),(7,x.2.2.2)]) (fun x H nx=>x.2.2.1.length + x.1.length + x.2.1.length ≤ a.length + b.length∧(∀ s ∈ x.1,Shn s)∧(∀ s ∈ x.2.1,Shn s)∧x.2.2.1 ++ bz aN x.1 x.2.1=bz aN a b∧Row H 1 x.2.2.2 (x.2.2.1.map ax)∧∀ b,cH x.2.2.2=some b→b < nx) (fun x=>x.1.length + x.2.1.length) (a,b,[],.esl) ⟨by simp,ha.2,hb.2,rfl,Row.nil,fun b hb=>(by cases hb)⟩ ag0 ?_
 rintro ⟨a',b',D,sv⟩ H nx ⟨h2,ha2,hb2,h4,h5,h6⟩
 dsimp only at h2 ha2 hb2 h4 h5 h6 ⊢
 have key:∀ (x:Spx) {P:Program} {T:Tm} {dm:DM} {K:SP} {l:List Op2} {d:Option Nat} {s v:Opd},dm2 dm T (.app 1 24 s v)=true→ov T s=sv→ov T v=.msl nx 1 1 0 1 →
     (∀ (sv':AV) (H':Hp) (nx':Nat),Row H' 1 sv' ((D ++ [x]).map ax)→(∀ b,cH sv'=some b→b < nx')→ah P dm l (aE T d sv') H' nx' K) →
     D.length ≤ 2000000→ah P dm (⟨d,none,.app 1 24 s v⟩ :: l) T (aq H nx [ax x]) (nx + 1) K:=by
  intro x P T dm K l d s v k1 k2 k3 k4 k5
  refine hJ k1 k2 (h5.same fun b hb=>?_) k3 dY rfl rfl Nat.one_pos (by rw [List.length_map]; omega) (by rw [List.length_map]; omega) ?_
  ·have:=h6 b hb
   rw [ag (by omega)]
  rintro s2 E e hrow hle1 hle2 hsame hb2
  refine k4 s2 E e (by rw [List.map_append]; exact hrow) fun b hb=>?_
  rcases hb2 b hb with h | h
  ·have:=h6 b h; omega
  ·omega
 match a',b',h2,ha2,hb2,h4 with
 | [],[],h2,ha2,hb2,h4 =>
  have al:bI (au [])=some (.int .i64 0):=rfl
  (have zz:=@al; repeat' (first|refine zW ?_|apply a_n|apply a_x|refine zO ?_|refine vY ?_|refine gTY ?_|(refine zGY ?_ ?_ <;> (intro _hg; try (exfalso; omega)))|refine ak rfl ?_|refine r1Y ?_|fail)) <;> (try clear zz)
  rw [jJ,List.append_nil] at h4
  rw [← h4]
  exact gI h5
 | x :: a2,[],h2,ha2,hb2,h4 =>
  have al:bI (au [])=some (.int .i64 0):=rfl
  have al2:bI (au (x :: a2))=some (.int .i64 ((a2.length:Int) + 1)):=by rw [aj,List.length_cons]; rfl
  have z1:decide ((0:Int) < (a2.length:Int) + 1)=true:=decide_eq_true (by omega)
  simp only [List.length_cons,List.length_nil] at h2
  (have zz:=aI @al (aI @al2 (aI @z1 (aI @qt (aI @eC (aI @aB @aw))))); repeat' (first|refine zW ?_|apply a_n|refine zO ?_|refine vY ?_|refine blY ?_|refine gFY ?_|refine cTY ?_|(refine zGY ?_ ?_ <;> (intro _hg; try (exfalso; omega)))|fail)) <;> (try clear zz)
  refine key x rfl ev0 ev0 (fun s2 H2 nx2 r1 r2=>?_) (by omega)
  (have zz:=@eC; repeat' (first|apply a_n|refine zO ?_|refine vY ?_|fail)) <;> (try clear zz)
  exact ⟨(a2,[],D ++ [x],s2),by simp,⟨by simp; omega,fun s h=>ha2 s (List.mem_cons_of_mem _ h),hb2,by dsimp only; rw [mz,List.append_assoc]; rw [mz] at h4; exact h4,r1,r2⟩,ag0⟩
 | [],y :: b2,h2,ha2,hb2,h4 =>
  have al:bI (au [])=some (.int .i64 0):=rfl
  have al2:bI (au (y :: b2))=some (.int .i64 ((b2.length:Int) + 1)):=by rw [aj,List.length_cons]; rfl
  have z1:decide ((0:Int) < (b2.length:Int) + 1)=true:=decide_eq_true (by omega)
  have z2:decide ((b2.length:Int) + 1=0)=false:=decide_eq_false (by omega)
  simp only [List.length_cons,List.length_nil] at h2
  (have zz:=aI @al (aI @al2 (aI @z1 (aI @z2 (aI @qt (aI @eC (aI @aB @aw)))))); repeat' (first|refine zW ?_|apply a_n|refine zO ?_|refine vY ?_|refine blY ?_|refine gTY ?_|refine cTY ?_|refine cFY ?_|(refine zGY ?_ ?_ <;> (intro _hg; try (exfalso; omega)))|fail)) <;> (try clear zz)
  refine key y rfl ev0 ev0 (fun s2 H2 nx2 r1 r2=>?_) (by omega)
  (have zz:=@eC; repeat' (first|apply a_n|refine zO ?_|refine vY ?_|fail)) <;> (try clear zz)
  exact ⟨([],b2,D ++ [y],s2),by simp,⟨by simp; omega,ha2,fun s h=>hb2 s (List.mem_cons_of_mem _ h),by dsimp only; rw [jJ,List.append_assoc]; rw [jJ] at h4; exact h4,r1,r2⟩,ag0⟩
 | x :: a2,y :: b2,h2,ha2,hb2,h4 =>
  have al1:bI (au (x :: a2))=some (.int .i64 ((a2.length:Int) + 1)):=by rw [aj,List.length_cons]; rfl
  have al2:bI (au (y :: b2))=some (.int .i64 ((b2.length:Int) + 1)):=by rw [aj,List.length_cons]; rfl
  have z1:decide ((0:Int) < (a2.length:Int) + 1)=true:=decide_eq_true (by omega)
  have z2:decide ((b2.length:Int) + 1=0)=false:=decide_eq_false (by omega)
  simp only [List.length_cons] at h2
  have hc:=dP x y (ha2 x List.mem_cons_self) (hb2 y List.mem_cons_self)
  rw [pG] at h4
  have hsw:=gP x y
  by_cases g1:aN x y < 0
  ·have z3:decide (aN x y < 0)=true:=decide_eq_true g1
   rw [if_pos g1] at h4
   (have zz:=aI @al1 (aI @al2 (aI @z1 (aI @z2 (aI @z3 (aI @qt (aI @eC (aI @aB @aw))))))); repeat' (first|refine zW ?_|refine zM ?_|apply a_n|refine zO ?_|refine vY ?_|refine cY ?_ (hp:=hc) (hs:=by (first | refine ac ?_ rfl | apply ae); (repeat' (first | exact aa | apply ao | apply af | exact aA _)); first | done | fail)|refine blY ?_|refine gFY ?_|refine cTY ?_|refine cFY ?_|fail)) <;> (try clear zz)
   refine key x rfl ev0 ev0 (fun s2 H2 nx2 r1 r2=>?_) (by omega)
   (have zz:=@eC; repeat' (first|apply a_n|refine zO ?_|refine vY ?_|fail)) <;> (try clear zz)
   exact ⟨(a2,y :: b2,D ++ [x],s2),by simp,⟨by simp; omega,fun s h=>ha2 s (List.mem_cons_of_mem _ h),hb2,by dsimp only; rw [List.append_assoc]; exact h4,r1,r2⟩,ag0⟩
  have z3:decide (aN x y < 0)=false:=decide_eq_false g1
  rw [if_neg g1] at h4
  by_cases g2:aN y x < 0
  ·have z4:decide (0 < aN x y)=true:=decide_eq_true (by omega)
   rw [if_pos g2] at h4
   (have zz:=aI @al1 (aI @al2 (aI @z1 (aI @z2 (aI @z3 (aI @z4 (aI @qt (aI @eC (aI @aB @aw)))))))); repeat' (first|refine zW ?_|refine zM ?_|apply a_n|refine zO ?_|refine vY ?_|refine cY ?_ (hp:=hc) (hs:=by (first | refine ac ?_ rfl | apply ae); (repeat' (first | exact aa | apply ao | apply af | exact aA _)); first | done | fail)|refine blY ?_|refine gFY ?_|refine cTY ?_|refine cFY ?_|fail)) <;> (try clear zz)
   refine key y rfl ev0 ev0 (fun s2 H2 nx2 r1 r2=>?_) (by omega)
   (have zz:=@eC; repeat' (first|apply a_n|refine zO ?_|refine vY ?_|fail)) <;> (try clear zz)
   exact ⟨(x :: a2,b2,D ++ [y],s2),by simp,⟨by simp; omega,ha2,fun s h=>hb2 s (List.mem_cons_of_mem _ h),by dsimp only; rw [List.append_assoc]; exact h4,r1,r2⟩,ag0⟩
  ·have z4:decide (0 < aN x y)=false:=decide_eq_false (by omega)
   rw [if_neg g2] at h4
   (have zz:=aI @al1 (aI @al2 (aI @z1 (aI @z2 (aI @z3 (aI @z4 (aI @qt (aI @eC (aI @aB @aw)))))))); repeat' (first|refine zW ?_|refine zM ?_|apply a_n|refine zO ?_|refine vY ?_|refine cY ?_ (hp:=hc) (hs:=by (first | refine ac ?_ rfl | apply ae); (repeat' (first | exact aa | apply ao | apply af | exact aA _)); first | done | fail)|refine gFY ?_|refine cTY ?_|refine cFY ?_|fail)) <;> (try clear zz)
   exact ⟨(a2,b2,D,sv),by simp; omega,⟨by simp; omega,fun s h=>ha2 s (List.mem_cons_of_mem _ h),fun s h=>hb2 s (List.mem_cons_of_mem _ h),h4,h5,h6⟩,ag0⟩
def eH (a b:List Spx):List Spx × Int:=if bB a ≠ 0 then ([],bB a) else if bB b ≠ 0 then ([],bB b) else if 0 < a.length∧0 < b.length∧(a.getD 0 default).length ≠ (b.getD 0 default).length then ([],15) else if 4096 < (bz aN a b).length then ([],5) else (bz aN a b,0)
theorem iY {a:List Spx} (h:∀ s ∈ a,be s=0):∀ s ∈ a,Shn s:=fun s hs=>by have:=(cz (h s hs)).2.1; show _ ≤ _; omega
theorem qQ {a:List Spx} (h:∀ s ∈ a,be s=0):∀ s ∈ a,s.length ≤ 1000000:=fun s hs=>by have:=(cz (h s hs)).2.1; omega
theorem fy {H:Hp} {b:Nat} {x y:List Spx} (h:H b=some [au x,au y]):aD H [.msl b 2 1 0 2] [dp [x,y]] :=
 am (jF (l:=[au x,au y]) h rfl rfl (by
  intro z hz
  simp only [List.mem_cons,List.not_mem_nil,or_false] at hz
  rcases hz with rfl | rfl
  ·exact ⟨rfl,ay _⟩
  ·exact ⟨rfl,ay _⟩)) aa
theorem uJ {a:List Spx} (h:bB a=0):a.length ≤ 1000000∧∀ s ∈ a,Shn s:=⟨by have:=(bR h).1; omega,iY (bR h).2.1⟩
theorem pD {a b:List Spx} (ha:bB a=0) (hb:bB b=0):∀ s ∈ bz aN a b,be s=0:=lL (bR ha).2.2.1 (bR hb).2.2.1 _ (bR ha).2.1 (bR hb).2.1
theorem fe (a b:List Spx) (ha:ShC a) (hb:ShC b):Pure Try.prog 12 [au a,au b] (.tup [au (eH a b).1,.int .i64 (eH a b).2]):=by
 refine Pure.of_c2 follows A3 (Nat.le_of_ble_eq_true rfl) ?_
 simp only [b12,cO,cG,cN,cM,cD,cF,cB,aF,aW]
 have f1:=wz [a,b] (show _ ≤ _ by simp) (fun x hx=>by
  rcases List.mem_cons.1 hx with rfl | hx
  ·exact ha
  ·rw [List.mem_singleton.1 hx]; exact hb)
 have ef:iC [a,b]=if bB a ≠ 0 then bB a else if bB b ≠ 0 then bB b else 0:=rfl
 rw [ef] at f1
 unfold eH
 by_cases h1:bB a=0
 rotate_left
 ·rw [if_pos h1]
  rw [if_pos h1] at f1
  have z:decide (bB a ≠ 0)=true:=decide_eq_true h1
  (have zz:=aI @av @an; repeat' (first|refine zW ?_|apply a_n|refine zO ?_|refine vY ?_|refine blY ?_|fail)) <;> (try clear zz)
  refine bJ ev0 ev0 f1 (ac (fy (by rw [ai])) rfl) ?_
  (have zz:=@z; repeat' (first|refine zW ?_|apply a_n|apply a_r|refine zO ?_|refine vY ?_|refine cTY ?_|refine ak rfl ?_|refine r2Y ?_|fail)) <;> (try clear zz)
  exact ci (.eslsl _) rfl
 rw [if_neg (fun q=>q h1)]
 rw [if_neg (fun q=>q h1)] at f1
 by_cases h2:bB b=0
 rotate_left
 ·rw [if_pos h2]
  rw [if_pos h2] at f1
  have z:decide (bB b ≠ 0)=true:=decide_eq_true h2
  (have zz:=aI @av @an; repeat' (first|refine zW ?_|apply a_n|refine zO ?_|refine vY ?_|refine blY ?_|fail)) <;> (try clear zz)
  refine bJ ev0 ev0 f1 (ac (fy (by rw [ai])) rfl) ?_
  (have zz:=@z; repeat' (first|refine zW ?_|apply a_n|apply a_r|refine zO ?_|refine vY ?_|refine cTY ?_|refine ak rfl ?_|refine r2Y ?_|fail)) <;> (try clear zz)
  exact ci (.eslsl _) rfl
 rw [if_neg (fun q=>q h2)]
 rw [if_neg (fun q=>q h2)] at f1
 have z:decide ((0:Int) ≠ 0)=false:=rfl
 have hm:=xj a b (uJ h1) (uJ h2)
 have hml:=fK (K:=aN) (a:=a) (b:=b)
 have h14:=(bR h1).1
 have h24:=(bR h2).1
 have hlim:=od (bz aN a b) (show _ ≤ _ by omega) (qQ (pD h1 h2))
 have hfin:(if 4096 < (bz aN a b).length then (([]:List Spx),(5:Int)) else (bz aN a b,0))=(if 4096 < (bz aN a b).length then [] else bz aN a b,if 4096 < (bz aN a b).length then 5 else 0):=by
  split <;> rfl
 rw [hfin]
 generalize (if 4096 < (bz aN a b).length then ([]:List Spx) else bz aN a b)=L at *
 generalize (if 4096 < (bz aN a b).length then (5:Int) else 0)=E at *
 generalize bz aN a b=M at *
 by_cases h3:0 < a.length∧0 < b.length∧(a.getD 0 default).length ≠ (b.getD 0 default).length
 ·rw [if_pos h3]
  have i1:=ln h3.1
  have i2:=ln h3.2.1
  have z1:decide ((0:Int) < a.length)=true:=decide_eq_true (by omega)
  have z2:decide ((0:Int) < b.length)=true:=decide_eq_true (by omega)
  have z3:decide (((a.getD 0 default).length:Int) ≠ (b.getD 0 default).length)=true:=decide_eq_true (by omega)
  (have zz:=aI @av @an; repeat' (first|refine zW ?_|apply a_n|refine zO ?_|refine vY ?_|refine blY ?_|fail)) <;> (try clear zz)
  refine bJ ev0 ev0 f1 (ac (fy (by rw [ai])) rfl) ?_
  (have zz:=aI @z (aI @z1 (aI @z2 (aI @z3 (aI @i1 (aI @i2 (aI @aj @ap)))))); repeat' (first|refine zW ?_|apply a_n|apply a_r|refine zO ?_|refine vY ?_|refine gTY ?_|refine cTY ?_|refine cFY ?_|refine ak rfl ?_|refine r2Y ?_|fail)) <;> (try clear zz)
  exact ci (.eslsl _) rfl
 ·rw [if_neg h3]
  have dc:Dat (AV.func 40 []):=Dat.func DatL.nil
  by_cases h4:0 < a.length
  ·have z1:decide ((0:Int) < a.length)=true:=decide_eq_true (by omega)
   by_cases h5:0 < b.length
   ·have i1:=ln h4
    have i2:=ln h5
    have z2:decide ((0:Int) < b.length)=true:=decide_eq_true (by omega)
    have z3:decide (((a.getD 0 default).length:Int) ≠ (b.getD 0 default).length)=false:=decide_eq_false (by omega)
    (have zz:=aI @av @an; repeat' (first|refine zW ?_|apply a_n|refine zO ?_|refine vY ?_|refine blY ?_|fail)) <;> (try clear zz)
    refine bJ ev0 ev0 f1 (ac (fy (by rw [ai])) rfl) ?_
    (have zz:=aI @z (aI @z1 (aI @z2 (aI @z3 (aI @i1 (aI @i2 (aI @aj @ap)))))); repeat' (first|refine zW ?_|apply a_n|refine zO ?_|refine vY ?_|refine cY ?_ (hp:=by first | exact hm | exact hlim) (hs:=by (first | refine ac ?_ rfl | apply ae); (repeat' (first | exact aa | apply ao | apply af | exact ay _ | exact dc)); first | done | fail)|refine gTY ?_|refine cFY ?_|refine ak rfl ?_|refine r2Y ?_|fail)) <;> (try clear zz)
    exact ci (ay _).snap rfl
   ·have z2:decide ((0:Int) < b.length)=false:=decide_eq_false (by omega)
    (have zz:=aI @av @an; repeat' (first|refine zW ?_|apply a_n|refine zO ?_|refine vY ?_|refine blY ?_|fail)) <;> (try clear zz)
    refine bJ ev0 ev0 f1 (ac (fy (by rw [ai])) rfl) ?_
    (have zz:=aI @z (aI @z1 (aI @z2 (aI @aj @ap))); repeat' (first|refine zW ?_|apply a_n|refine zO ?_|refine vY ?_|refine cY ?_ (hp:=by first | exact hm | exact hlim) (hs:=by (first | refine ac ?_ rfl | apply ae); (repeat' (first | exact aa | apply ao | apply af | exact ay _ | exact dc)); first | done | fail)|refine gTY ?_|refine gFY ?_|refine cFY ?_|refine ak rfl ?_|refine r2Y ?_|fail)) <;> (try clear zz)
    exact ci (ay _).snap rfl
  ·have z1:decide ((0:Int) < a.length)=false:=decide_eq_false (by omega)
   (have zz:=aI @av @an; repeat' (first|refine zW ?_|apply a_n|refine zO ?_|refine vY ?_|refine blY ?_|fail)) <;> (try clear zz)
   refine bJ ev0 ev0 f1 (ac (fy (by rw [ai])) rfl) ?_
   (have zz:=aI @z (aI @z1 (aI @aj @ap)); repeat' (first|refine zW ?_|apply a_n|refine zO ?_|refine vY ?_|refine cY ?_ (hp:=by first | exact hm | exact hlim) (hs:=by (first | refine ac ?_ rfl | apply ae); (repeat' (first | exact aa | apply ao | apply af | exact ay _ | exact dc)); first | done | fail)|refine gFY ?_|refine cFY ?_|refine ak rfl ?_|refine r2Y ?_|fail)) <;> (try clear zz)
   exact ci (ay _).snap rfl
end Go.Proofs.Ytfcenbapjhecfaa
namespace Go.Proofs.Ytfcenbapjhecfaa
open Go Go.Abs
section
variable {α:Type} [DecidableEq α] {K:α→α→Int}
end
section
variable {g:Vtx→Vtx}
end
end Go.Proofs.Ytfcenbapjhecfaa
namespace Go.Proofs.Ytfcenbapjhecfaa
open Go Go.Abs
open Nat (reduceEqDiff reduceAdd reduceLeDiff)
attribute [local irreducible] aC ah aU aO aH aJ az aK aP bb Go.Abs.Fn aM Go.Abs.Pure ar aD Yl
theorem wh (l:List Spx) (k:Nat) (hl:l.length ≤ 50) (hs:∀ s ∈ l,be s=0) (hk:1 ≤ k∧k ≤ 8):Pure Try.prog 81 [au l,.int .i64 k] (.tup [au (iV l k),.int .i64 0]):=by
 refine Pure.of_c2 follows Ao (Nat.le_of_ble_eq_true rfl) ?_
 simp only [b81,cO,cG,cN,cM,cD,cF,cB,aF,aW]
 have h8:∀ s ∈ l,s.length ≤ 8:=fun s h=>(cz (hs s h)).2.1
 have hgood:∀ s ∈ l.flatMap (fun s=>bx s k),gr s:=fun s h=>by
  obtain ⟨t,t1,t2⟩:=i7.1 h
  exact vH (wL (hs t t1)) hk.1 t2
 have hfl:=iS (k:=k) h8
 have z0:decide ((0:Int) ≠ 0)=false:=rfl
 (have zz:=@aj; repeat' (first|refine zW ?_|apply a_n|refine zO ?_|refine vY ?_|fail)) <;> (try clear zz)
 refine xw ?_
 (have zz:=@aj; repeat' (first|refine zW ?_|apply a_n|refine zO ?_|refine vY ?_|fail)) <;> (try clear zz)
 refine bk (X:=Nat × AV × List Spx) (fun x=>[(1,.int .i64 k),(6,.mp 0),(7,x.2.1),(15,au l),(16,.int .i64 l.length),(17,.int .i64 x.1)]) (fun x H nx=>x.1 ≤ l.length∧1 ≤ nx∧H 0=some [.omap ((x.2.2.map kK).map eK) (x.2.2.map fun _=>.bool true)]∧Row H 1 x.2.1 (x.2.2.map ax)∧(∀ b,cH x.2.1=some b→1 ≤ b∧b < nx)∧x.2.2.Nodup∧∀ s,s ∈ x.2.2 ↔ s ∈ (l.take x.1).flatMap fun s=>bx s k) (fun x=>l.length - x.1) (0,.esl,[]) ⟨Nat.zero_le _,by omega,ai,Row.nil,fun b h=>(by cases h),List.nodup_nil,fun s=>by simp⟩ (by (iterate 6 refine And.intro rfl ?_); trivial) ?_
 rintro ⟨i,sv,O⟩ H nx ⟨h1,hnx,g0,hrow,hbd,hnd,hmem⟩
 dsimp only at h1 g0 hrow hbd hnd hmem ⊢
 obtain ⟨o1,o2⟩:=hrow.one
 by_cases hi:i < l.length
 rotate_left
 ·rw [List.take_of_length_le (by omega)] at hmem
  have hOl:O.length ≤ 3500:=by
   have:=List.Nodup.length_le_of_subset hnd (l₂:=l.flatMap fun s=>bx s k) (fun s h=>(hmem s).1 h)
   omega
  have hsort:Abs.Fn Try.prog 73 [sv,.func 40 []] H nx fun _ H' nx'=>Row H' 1 sv ((iV l k).map ax):=by
   generalize hcs:O.map ax=cs at hrow
   cases hrow with
   | nil =>
    have hO0:O=[]:=List.map_eq_nil_iff.1 hcs
    refine Abs.Fn.mono (ji rfl) ?_
    rintro _ _ _ ⟨rfl,rfl⟩
    have:iV l k=[]:=by
     unfold iV
     rw [ql,List.eq_nil_iff_forall_not_mem]
     intro s h
     have:=(hmem s).2 h
     rw [hO0] at this; cases this
    rw [this]; exact Row.nil
   | box b len cs k1 k2 =>
    obtain rfl:len=O.length:=by rw [← hcs,List.length_map] at k2; omega
    have hb:=hbd b rfl
    subst hcs
    by_cases h0:O.length=0
    ·have hO0:O=[]:=List.length_eq_zero_iff.1 h0
     subst hO0
     refine Abs.Fn.mono (ji rfl) ?_
     rintro _ _ _ ⟨rfl,rfl⟩
     have:iV l k=[]:=by
      unfold iV
      rw [ql,List.eq_nil_iff_forall_not_mem]
      intro s h
      have:=(hmem s).2 h
      cases this
     rw [this]; exact Row.box b 0 _ k1 rfl
    ·have hg:∀ s ∈ O,Shn s:=fun s h=>show s.length ≤ _ by have:=(hgood s ((hmem s).1 h)).2.1; omega
     have hsf:=ss yR (L:=O) (b:=b) (nx:=nx) (n:=O.length) k1 hb.2 rfl (by omega) hg (by omega)
     rw [Nat.mul_one]
     refine Abs.Fn.mono hsf ?_
     rintro _ H' nx' ⟨L',ps,p1,p2⟩
     have hlen:=p1.length_eq
     have:=kR p1 (by rw [hlen]; exact p2) hnd hmem
     unfold iV
     rw [← this,← hlen]
     have:=Row.box (H:=H') (sz:=1) b L'.length (L'.map ax) ps.at_ (by simp)
     rwa [Nat.mul_one] at this
  (have zz:=and_self; repeat' (first|refine zW ?_|apply a_n|apply a_x|refine zO ?_|refine vY ?_|(refine zGY ?_ ?_ <;> (intro _hg; try (exfalso; omega)))|fail)) <;> (try clear zz)
  refine aS ev0 ev0 hsort ?_
  rintro r H' nx' hr
  (have zz:=aI @o1 @o2; repeat' (first|refine zW ?_|apply a_n|refine zO ?_|refine vY ?_|refine ak rfl ?_|refine r2Y ?_|fail)) <;> (try clear zz)
  exact ci (gI hr) rfl
 have ix:=ec hi
 have hft:=tJ (k:=k) hi
 have hpm:∀ s ∈ (l.take (i + 1)).flatMap (fun s=>bx s k),s ∈ l.flatMap fun s=>bx s k:=fun s h=>by
  obtain ⟨t,t1,t2⟩:=i7.1 h
  exact i7.2 ⟨t,List.mem_of_mem_take t1,t2⟩
 have hsi:=hs _ (aX hi)
 have h8i:=h8 _ (aX hi)
 have hfx:=uZ (l.getD i default) k (show _ ≤ _ by omega)
 have hfe:(l.getD i default).length < k ∨ lR (l.getD i default) k=(bx (l.getD i default) k,0):=by
  by_cases h:(l.getD i default).length < k
  ·exact .inl h
  ·refine .inr ?_
   unfold lR
   rw [if_neg (fun h=>h hsi),if_neg (by omega),Int.toNat_natCast]
 have hcar:∀ s ∈ bx (l.getD i default) k,gr s:=fun s h=>hgood s (hpm s (by rw [hft]; exact List.mem_append_right _ h))
 by_cases hlt:(l.getD i default).length < k
 ·have z:decide (((l.getD i default).length:Int) < k)=true:=decide_eq_true (by omega)
  rw [mQ hlt,List.append_nil] at hft
  generalize l.getD i default=s at *
  (have zz:=aI @ap (aI @ix (aI @z (aI @o1 @o2))); repeat' (first|refine zW ?_|apply a_n|apply a_x|refine zO ?_|refine vY ?_|refine cTY ?_|(refine zGY ?_ ?_ <;> (intro _hg; try (exfalso; omega)))|fail)) <;> (try clear zz)
  exact ⟨(i + 1,sv,O),by dsimp only; omega,⟨by dsimp only; omega,hnx,g0,hrow,hbd,hnd,by dsimp only; rw [hft]; exact hmem⟩,ag0⟩
 have z:decide (((l.getD i default).length:Int) < k)=false:=decide_eq_false (by omega)
 rw [hfe.resolve_left hlt] at hfx
 clear hfe
 have hgP:∀ s ∈ (l.take i).flatMap (fun s=>bx s k),gr s:=fun s h=>hgood s (hpm s (by rw [hft]; exact List.mem_append_left _ h))
 have hPl:((l.take i).flatMap (fun s=>bx s k) ++ bx (l.getD i default) k).length ≤ 3500:=by
  rw [← hft]
  have:=iS (k:=k) (c:=l.take (i + 1)) (fun s h=>h8 s (List.mem_of_mem_take h))
  rw [List.length_take] at this; omega
 generalize l.getD i default=s at *
 generalize bx s k=R at *
 generalize (l.take i).flatMap (fun s=>bx s k)=P at *
 have hRl:R.length ≤ 3500:=by rw [List.length_append] at hPl; omega
 (have zz:=aI @ap (aI @aj (aI @ix (aI @z (aI @z0 (aI @o1 @o2))))); repeat' (first|refine zW ?_|apply a_n|refine zO ?_|refine vY ?_|refine cY ?_ (hp:=hfx) (hs:=by (first | refine ac ?_ rfl | apply ae); (repeat' (first | exact aa | apply ao | apply af | exact aA _)); first | done | fail)|refine cFY ?_|(refine zGY ?_ ?_ <;> (intro _hg; try (exfalso; omega)))|fail)) <;> (try clear zz)
 refine bk (X:=Nat × AV × List Spx) (fun x=>[(1,.int .i64 k),(6,.mp 0),(7,x.2.1),(15,au l),(16,.int .i64 l.length),(17,.int .i64 i),(34,au R),(35,.int .i64 R.length),(36,.int .i64 x.1)]) (fun x H nx=>x.1 ≤ R.length∧1 ≤ nx∧H 0=some [.omap ((x.2.2.map kK).map eK) (x.2.2.map fun _=>.bool true)]∧Row H 1 x.2.1 (x.2.2.map ax)∧(∀ b,cH x.2.1=some b→1 ≤ b∧b < nx)∧x.2.2.Nodup∧∀ s,s ∈ x.2.2 ↔ s ∈ P ++ R.take x.1) (fun x=>R.length - x.1) (0,sv,O) ⟨Nat.zero_le _,hnx,g0,hrow,hbd,hnd,by dsimp only; rw [List.take_zero,List.append_nil]; exact hmem⟩ ag0 ?_
 clear g0 hrow hbd hnd hmem hnx o1 o2
 rintro ⟨j,sv,O⟩ H nx ⟨j1,hnx,g0,hrow,hbd,hnd,hmem⟩
 dsimp only at j1 g0 hrow hbd hnd hmem ⊢
 obtain ⟨o1,o2⟩:=hrow.one
 have hOl:O.length ≤ 3500:=by
  have:=List.Nodup.length_le_of_subset hnd (l₂:=P ++ R.take j) (fun s h=>(hmem s).1 h)
  rw [List.length_append,List.length_take] at this
  rw [List.length_append] at hPl
  omega
 by_cases hj:j < R.length
 rotate_left
 ·rw [List.take_of_length_le (by omega)] at hmem
  have hls:bI sv=some (.int .i64 O.length):=hrow.lenS (by rw [List.length_map,Nat.mul_one]) Nat.one_pos
  have z1:decide ((4096:Int) < O.length)=false:=decide_eq_false (by omega)
  (have zz:=aI @hls (aI @z1 (aI @o1 @o2)); repeat' (first|refine zW ?_|apply a_n|apply a_x|refine zO ?_|refine vY ?_|refine cFY ?_|(refine zGY ?_ ?_ <;> (intro _hg; try (exfalso; omega)))|fail)) <;> (try clear zz)
  exact ⟨(i + 1,sv,O),by dsimp only; omega,⟨by dsimp only; omega,hnx,g0,hrow,hbd,hnd,by dsimp only; rw [hft]; exact hmem⟩,ag0⟩
 have iy:=ec hj
 have hgf:=hcar _ (aX hj)
 have hgO:∀ s ∈ O,gr s:=fun s h=>by
  rcases List.mem_append.1 ((hmem s).1 h) with h | h
  ·exact hgP s h
  ·exact hcar s (List.mem_of_mem_take h)
 have hkey:=wY (R.getD j default) hgf.1 hgf.2.1
 have hts:R.take (j + 1)=R.take j ++ [R.getD j default]:=cR hj
 have hmf:=wo (kK (R.getD j default)) (O.map kK)
 have hmk:=ye hgO hgf
 generalize R.getD j default=f at *
 by_cases hf:f ∈ O
 ·rw [if_pos (hmk.2 hf)] at hmf
  have hlt2:(O.map kK).idxOf (kK f) < (O.map kK).length:=List.idxOf_lt_length_iff.2 (hmk.2 hf)
  have hgv:mget (.bool false) false (some ((O.map kK).idxOf (kK f))) (O.map fun _=>AV.bool true)=.bool true:=by
   rw [List.length_map] at hlt2
   simp [mget,List.getD,hlt2]
  (have zz:=aI @iy (aI @o1 @o2); repeat' (first|refine zW ?_|apply a_n|refine zO ?_|refine vY ?_|refine cY ?_ (hp:=hkey) (hs:=by (first | refine ac ?_ rfl | apply ae); (repeat' (first | exact aa | apply ao | apply af | exact aA _)); first | done | fail)|(refine zGY ?_ ?_ <;> (intro _hg; try (exfalso; omega)))|fail)) <;> (try clear zz)
  refine rB ev0 g0 (by ((try simp only [bQ,ZA,reduceEqDiff,↓reduceIte,reduceAdd,reduceLeDiff]); (try with_reducible rfl)); rfl) (sN (kK f)) hmf ?_
  rw [hgv]
  (have zz:=aI @o1 @o2; repeat' (first|apply a_n|refine zO ?_|refine vY ?_|refine cFY ?_|fail)) <;> (try clear zz)
  refine ⟨(j + 1,sv,O),by dsimp only; omega,⟨by dsimp only; omega,hnx,g0,hrow,hbd,hnd,fun s=>?_⟩,ag0⟩
  dsimp only
  rw [hts,← List.append_assoc,List.mem_append,← hmem,List.mem_singleton]
  exact ⟨.inl,fun h=>h.elim id fun e=>by rw [e]; exact hf⟩
 ·rw [if_neg (fun h=>hf (hmk.1 h))] at hmf
  have hgv:mget (.bool false) false none (O.map fun _=>AV.bool true)=.bool false:=rfl
  (have zz:=aI @iy (aI @o1 @o2); repeat' (first|refine zW ?_|apply a_n|refine zO ?_|refine vY ?_|refine cY ?_ (hp:=hkey) (hs:=by (first | refine ac ?_ rfl | apply ae); (repeat' (first | exact aa | apply ao | apply af | exact aA _)); first | done | fail)|(refine zGY ?_ ?_ <;> (intro _hg; try (exfalso; omega)))|fail)) <;> (try clear zz)
  refine rB ev0 g0 (by ((try simp only [bQ,ZA,reduceEqDiff,↓reduceIte,reduceAdd,reduceLeDiff]); (try with_reducible rfl)); rfl) (sN (kK f)) hmf ?_
  rw [hgv]
  (have zz:=aI @o1 @o2; repeat' (first|refine zW ?_|apply a_n|refine zO ?_|refine vY ?_|refine cY ?_ (hp:=hkey) (hs:=by (first | refine ac ?_ rfl | apply ae); (repeat' (first | exact aa | apply ao | apply af | exact aA _)); first | done | fail)|refine cTY ?_|fail)) <;> (try clear zz)
  refine xR ev0 g0 (by ((try simp only [bQ,ZA,reduceEqDiff,↓reduceIte,reduceAdd,reduceLeDiff]); (try with_reducible rfl)); rfl) ev0 (sN (kK f)) hmf ?_
  (have zz:=aI @o1 (aI @o2 (aI @aB @aw)); repeat' (first|apply a_n|refine zO ?_|refine vY ?_|refine blY ?_|fail)) <;> (try clear zz)
  refine hJ rfl ev0 (hrow.same fun b hb=>?_) ev0 dY rfl rfl Nat.one_pos (by rw [List.length_map]; omega) (by rw [List.length_map]; omega) ?_
  ·have:=hbd b hb
   rw [ag (by omega),ag (by omega)]
  rintro s2 H2 nx2 hr2 i1 i2 i3 i4
  obtain ⟨o3,o4⟩:=hr2.one
  (have zz:=aI @o3 @o4; repeat' (first|apply a_n|refine zO ?_|refine vY ?_|fail)) <;> (try clear zz)
  refine ⟨(j + 1,s2,O ++ [f]),by dsimp only; omega,⟨by dsimp only; omega,by omega,?_,?_,fun b hb=>?_,?_,fun s=>?_⟩,ag0⟩
  ·rw [i3 0 (by omega) (fun h=>by have:=hbd 0 h; omega),ag (by omega),ai]
   simp [bu,dD]
  ·dsimp only
   rw [List.map_append]; exact hr2
  ·rcases i4 b hb with h | h
   ·have:=hbd b h; omega
   ·omega
  ·exact List.nodup_append.2 ⟨hnd,by simp,fun a ha c hc=>by simp at hc; subst hc; intro e; subst e; exact hf ha⟩
  ·dsimp only
   rw [hts,← List.append_assoc,List.mem_append,List.mem_append,← hmem]
end Go.Proofs.Ytfcenbapjhecfaa
namespace Go.Proofs.Ytfcenbapjhecfaa
open Go Go.Abs
theorem mH (K:Nat→Int):∀ n,(∀ i j,i < j→j < n→K j < 0→K i < 0)→∃ b,b ≤ n∧(∀ i,i < b→K i < 0)∧∀ i,b ≤ i→i < n→0 ≤ K i
 | 0,_=>⟨0,Nat.le_refl _,fun i h=>absurd h (by omega),fun i _ h=>absurd h (by omega)⟩
 | n + 1,hm=>by
  by_cases h:K n < 0
  ·refine ⟨n + 1,Nat.le_refl _,fun i hi=>?_,fun i h1 h2=>absurd h1 (by omega)⟩
   by_cases e:i=n
   ·subst e; exact h
   ·exact hm i n (by omega) (by omega) h
  ·obtain ⟨b,h1,h2,h3⟩:=mH K n (fun i j hi hj=>hm i j hi (by omega))
   refine ⟨b,by omega,h2,fun i hi hi2=>?_⟩
   by_cases e:i=n
   ·subst e; omega
   ·exact h3 i hi (by omega)
theorem xD {tb tf:Bool} {i j:Nat}:aY .shr tb tf (.int .u64 ((i:Int) + (j:Int))) (.int .u64 1)=some (.int .u64 (((i + j) / 2:Nat):Int)):=by
 have:=oU (k:=.u64) (a:=i + j) (b:=1) (tb:=tb) (tf:=tf) (k':=.u64) (by decide)
 simpa using this
attribute [local irreducible] aC ah aU aO aH aJ az aK aP bb Go.Abs.Fn aM Go.Abs.Pure ar aD Yl
theorem jb (c:List Spx) (k:Int) (hc:c.length ≤ 50) (hs:∀ s ∈ c,Shn s):Pure Try.prog 56 [im c,.int .i64 k] (.tup [au (dQ c k).1,.int .i64 (dQ c k).2]):=by
 refine Pure.of_c2 follows A5 (Nat.le_of_ble_eq_true rfl) ?_
 simp only [b56,cO,cG,cN,cM,cD,cF,cB,aF,aW]
 have hcc:=m9 c (show _ ≤ _ by omega) hs
 unfold dQ
 by_cases he:bo c=0
 rotate_left
 ·rw [if_pos he]
  have z:decide (bo c ≠ 0)=true:=decide_eq_true he
  (have zz:=aI @av (aI @an @z); repeat' (first|refine zW ?_|apply a_n|apply a_r|refine zO ?_|refine vY ?_|refine cY ?_ (hp:=hcc) (hs:=by (first | refine ac ?_ rfl | apply ae); (repeat' (first | exact aa | apply ao | apply af | exact bK _)); first | done | fail)|refine bxY ?_|refine cTY ?_|refine ak rfl ?_|refine r2Y ?_|fail)) <;> (try clear zz)
  exact ci (.eslsl _) rfl
 rw [if_neg (fun h=>h he)]
 rw [he] at hcc
 have z0:decide ((0:Int) ≠ 0)=false:=rfl
 obtain ⟨p1,p2,p3,p4⟩:=iq he
 by_cases hk:k < 1 ∨ 8 < k
 ·rw [if_pos hk]
  (have zz:=aI @av (aI @an @z0); repeat' (first|refine zW ?_|apply a_n|apply a_r|refine zO ?_|refine vY ?_|refine cY ?_ (hp:=hcc) (hs:=by (first | refine ac ?_ rfl | apply ae); (repeat' (first | exact aa | apply ao | apply af | exact bK _)); first | done | fail)|refine bxY ?_|refine gTY ?_|refine gFY ?_|refine cTY ?_|refine cFY ?_|(refine zGY ?_ ?_ <;> (intro _hg; try (exfalso; omega)))|refine ak rfl ?_|refine r2Y ?_|fail)) <;> (try clear zz)
  all_goals first | exact ci (.eslsl _) rfl | (exfalso; omega)
 rw [if_neg hk]
 obtain ⟨n,rfl⟩:∃ n:Nat,k=n:=⟨k.toNat,by omega⟩
 rw [Int.toNat_natCast]
 have ha:=wh c n hc p2 ⟨by omega,by omega⟩
 (have zz:=aI @av (aI @an (aI @aj @z0)); repeat' (first|refine zW ?_|apply a_n|refine zO ?_|refine vY ?_|refine cY ?_ (hp:=by first | exact hcc | exact ha) (hs:=by (first | refine ac ?_ rfl | apply ae); (repeat' (first | exact aa | apply ao | apply af | exact bK _ | exact ay _)); first | done | fail)|refine bxY ?_|refine gTY ?_|refine cFY ?_|(refine zGY ?_ ?_ <;> (intro _hg; try (exfalso; omega)))|refine ak rfl ?_|refine r2Y ?_|fail)) <;> (try clear zz)
 exact ci (ay _).snap rfl
theorem ru (l:List Spx) (v:Spx) (hl:Shn l) (hs:∀ c ∈ l,Shn c) (hv:Shn v) {b:Nat} (hb:b ≤ l.length) (h1:∀ i,i < b→aN (l.getD i default) v < 0) (h2:∀ i,b ≤ i→i < l.length→0 ≤ aN (l.getD i default) v) :
    Pure Try.prog 80 [au l,ax v,.func 40 []] (.tup [.int .i64 b,.bool (decide (b < l.length) && decide (aN (l.getD b default) v=0))]):=by
 refine Pure.of_c2 follows AP (Nat.le_of_ble_eq_true rfl) ?_
 simp only [b80,cO,cG,cN,cM,cD,cF,cB,aF,aW]
 have hl':l.length ≤ 17592186044416:=hl
 (have zz:=aI @aB (aI @aw @aj); repeat' (first|refine zW ?_|apply a_n|refine zO ?_|refine vZ ?_|fail)) <;> (try clear zz)
 refine jq (X:=Nat × Nat) (fun x=>[(0,au l),(1,ax v),(2,.func 40 []),(8,.int .i64 l.length),(9,.int .i64 x.1),(10,.int .i64 x.2)]) (fun x=>x.1 ≤ b∧b ≤ x.2∧x.2 ≤ l.length) (fun x=>x.2 - x.1) (0,l.length) ⟨Nat.zero_le _,hb,Nat.le_refl _⟩ ag0 ?_
 rintro ⟨i,j⟩ ⟨g1,g2,g3⟩
 dsimp only at g1 g2 g3 ⊢
 by_cases hij:i < j
 ·have hh:(i + j) / 2 < l.length:=by omega
  have hc:=dP (l.getD ((i + j) / 2) default) v (hs _ (aX hh)) hv
  have ix:=ec hh
  by_cases hn:aN (l.getD ((i + j) / 2) default) v < 0
  ·have hbb:(i + j) / 2 < b:=Nat.lt_of_not_le fun h=>by have:=h2 _ h hh; omega
   (have zz:=aI @aB (aI @aw (aI @aj (aI @eW (aI @xD @ix)))); repeat' (first|refine zW ?_|apply a_n|refine zO ?_|refine vZ ?_|refine cZ ?_ (hp:=hc) (hs:=by (first | refine ac ?_ rfl | apply ae); (repeat' (first | exact aa | apply ao | apply af | exact aA _)); first | done | fail)|(refine zGZ ?_ ?_ <;> (intro _hg; try (exfalso; omega)))|fail)) <;> (try clear zz)
   exact ⟨((i + j) / 2 + 1,j),⟨by omega,by omega,by omega⟩,by dsimp only; omega,ag0,rfl,rfl⟩
  ·have hbb:b ≤ (i + j) / 2:=Nat.le_of_not_lt fun h=>hn (h1 _ h)
   (have zz:=aI @aB (aI @aw (aI @aj (aI @eW (aI @xD @ix)))); repeat' (first|refine zW ?_|apply a_n|refine zO ?_|refine vZ ?_|refine cZ ?_ (hp:=hc) (hs:=by (first | refine ac ?_ rfl | apply ae); (repeat' (first | exact aa | apply ao | apply af | exact aA _)); first | done | fail)|(refine zGZ ?_ ?_ <;> (intro _hg; try (exfalso; omega)))|fail)) <;> (try clear zz)
   exact ⟨(i,(i + j) / 2),⟨by omega,by omega,by omega⟩,by dsimp only; omega,ag0,rfl,rfl⟩
 ·have ei:i=b:=by omega
  have ej:j=b:=by omega
  clear hij g1 g2 g3
  subst ei
  by_cases hlt:i < l.length
  ·have hc:=dP (l.getD i default) v (hs _ (aX hlt)) hv
   have ix:=ec hlt
   have dlt:decide ((i:Int) < (l.length:Int))=true:=decide_eq_true (by omega)
   have dij:decide ((i:Int) < (j:Int))=false:=decide_eq_false (by omega)
   (have zz:=aI @aB (aI @aw (aI @aj (aI @ix (aI @dlt @dij)))); repeat' (first|refine zW ?_|apply a_n|apply a_x|refine zO ?_|refine vZ ?_|refine cZ ?_ (hp:=hc) (hs:=by (first | refine ac ?_ rfl | apply ae); (repeat' (first | exact aa | apply ao | apply af | exact aA _)); first | done | fail)|refine gTZ ?_|refine cFZ ?_|refine ak rfl ?_|refine r2Z ?_|fail)) <;> (try clear zz)
   refine eR (am (.int _ _) (am (bn ?_) aa))
   rw [decide_eq_true hlt,Bool.true_and]
  ·have dlt:decide ((i:Int) < (l.length:Int))=false:=decide_eq_false (by omega)
   have dij:decide ((i:Int) < (j:Int))=false:=decide_eq_false (by omega)
   (have zz:=aI @aB (aI @aw (aI @aj (aI @dlt @dij))); repeat' (first|refine zW ?_|apply a_n|apply a_x|refine zO ?_|refine vZ ?_|refine gFZ ?_|refine cFZ ?_|refine ak rfl ?_|refine r2Z ?_|fail)) <;> (try clear zz)
   refine eR (am (.int _ _) (am (bn ?_) aa))
   rw [decide_eq_false hlt,Bool.false_and]
end Go.Proofs.Ytfcenbapjhecfaa
namespace Go.Proofs.Ytfcenbapjhecfaa
open Go Go.Abs
def gl (l:List Nat):List Int:=l.map fun (n:Nat)=>(n:Int)
def kq (c:Int) (rows:List (List Int)):AV:=.agg [.int .i64 c,cC rows]
theorem nb (c:Int) (rows:List (List Int)):Dat (kq c rows):=Dat.agg (DatL.cons .int (DatL.cons (nL _) DatL.nil))
structure MatOk (H:Hp) (b lo hi n:Nat) (F:Nat→List Nat) (vs:List AV):Prop where
 box:H b=some vs
 len:vs.length=n
 row:∀ j,j < n→Row H 1 (vs.getD j .undef) ((F j).map rq)
 bnd:∀ j B,j < n→cH (vs.getD j .undef)=some B→lo ≤ B∧B < hi∧B ≠ b
 apart:∀ i j B,i < n→j < n→i ≠ j→cH (vs.getD i .undef)=some B→cH (vs.getD j .undef) ≠ some B
theorem MatOk.same {H H':Hp} {b lo hi hi' n:Nat} {F G:Nat→List Nat} {vs:List AV} (h:MatOk H b lo hi n F vs) (hb:H' b=H b) (hs:∀ x,lo ≤ x→x < hi→x ≠ b→H' x=H x) (hh:hi ≤ hi') (hG:∀ j,j < n→G j=F j):MatOk H' b lo hi' n G vs :=
 ⟨hb.trans h.box,h.len,fun j hj=>by rw [hG j hj]; exact (h.row j hj).same fun B hB=>by have:=h.bnd j B hj hB; exact hs B this.1 this.2.1 this.2.2,fun j B hj hB=>by have:=h.bnd j B hj hB; exact ⟨this.1,by omega,this.2.2⟩,h.apart⟩
theorem MatOk.put {H H':Hp} {b lo hi hi' n i x:Nat} {F G:Nat→List Nat} {vs:List AV} {sv:AV} (h:MatOk H b lo hi n F vs) (hin:i < n) (hG:∀ j,j < n→G j=if j=i then F j ++ [x] else F j) (hrow:Row H' 1 sv ((F i ++ [x]).map rq)) (hB:∀ B,cH sv=some B→cH (vs.getD i .undef)=some B ∨ hi ≤ B∧B < hi'∧B ≠ b) (hb:H' b=some (vs.set i sv))
    (hs:∀ x,lo ≤ x→x < hi→x ≠ b→cH (vs.getD i .undef) ≠ some x→H' x=H x) (hh:hi ≤ hi') (hlo:lo ≤ hi):MatOk H' b lo hi' n G (vs.set i sv):=by
 have hl:=h.len
 have hg:∀ j,(vs.set i sv).getD j .undef=if i=j then sv else vs.getD j .undef:=fun j=>kp (by omega)
 refine ⟨hb,by simp [hl],fun j hj=>?_,fun j B hj=>?_,fun p q B hp hq hpq=>?_⟩
 ·rw [hg,hG j hj]
  by_cases e:i=j
  ·rw [if_pos e,if_pos e.symm,← e]; exact hrow
  ·rw [if_neg e,if_neg (fun h=>e h.symm)]
   exact (h.row j hj).same fun B hB'=>by
    have:=h.bnd j B hj hB'
    exact hs B this.1 this.2.1 this.2.2 fun h'=>h.apart i j B hin hj e h' hB'
 ·rw [hg]
  by_cases e:i=j
  ·rw [if_pos e]
   intro hB'
   rcases hB B hB' with h' | h'
   ·have:=h.bnd _ B hin h'; exact ⟨this.1,by omega,this.2.2⟩
   ·exact ⟨by omega,h'.2⟩
  ·rw [if_neg e]
   intro hB'
   have:=h.bnd j B hj hB'
   exact ⟨this.1,by omega,this.2.2⟩
 ·rw [hg,hg]
  by_cases e1:i=p
  ·rw [if_pos e1,if_neg (by omega)]
   intro h1 h2
   rcases hB B h1 with h' | h'
   ·exact h.apart i q B hin hq (by omega) h' h2
   ·have:=h.bnd q B hq h2; omega
  ·rw [if_neg e1]
   by_cases e2:i=q
   ·rw [if_pos e2]
    intro h1 h2
    rcases hB B h2 with h' | h'
    ·exact h.apart p i B hp hin (by omega) h1 h'
    ·have:=h.bnd p B hp h1; omega
   ·rw [if_neg e2]; exact h.apart p q B hp hq hpq
theorem MatOk.snap {H:Hp} {b lo hi n:Nat} {F:Nat→List Nat} {vs:List AV} (h:MatOk H b lo hi n F vs):Snap H (.msl b n 1 0 n) (cC ((List.range n).map fun i=>gl (F i))):=by
 refine ja (l:=((List.range n).map fun i=>gl (F i)).map bA) h.box h.len (by omega) (by simp) (fun y hy=>?_) (fun i a c ha hc=>?_)
 ·obtain ⟨z,_,rfl⟩:=List.mem_map.1 hy; rfl
 ·have hin:i < n:=by
    have:=(List.getElem?_eq_some_iff.1 hc).1
    simpa using this
  have hr:=h.row i hin
  rw [Nat.zero_add] at ha
  have e1:vs.getD i .undef=a:=by rw [List.getD_eq_getElem?_getD,ha]; rfl
  rw [e1] at hr
  have e2:c=bA (gl (F i)):=by
   rw [List.getElem?_map,List.getElem?_map,List.getElem?_range hin] at hc
   simpa using hc.symm
  rw [e2]
  exact vv hr
theorem MatOk.new {H:Hp} {b lo hi n:Nat} {F:Nat→List Nat} (hb:H b=some (List.replicate n .esl)) (hF:∀ j,j < n→F j=[]):MatOk H b lo hi n F (List.replicate n .esl):=by
 have hg:∀ j,j < n→(List.replicate n AV.esl).getD j .undef=.esl:=fun j hj=>by simp [List.getD,List.getElem?_replicate,hj]
 refine ⟨hb,by simp,fun j hj=>?_,fun j B hj h=>?_,fun i j B hi hj _ h=>?_⟩
 ·rw [hg j hj,hF j hj]; exact Row.nil
 ·rw [hg j hj] at h; cases h
 ·rw [hg i hi] at h; cases h
end Go.Proofs.Ytfcenbapjhecfaa
namespace Go.Proofs.Ytfcenbapjhecfaa
open Go Go.Abs
theorem py {H:Hp} {s:AV} {c:Int} {l:List (List Int)} {e f:Int} (h:Snap H s (cC l)) (he:e=f):Snap H (.tup [.agg [.int .i64 c,s],.int .i64 e]) (.tup [kq c l,.int .i64 f]):=by
 subst he; exact eR (am (nj (am (.int _ _) (am h aa))) (am (.int _ _) aa))
theorem uK {c:List Spx} {k:Nat} {s:Spx}:s ∈ iV c k ↔ ∃ t ∈ c,s ∈ bx t k:=by
 unfold iV; rw [jl,i7]
theorem ve {c:List Spx} {k:Nat}:bg aN (iV c k):=lZ dK _
theorem uF {c:List Spx} {k:Nat} (h:c.length ≤ 50) (h8:∀ s ∈ c,s.length ≤ 8):(iV c k).length ≤ 3500:=Nat.le_trans vj (Nat.le_trans (iS h8) (by omega))
attribute [local irreducible] aC ah aU aO aH aJ az aK aP bb Go.Abs.Fn aM Go.Abs.Pure ar aD Yl
end Go.Proofs.Ytfcenbapjhecfaa
namespace Go.Proofs.Ytfcenbapjhecfaa
open Go Go.Abs
def fcs (s:Spx):List Spx:=if s.length < 2 then [] else fc0 s
theorem iU {s:Spx}:(fcs s).Perm (a7 s):=by
 unfold fcs a7
 split
 ·exact List.Perm.refl _
 ·rename_i h
  exact (jg fun e=>by rw [e] at h; simp at h).symm
theorem sS {s f:Spx}:f ∈ fcs s ↔ f ∈ a7 s:=iU.mem_iff
theorem lw:∀ {s:Spx},(fc0 s).length=s.length
 | []=>rfl
 | x :: s=>by show ((fc0 s).map (x :: ·)).length + 1=_; rw [List.length_map,lw]; rfl
theorem sx:∀ {s:Spx} {i:Nat},i < s.length→(fc0 s).getD i default=s.take i ++ s.drop (i + 1)
 | [],_,h=>absurd h (by simp)
 | x :: s,0,_=>by simp [fc0]
 | x :: s,i + 1,h=>by
  have hi:i < s.length:=by simpa using h
  have:=sx hi
  show ((s :: (fc0 s).map (x :: ·)).getD (i + 1) default)=_
  have hl:i < (fc0 s).length:=by rw [lw]; exact hi
  simp only [List.getD,List.getElem?_cons_succ,List.getElem?_map,List.getElem?_eq_getElem hl,Option.map_some,Option.getD_some,List.take_succ_cons,List.drop_succ_cons,List.cons_append] at this ⊢
  rw [this]
theorem pt {s:Spx} (h:bg bt s):(a7 s).Nodup:=(mZ h).nodup dK
theorem uq {s:Spx} (h:bg bt s):(fcs s).Nodup:=iU.nodup_iff.2 (pt h)
def gZ (X Y:List Spx) (n i:Nat):List Nat:=(List.range n).filter fun k=>decide (Y.getD i default ∈ a7 (X.getD k default))
theorem tO {X Y:List Spx} {n i:Nat}:gZ X Y (n + 1) i=gZ X Y n i ++ if Y.getD i default ∈ a7 (X.getD n default) then [n] else []:=by
 unfold gZ
 rw [List.range_succ,List.filter_append]
 congr 1
 by_cases h:Y.getD i default ∈ a7 (X.getD n default)
 ·rw [if_pos h,List.filter_cons_of_pos (by simpa using h)]; rfl
 ·rw [if_neg h,List.filter_cons_of_neg (by simpa using h)]; rfl
theorem uN {X Y:List Spx} {n i:Nat}:(gZ X Y n i).length ≤ n:=by
 unfold gZ
 exact Nat.le_trans (List.length_filter_le _ _) (by simp)
def zy (X Y:List Spx):List (List Int):=(List.range Y.length).map fun i=>gl (gZ X Y X.length i)
end Go.Proofs.Ytfcenbapjhecfaa
namespace Go.Proofs.Ytfcenbapjhecfaa
open Go Go.Abs
attribute [local irreducible] aC ah aU aO aH aJ az aK aP bb Go.Abs.Fn aM Go.Abs.Pure ar aD Yl
end Go.Proofs.Ytfcenbapjhecfaa
namespace Go.Proofs.Ytfcenbapjhecfaa
open Go Go.Abs
open Nat (reduceEqDiff reduceAdd reduceLeDiff)
section
variable {P:Program} {T:Tm} {H:Hp} {nx:Nat}
theorem yK {dm:DM} {K:SP} {l:List Op2} {d:Option Nat} {sz bytes:Nat} {z:List AV} {s x:Opd} {k:IntKind} {n:Int} (hd:dm2 dm T (.apz sz bytes z s x)=true) (hs:ov T s=.esl) (hx:ov T x=.int k n) (h0:0 < n) (h1:n ≤ 9223372036854775807) (h2:n.toNat * bytes ≤ 140737488355328)
    (kk:ah P dm l (aE T d (.msl nx (n.toNat * sz) sz 0 n.toNat)) (aq H nx (a5 (.agg z) n.toNat)) (nx + 1) K):ah P dm (⟨d,none,.apz sz bytes z s x⟩ :: l) T H nx K:=by
 refine il rfl hd ?_ kk
 simp only [eU,hs,hx]
 rw [if_pos ⟨h0,h1,h2⟩]
end
theorem wP (T:Tm) (H:Hp) (x:Opd):a6 T H (.capE x)=match ov T x with | .esl=>some (.int .i64 0) | _=>none:=rfl
theorem wC (n:Nat):(a5 (.agg [.int .i64 0,.int .i64 0]) n).length=n * 2:=by simp [a5,AV.cells]
attribute [local irreducible] aC ah aU aO aH aJ az aK aP bb Go.Abs.Fn aM Go.Abs.Pure ar aD Yl
theorem wq (n:Nat) (h0:0 < n) (h1:n ≤ 1000000) (H:Hp) (nx:Nat):Abs.Fn Try.prog 94 [.esl,.int .i64 n] H nx fun r H' nx'=>r=.msl nx (n * 2) 2 0 0∧H'=aq H nx (a5 (.agg [.int .i64 0,.int .i64 0]) n)∧nx'=nx + 1:=by
 refine Abs.Fn.of_c2 follows Aw (Nat.le_of_ble_eq_true rfl) ?_
 simp only [b94,cO,cG,cN,cM,cD,cF,cB,aF,aW]
 have z1:decide ((n:Int) < 0)=false:=decide_eq_false (by omega)
 have z2:decide ((0:Int) < n)=true:=decide_eq_true (by omega)
 have s2:ip 2 .esl none (some (.int .i64 0)) none=some .esl:=rfl
 have s3:=ry (B:=nx) (n:=n * 2) (len:=n) (k:=0) (by omega) (by omega)
 rw [show ((0:Nat):Int)=0 from rfl] at s3
 (have zz:=aI @z1 (aI @z2 (aI @s2 (aI @Int.sub_zero (aI @Int.sub_self @wP)))); repeat' (first|refine zW ?_|apply a_n|refine zO ?_|refine vY ?_|refine cTY ?_|refine cFY ?_|fail)) <;> (try clear zz)
 refine yK rfl (have zz:=@s2; evY) ev0 (by omega) (by omega) (by omega) ?_
 (have zz:=@s3; repeat' (first|refine zW ?_|apply a_n|refine zO ?_|refine vY ?_|refine ak rfl ?_|refine r1Y ?_|fail)) <;> (try clear zz)
 exact ⟨rfl,rfl,rfl⟩
theorem pi {c:List Spx} {k:Nat} (hk:k < c.length):(c.take (k + 1)).flatten=(c.take k).flatten ++ c.getD k default:=by
 rw [cR hk,List.flatten_append]; simp
end Go.Proofs.Ytfcenbapjhecfaa
namespace Go.Proofs.Ytfcenbapjhecfaa
open Go Go.Abs
open Nat (reduceEqDiff reduceAdd reduceLeDiff)
theorem ym {P:Program} {T:Tm} {H:Hp} {nx:Nat} {dm:DM} {K:SP} {l:List Op2} {d:Option Nat} {sz bytes b N len n:Nat} {s x:Opd} {v:AV} {new C:List AV} (hd:dm2 dm T (.app sz bytes s x)=true) (hs:ov T s=.msl b N sz 0 len) (hb:H b=some C) (hN:C.length=N) (hx:ov T x=v) (hsrc:du sz H v=some (n,new)) (ho:AV.ones new=true) (hnl:new.length=n * sz) (hz:0 < sz) (h0:0 < N) (hle:(len + n) * sz ≤ N) (h1:(len + n) * bytes ≤ 140737488355328) (h2:len + n ≤ 9223372036854775807)
    (next:∀ C':List AV,C'.length=N→C'.take ((len + n) * sz)=C.take (len * sz) ++ new→ah P dm l (aE T d (.msl b N sz 0 (len + n))) (aq H b C') nx K) :
    ah P dm (⟨d,none,.app sz bytes s x⟩ :: l) T H nx K:=by
 by_cases e:N=len * sz
 ·have hn:n=0:=by
    rcases Nat.eq_zero_or_pos n with h | h
    ·exact h
    ·have:len * sz + 1 * 1 ≤ len * sz + n * sz:=Nat.add_le_add_left (Nat.mul_le_mul h hz) _
     rw [Nat.add_mul] at hle; omega
  subst hn
  obtain rfl:new=[]:=List.eq_nil_of_length_eq_zero (by rw [hnl,Nat.zero_mul])
  refine xJ hd hs hb hx hsrc ho hN e h1 h2 ?_
  rw [Nat.add_zero] at next ⊢
  rw [← e]
  exact next _ (by rw [List.append_nil]; exact hN) (by rw [List.append_nil,List.append_nil])
 ·refine vG hd hs hb hx hsrc ho hN (fun _=>e) h0 (by rw [Nat.zero_add]; exact hle) ?_
  have hlen:len * sz + new.length ≤ N:=by rw [hnl,← Nat.add_mul]; exact hle
  refine next _ ?_ ?_
  ·rw [eX (by rw [hN]; omega)]; exact hN
  ·simp only [bm,Nat.zero_add]
   rw [List.take_append_of_le_length (by rw [List.length_append,List.length_take,hN,hnl,Nat.add_mul]; omega),List.take_of_length_le (by rw [List.length_append,List.length_take,hN,hnl,Nat.add_mul]; omega)]
attribute [local irreducible] aC ah aU aO aH aJ az aK aP bb Go.Abs.Fn aM Go.Abs.Pure ar aD Yl
theorem um (c:List Spx) (hpos:0 < c.flatten.length) (hl:c.flatten.length ≤ 1000000) (hc:c.length ≤ 1000000) (H:Hp) (nx:Nat) :
    Abs.Fn Try.prog 79 [au c] H nx fun r H' nx'=>r=.msl nx (c.flatten.length * 2) 2 0 c.flatten.length∧H'=aq H nx (cX c.flatten)∧nx'=nx + 1:=by
 refine Abs.Fn.of_c2 follows Au (Nat.le_of_ble_eq_true rfl) ?_
 simp only [b79,cO,cG,cN,cM,cD,cF,cB,aF,aW]
 have hle:∀ k,(c.take k).flatten.length ≤ c.flatten.length:=fun k=>by
  have:c.flatten=(c.take k).flatten ++ (c.drop k).flatten:=by rw [← List.flatten_append,List.take_append_drop]
  rw [this,List.length_append]; omega
 refine fX ?_
 (have zz:=and_self; repeat' (first|apply a_n|refine zO ?_|refine vY ?_|fail)) <;> (try clear zz)
 refine fX ?_
 (have zz:=and_self; repeat' (first|apply a_n|refine zO ?_|refine vY ?_|fail)) <;> (try clear zz)
 refine bw (fun T H' nx'=>T 0=au c∧T 3=.int .i64 (c.flatten.length:Nat)∧H=H'∧nx=nx') ?_ ?_
 ·(have zz:=@aj; repeat' (first|refine zW ?_|apply a_n|refine zO ?_|refine vY ?_|fail)) <;> (try clear zz)
  refine jq (X:=Nat) (fun k=>[(0,au c),(3,.int .i64 ((c.take k).flatten.length:Nat)),(9,au c),(10,.int .i64 c.length),(11,.int .i64 (k:Nat))]) (fun k=>k ≤ c.length) (fun k=>c.length - k) 0 (by omega) (by simp (disch:=omega) only [agr,ZG,reduceEqDiff,↓reduceIte,List.take_zero,List.flatten_nil,List.length_nil] <;> simp) ?_
  intro k hk
  by_cases hk2:k < c.length
  rotate_left
  ·rw [List.take_of_length_le (by omega)]
   (have zz:=and_self; repeat' (first|refine zW ?_|apply a_n|apply a_x|refine zO ?_|refine vY ?_|(refine zGY ?_ ?_ <;> (intro _hg; try (exfalso; omega)))|fail)) <;> (try clear zz)
   exact ⟨rfl,rfl,rfl,rfl⟩
  have ix:=ec hk2
  have hle2:=hle (k + 1)
  have e:(((c.take (k + 1)).flatten.length:Nat):Int)=((c.take k).flatten.length:Nat) + ((c.getD k default).length:Nat):=by rw [pi hk2,List.length_append]; omega
  rw [pi hk2,List.length_append] at hle2
  have z:decide ((((c.take k).flatten.length:Nat):Int) + ((c.getD k default).length:Nat) < 0)=false:=decide_eq_false (by omega)
  generalize c.getD k default=s at *
  (have zz:=aI @ix (aI @ap @z); repeat' (first|refine zW ?_|apply a_n|refine zO ?_|refine vY ?_|refine cFY ?_|(refine zGY ?_ ?_ <;> (intro _hg; try (exfalso; omega)))|fail)) <;> (try clear zz)
  exact ⟨k + 1,by omega,by omega,(have zz:=@e; agZ),rfl,rfl⟩
 rintro T _ _ ⟨t0,t3,rfl,rfl⟩
 (have zz:=@t3; repeat' (first|refine zW ?_|apply a_n|refine zO ?_|refine vY ?_|fail)) <;> (try clear zz)
 refine aS ev0 (have zz:=@t3; evY) (wq c.flatten.length (by omega) (by omega) H nx) ?_
 rintro _ _ _ ⟨rfl,rfl,rfl⟩
 (have zz:=aI @t0 @aj; repeat' (first|refine zW ?_|apply a_n|refine zO ?_|refine vY ?_|fail)) <;> (try clear zz)
 refine bk (X:=Nat) (fun k=>[(6,.msl nx (c.flatten.length * 2) 2 0 (c.take k).flatten.length),(25,au c),(26,.int .i64 c.length),(27,.int .i64 (k:Nat))]) (fun k H' nx'=>k ≤ c.length∧(∃ C,H'=aq H nx C∧C.length=c.flatten.length * 2∧C.take ((c.take k).flatten.length * 2)=cX (c.take k).flatten)∧nx'=nx + 1) (fun k=>c.length - k) 0 ⟨by omega,⟨_,rfl,wC _,rfl⟩,rfl⟩ (by simp (disch:=omega) only [agr,ZG,reduceEqDiff,↓reduceIte,List.take_zero,List.flatten_nil,List.length_nil]) ?_
 rintro k _ _ ⟨hk,⟨C,rfl,h1,h2⟩,rfl⟩
 by_cases hk2:k < c.length
 rotate_left
 ·have ek:c.take k=c:=List.take_of_length_le (by omega)
  rw [ek] at h2 ⊢
  rw [List.take_of_length_le (by omega)] at h2
  subst h2
  (have zz:=and_self; repeat' (first|refine zW ?_|apply a_n|apply a_x|refine zO ?_|refine vY ?_|(refine zGY ?_ ?_ <;> (intro _hg; try (exfalso; omega)))|refine ak rfl ?_|refine r1Y ?_|fail)) <;> (try clear zz)
  exact ⟨rfl,rfl,rfl⟩
 have ix:=ec hk2
 have hle2:=hle (k + 1)
 have e:=pi hk2
 rw [e,List.length_append] at hle2
 have hcl:=fk (c.getD k default)
 have hcp:=fk (c.take k).flatten
 generalize c.getD k default=s at *
 (have zz:=@ix; repeat' (first|refine zW ?_|apply a_n|refine zO ?_|refine vY ?_|(refine zGY ?_ ?_ <;> (intro _hg; try (exfalso; omega)))|fail)) <;> (try clear zz)
 refine ym (b:=nx) (N:=c.flatten.length * 2) (len:=(c.take k).flatten.length) (n:=s.length) (C:=C) rfl ev0 ai h1 ev0 qg (gL _) (by rw [hcl]) (by omega) (by omega) (by omega) (by omega) (by omega) fun C2 c1 c2=>?_
 (have zz:=and_self; repeat' (first|apply a_n|refine zO ?_|refine vY ?_|fail)) <;> (try clear zz)
 refine ⟨k + 1,by omega,⟨by omega,⟨_,aL _ _ _ _,c1,?_⟩,rfl⟩,by simp (disch:=omega) only [agr,ZG,reduceEqDiff,↓reduceIte,e,List.length_append]⟩
 rw [e,gK,List.length_append,← h2]
 exact c2
theorem AX {P:Program} {T:Tm} {H S:Hp} {nx n:Nat} {K:SP} {l:List (Op2 × Nat)} {d:Option Nat} {i:Ins} {t:Nat} {w:Bool} (h:T t=.bool w) (k:a8 P S ((⟨d,none,i⟩,n) :: l) T H nx K):a8 P S ((⟨d,some (t,w),i⟩,n) :: l) T H nx K:=by
 have e:g2 T (some (t,w))=some true:=by simp [g2,h]
 cases n with
 | zero=>show aK (g2 T (some (t,w))) _ _; rw [e]; exact k
 | succ n=>show aK (g2 T (some (t,w))) _ _; rw [e]; exact k
theorem tF (x y:Spx) (h:0 < (x ++ y).length) (hl:(x ++ y).length ≤ 1000000):de Try.prog 79 [au [x,y]] (ax (x ++ y)):=by
 refine de.of_fn ?_
 have e:[x,y].flatten=x ++ y:=by simp
 have hc:=um [x,y] (by rw [e]; exact h) (by rw [e]; exact hl) (by simp) br 0
 rw [e] at hc
 refine Abs.Fn.mono hc ?_
 rintro _ _ _ ⟨rfl,rfl,rfl⟩
 exact lq (Row.box _ (x ++ y).length (cX (x ++ y)) ai (fk _))
theorem n5 (s:Spx) (H:Hp) (nx:Nat):Abs.Fn Try.prog 51 [ax s] H nx fun r H' nx'=>r=.func 78 [.ptr nx 1 0]∧H'=aq H nx [ax s]∧nx'=nx + 1:=by
 refine Abs.Fn.of_c2 follows Aj (Nat.le_of_ble_eq_true rfl) ?_
 simp only [b51,cO,cG,cN,cM,cD,cF,cB,aF,aW]
 (have zz:=aI @aB @aw; repeat' (first|refine zW ?_|apply a_n|refine zO ?_|refine vY ?_|refine bxY ?_|refine ak rfl ?_|refine r1Y ?_|fail)) <;> (try clear zz)
 exact ⟨rfl,rfl,rfl⟩
theorem uE {H:Hp} {b:Nat} {x y:Spx} (h:H b=some [ax x,ax y]):aD H [.msl b 2 1 0 2] [au [x,y]] :=
 am (jF (l:=[ax x,ax y]) h rfl rfl (by
  intro z hz
  simp only [List.mem_cons,List.not_mem_nil,or_false] at hz
  rcases hz with rfl | rfl
  ·exact ⟨rfl,aA _⟩
  ·exact ⟨rfl,aA _⟩)) aa
theorem oJ {s:Spx} (h:2 ≤ s.length):(fcs s).length=s.length:=by
 unfold fcs; rw [if_neg (by omega),lw]
theorem sr {s:Spx} {i:Nat} (h:2 ≤ s.length) (hi:i < s.length):(fcs s).getD i default=s.take i ++ s.drop (i + 1):=by
 unfold fcs; rw [if_neg (by omega),sx hi]
theorem nR {y sb:Nat} {s:Spx} {H:Hp} {nx:Nat} (hs:s.length ≤ 1000) (I:List Spx→Hp→Nat→Prop)
    (hp:∀ D H nx,I D H nx→H sb=some [ax s])
    (stab:∀ D H H' nx1 nx',I D H nx1→nx1 ≤ nx'→(∀ i,i < nx1→H' i=H i)→I D H' nx')
    (rnd:∀ D f H nx1,I D H nx1→D.length < (fcs s).length→f=(fcs s).getD D.length default→D=(fcs s).take D.length→Yl Try.prog y [ax f] H nx1 fun r H' nx'=>r=.bool true∧I (D ++ [f]) H' nx')
    (h0:I [] H nx) :
    Abs.Fn Try.prog 78 [.yld y,.ptr sb 1 0] H nx fun _ H' nx'=>I (fcs s) H' nx':=by
 refine Abs.Fn.of_c2 follows A4 (Nat.le_of_ble_eq_true rfl) ?_
 simp only [b78,cO,cG,cN,cM,cD,cF,cB,aF,aW]
 have g1:=hp _ _ _ h0
 (have zz:=aI @g1 (aI @aB (aI @aw @ap)); repeat' (first|refine zW ?_|apply a_n|refine zO ?_|refine vY ?_|fail)) <;> (try clear zz)
 by_cases h2:2 ≤ s.length
 rotate_left
 ·have e:fcs s=[]:=by unfold fcs; rw [if_pos (by omega)]
  rw [e]
  refine bk (X:=Nat) (fun k=>[(0,.yld y),(1,.ptr sb 1 0),(5,.int .i64 s.length),(6,.int .i64 k)]) (fun k H' nx'=>k ≤ s.length∧I [] H' nx') (fun k=>s.length - k) 0 ⟨Nat.zero_le _,h0⟩ ag0 ?_
  rintro k H1 nx1 ⟨h1,hI⟩
  have q1:=hp _ _ _ hI
  by_cases hk:k < s.length
  rotate_left
  ·(have zz:=and_self; repeat' (first|refine zW ?_|apply a_n|apply a_x|refine zO ?_|refine vY ?_|(refine zGY ?_ ?_ <;> (intro _hg; try (exfalso; omega)))|refine ak rfl ?_|fail)) <;> (try clear zz)
   exact hI
  have z:decide ((1:Int) < s.length)=false:=decide_eq_false (by omega)
  (have zz:=aI @q1 (aI @aB (aI @aw (aI @ap @z))); repeat' (first|refine zW ?_|refine zM ?_|apply a_n|refine zO ?_|refine vY ?_|refine gFY ?_|refine cFY ?_|(refine zGY ?_ ?_ <;> (intro _hg; try (exfalso; omega)))|fail)) <;> (try clear zz)
  exact ⟨k + 1,by omega,⟨by omega,hI⟩,ag0⟩
 have z:decide ((1:Int) < s.length)=true:=decide_eq_true (by omega)
 have hfl:=oJ h2
 have hfg:=fun {i:Nat} (hi:i < s.length)=>sr (i:=i) h2 hi
 refine bk (X:=Nat) (fun k=>[(0,.yld y),(1,.ptr sb 1 0),(5,.int .i64 s.length),(6,.int .i64 k)]) (fun k H' nx'=>k ≤ s.length∧I ((fcs s).take k) H' nx') (fun k=>s.length - k) 0 ⟨Nat.zero_le _,h0⟩ ag0 ?_
 rintro k H1 nx1 ⟨h1,hI⟩
 have q1:=hp _ _ _ hI
 by_cases hk:k < s.length
 rotate_left
 ·rw [List.take_of_length_le (by omega)] at hI
  (have zz:=and_self; repeat' (first|refine zW ?_|apply a_n|apply a_x|refine zO ?_|refine vY ?_|(refine zGY ?_ ?_ <;> (intro _hg; try (exfalso; omega)))|refine ak rfl ?_|fail)) <;> (try clear zz)
  exact hI
 have a1:ip 2 (ax s) none (some (.int .i64 (k:Int))) none=some (ax (s.take k)):=po (by omega)
 have a2:ip 2 (ax s) (some (.int .i64 ((k:Int) + 1))) none none=some (ax (s.drop (k + 1))):=rG (k:=k + 1) (by omega)
 have hc:=tF (s.take k) (s.drop (k + 1)) (by rw [List.length_append,List.length_take,List.length_drop]; omega) (by rw [List.length_append,List.length_take,List.length_drop]; omega)
 have hr:=rnd ((fcs s).take k) ((fcs s).getD k default) (aq H1 nx1 [ax (s.take k),ax (s.drop (k + 1))]) (nx1 + 1) (stab _ _ _ _ _ hI (by omega) fun i hi=>ag (by omega)) (by rw [List.length_take]; omega) (by rw [List.length_take,Nat.min_eq_left (by omega)]) (by rw [List.length_take,Nat.min_eq_left (by omega)])
 rw [← cR (by omega),hfg hk] at hr
 (have zz:=aI @q1 (aI @aB (aI @aw (aI @ap (aI @z (aI @a1 @a2))))); repeat' (first|refine zW ?_|apply a_n|refine zO ?_|refine vY ?_|(refine zGY ?_ ?_ <;> (intro _hg; try (exfalso; omega)))|fail)) <;> (try clear zz)
 refine ms sb q1 fun S0 hS1 hsub=>?_
 simp only [List.map_cons,List.map_nil,List.getD_cons_succ,List.getD_cons_zero]
 (have zz:=aI @hS1 (aI @aB (aI @aw (aI @ap (aI @z (aI @a1 @a2))))); repeat' (first|apply a_n|refine zO ?_|refine nvY ?_|apply kw|refine blY ?_|fail)) <;> (try clear zz)
 repeat (refine AX ev0 ?_; skip)
 refine bT ev0 ev0 hc (uE (by rw [ai])) ?_
 (have zz:=and_self; repeat' (first|apply a_n|refine zO ?_|apply kw|fail)) <;> (try clear zz)
 refine sM ev0 ev0 (Yl.mono hr ?_)
 rintro v H3 nx3 ⟨rfl,e1⟩
 (have zz:=and_self; repeat' (first|apply a_n|refine zO ?_|refine vY ?_|refine nvY ?_|refine cFY ?_|fail)) <;> (try clear zz)
 exact ⟨k + 1,by omega,⟨by omega,e1⟩,ag0⟩
end Go.Proofs.Ytfcenbapjhecfaa
namespace Go.Proofs.Ytfcenbapjhecfaa
open Go Go.Abs
open Nat (reduceEqDiff reduceAdd reduceLeDiff)
def dX:Nat→Spx→List Int
 | 0,_=>[]
 | n + 1,[]=>0 :: 0 :: dX n []
 | n + 1,v :: l=>v.color :: v.label :: dX n l
theorem jw:∀ {n:Nat} {s:Spx},(dX n s).length=2 * n
 | 0,_=>rfl
 | n + 1,[]=>by show (dX n []).length + 1 + 1=_; rw [jw]; omega
 | n + 1,v :: l=>by show (dX n l).length + 1 + 1=_; rw [jw]; omega
theorem rf:∀ {n:Nat} {s t:Spx},s.length=t.length→t.length ≤ n→dX n s=dX n t→s=t
 | _,[],[],_,_,_=>rfl
 | _,[],w :: m,h,_,_=>absurd h (by simp)
 | _,v :: l,[],h,_,_=>absurd h (by simp)
 | 0,v :: l,w :: m,_,h,_=>absurd h (by simp)
 | n + 1,v :: l,w :: m,hl,hm,e=>by
  obtain ⟨e1,e2⟩:=List.cons.inj e
  obtain ⟨e2,e3⟩:=List.cons.inj e2
  have:=rf (n:=n) (by simpa using hl) (by simpa using hm) e3
  rw [this,iP.2 ⟨e1,e2⟩]
abbrev z16:List AV:=[.int .i64 0,.int .i64 0,.int .i64 0,.int .i64 0,.int .i64 0,.int .i64 0,.int .i64 0,.int .i64 0,.int .i64 0,.int .i64 0,.int .i64 0,.int .i64 0,.int .i64 0,.int .i64 0,.int .i64 0,.int .i64 0]
theorem x8:z16=(dX 8 []).map (AV.int .i64):=rfl
theorem pW:∀ {n:Nat} {s:Spx},s.length ≤ n→cX s ++ ((dX n []).map (AV.int .i64)).drop (s.length * 2)=(dX n s).map (AV.int .i64)
 | n,[],_=>by simp [cX]
 | 0,_ :: _,h=>absurd h (by simp)
 | n + 1,v :: l,h=>by
  have:=pW (n:=n) (s:=l) (by simp at h; omega)
  show [AV.int .i64 v.color,AV.int .i64 v.label] ++ cX l ++ _=AV.int .i64 v.color :: AV.int .i64 v.label :: (dX n l).map (AV.int .i64)
  rw [← this,List.length_cons,show (l.length + 1) * 2=l.length * 2 + 1 + 1 by omega]
  rfl
def kZ (s:Spx):K16:=⟨dX 8 s,by rw [jw]⟩
theorem uP {s t:Spx} (h:s.length=t.length) (h8:t.length ≤ 8) (e:kZ s=kZ t):s=t:=rf h h8 (congrArg Subtype.val e)
theorem vT {O:List Spx} {f:Spx} {n:Nat} (hn:n ≤ 8) (hO:∀ s ∈ O,s.length=n) (hf:f.length=n):kZ f ∈ O.map kZ ↔ f ∈ O:=by
 rw [List.mem_map]
 exact ⟨fun ⟨s,h1,h2⟩=>by rw [← uP (by rw [hO s h1,hf]) (by omega) h2]; exact h1,fun h=>⟨f,h,rfl⟩⟩
theorem u5 {f:Spx} {n:Nat} (hn:n ≤ 8) (hf:f.length=n):∀ {O:List Spx},(∀ s ∈ O,s.length=n)→(O.map kZ).idxOf (kZ f)=O.idxOf f
 | [],_=>rfl
 | g :: O,hO=>by
  have ih:=u5 hn hf (O:=O) fun s hs=>hO s (List.mem_cons_of_mem _ hs)
  have hg:=hO g List.mem_cons_self
  rw [List.map_cons,List.idxOf_cons,List.idxOf_cons,ih]
  have e:(kZ g == kZ f)=(g == f):=by
   rw [Bool.eq_iff_iff,beq_iff_eq,beq_iff_eq]
   exact ⟨fun h=>uP (by rw [hg,hf]) (by omega) h,fun h=>by rw [h]⟩
  rw [e]
structure BOk (H:Hp) (n:Nat) (c:Spx→Nat) (O:List Spx) (bs:List Nat) (ck:Nat):Prop where
 box:H 0=some [.bmap ((O.map kZ).map eK) (O.map ax) bs ck]
 len:bs.length=O.length
 asc:bs.Pairwise (· < ·)
 below:∀ s ∈ bs,s < ck
 nd:O.Nodup
 all:∀ f ∈ O,f.length=n
 odd:∀ f,f ∈ O ↔ c f % 2=1
theorem BOk.same {H H':Hp} {n:Nat} {c c':Spx→Nat} {O:List Spx} {bs:List Nat} {ck:Nat} (h:BOk H n c O bs ck) (hs:H' 0=H 0) (hc:∀ f,c' f % 2=c f % 2):BOk H' n c' O bs ck :=
 ⟨hs.trans h.box,h.len,h.asc,h.below,h.nd,h.all,fun f=>by rw [hc]; exact h.odd f⟩
theorem BOk.put {H H':Hp} {n:Nat} {c c':Spx→Nat} {O:List Spx} {bs:List Nat} {ck:Nat} {f:Spx} (h:BOk H n c O bs ck) (hf:f ∉ O) (hl:f.length=n) (hH:H' 0=some [.bmap ((O.map kZ).map eK ++ [eK (kZ f)]) (O.map ax ++ [ax f]) (bs ++ [ck]) (ck + 1)]) (hc:∀ g,c' g=c g + if g=f then 1 else 0):BOk H' n c' (O ++ [f]) (bs ++ [ck]) (ck + 1):=by
 refine ⟨by rw [hH]; simp,by rw [List.length_append,List.length_append,h.len]; rfl,?_,fun s hs=>?_,?_,fun g hg=>?_,fun g=>?_⟩
 ·exact List.pairwise_append.2 ⟨h.asc,List.pairwise_singleton _ _,fun a ha b hb=>by rw [List.mem_singleton.1 hb]; exact h.below a ha⟩
 ·rcases List.mem_append.1 hs with q | q
  ·have:=h.below s q; omega
  ·rw [List.mem_singleton.1 q]; omega
 ·exact List.nodup_append.2 ⟨h.nd,by simp,fun a ha b hb e=>by rw [e,List.mem_singleton.1 hb] at ha; exact hf ha⟩
 ·rcases List.mem_append.1 hg with q | q
  ·exact h.all g q
  ·rw [List.mem_singleton.1 q]; exact hl
 ·rw [List.mem_append,List.mem_singleton,h.odd,hc]
  by_cases e:g=f
  ·subst e
   have:¬ c g % 2=1:=fun q=>hf ((h.odd g).2 q)
   rw [if_pos rfl]
   exact ⟨fun _=>by omega,fun _=>.inr rfl⟩
  ·rw [if_neg e]; simp [e]
theorem d3 {α β:Type} {f:α→β}:∀ {l:List α} {i:Nat},(l.map f).eraseIdx i=(l.eraseIdx i).map f
 | [],_=>rfl
 | a :: l,0=>rfl
 | a :: l,i + 1=>by show f a :: (l.map f).eraseIdx i=f a :: (l.eraseIdx i).map f; rw [d3]
theorem BOk.del {H H':Hp} {n:Nat} {c c':Spx→Nat} {O:List Spx} {bs:List Nat} {ck i:Nat} {f:Spx} (h:BOk H n c O bs ck) (hf:f ∈ O) (hi:O.idxOf f=i) (hH:H' 0=some [.bmap (((O.map kZ).map eK).eraseIdx i) ((O.map ax).eraseIdx i) (bs.eraseIdx i) ck]) (hc:∀ g,c' g=c g + if g=f then 1 else 0):BOk H' n c' (O.erase f) (bs.eraseIdx i) ck:=by
 have hil:i < O.length:=by rw [← hi]; exact List.idxOf_lt_length_iff.2 hf
 have he:O.erase f=O.eraseIdx i:=List.erase_eq_eraseIdx_of_idxOf hi
 refine ⟨?_,?_,h.asc.sublist (List.eraseIdx_sublist _ _),fun s hs=>h.below s ((List.eraseIdx_sublist _ _).subset hs),h.nd.erase _,fun g hg=>h.all g (List.mem_of_mem_erase hg),fun g=>?_⟩
 ·rw [hH,he]
  rw [d3,d3,d3]
 ·rw [he,List.length_eraseIdx_of_lt hil,List.length_eraseIdx_of_lt (by rw [h.len]; exact hil),h.len]
 ·rw [h.nd.mem_erase_iff,h.odd,hc]
  by_cases e:g=f
  ·subst e
   have:=(h.odd g).1 hf
   rw [if_pos rfl]
   constructor
   ·exact fun q=>absurd rfl q.1
   ·intro q; omega
  ·rw [if_neg e]; simp [e]
theorem gv {α:Type} [DecidableEq α] {a b:List α} (h:a.Nodup) (hs:∀ x ∈ a,x ∈ b):a.length ≤ b.length:=List.Nodup.length_le_of_subset h hs
theorem ug {l:List Spx} {s f:Spx}:ga (l ++ [s]) f=ga l f + (a7 s).count f:=by unfold ga; simp
theorem rM {D:List Spx} {f g:Spx} {m:Nat}:m + (D ++ [f]).count g=m + D.count g + if g=f then 1 else 0:=by
 rw [List.count_append,List.count_singleton,Nat.add_assoc]
 congr 2
 by_cases e:g=f
 ·subst e; simp
 ·rw [if_neg e,if_neg]; simp only [beq_iff_eq]; exact fun h=>e h.symm
theorem n7 {O:List Spx} {i:Nat} (h:i < O.length):(O.map ax).getD i .undef=ax (O.getD i default):=by simp [List.getD,h]
attribute [local irreducible] aC ah aU aO aH aJ az aK aP bb Go.Abs.Fn aM Go.Abs.Pure ar aD Yl
theorem vV {n:Nat} {c:Spx→Nat} {O:List Spx} {bs:List Nat} {ck:Nat} {f:Spx} {H:Hp} (hn:n ≤ 8) (h:BOk H n c O bs ck) (hf:f.length=n) :
    bE (.st [.int,.int,.int,.int,.int,.int,.int,.int,.int,.int,.int,.int,.int,.int,.int,.int]) (eK (kZ f)) ((O.map kZ).map eK)=some (if f ∈ O then some (O.idxOf f) else none):=by
 rw [wo,u5 hn hf h.all]
 by_cases e:f ∈ O
 ·rw [if_pos e,if_pos ((vT hn h.all hf).2 e)]
 ·rw [if_neg e,if_neg fun q=>e ((vT hn h.all hf).1 q)]
set_option maxHeartbeats 1000000 in
theorem lO (a:List Spx) (n:Nat) (hn:n ≤ 8) (ha:a.length ≤ 4096) (hv:∀ s ∈ a,bg bt s) (hl:∀ s ∈ a,s.length=n + 1 ∨ s.length < 2) (h8:∀ s ∈ a,s.length ≤ 8):Pure Try.prog 46 [au a] (au (bq a)):=by
 refine Pure.of_c2 follows Am (Nat.le_of_ble_eq_true rfl) ?_
 simp only [b46,cO,cG,cN,cM,cD,cF,cB,aF,aW]
 refine fX ?_
 (have zz:=and_self; repeat' (first|apply a_n|refine zO ?_|refine vY ?_|fail)) <;> (try clear zz)
 refine fX ?_
 (have zz:=and_self; repeat' (first|apply a_n|refine zO ?_|fail)) <;> (try clear zz)
 refine xT ?_
 refine oX (cs:=[.nilm]) rfl rfl rfl ?_
 (have zz:=and_self; repeat' (first|apply a_n|refine zO ?_|refine stY ?_|fail)) <;> (try clear zz)
 refine bw (fun T H nx=>T 3=.ptr 1 1 0∧2 ≤ nx∧H 1=some [.mp 0]∧∃ O bs ck,BOk H n (ga a) O bs ck) ?_ ?_
 ·(have zz:=@aj; repeat' (first|refine zW ?_|apply a_n|refine zO ?_|refine vY ?_|fail)) <;> (try clear zz)
  refine bk (X:=Nat) (fun k=>[(3,.ptr 1 1 0),(14,au a),(15,.int .i64 a.length),(16,.int .i64 k)]) (fun k H nx=>k ≤ a.length∧2 ≤ nx∧H 1=some [.mp 0]∧∃ O bs ck,BOk H n (ga (a.take k)) O bs ck) (fun k=>a.length - k) 0 ⟨Nat.zero_le _,Nat.le_refl _,by rw [ai]; rfl,[],[],0,⟨by rw [ag (by omega),ag (by omega),ai]; rfl,rfl,List.Pairwise.nil,fun s h=>(by cases h),List.nodup_nil,fun s h=>(by cases h),fun f=>⟨fun h=>(by cases h),fun h=>absurd h (by rw [List.take_zero]; exact (by decide:¬ (0:Nat) % 2=1))⟩⟩⟩ (by (iterate 4 refine And.intro rfl ?_); trivial) ?_
  rintro k H nx ⟨h1,h2,h3,O,bs,ck,h4⟩
  by_cases hk:k < a.length
  rotate_left
  ·rw [List.take_of_length_le (by omega)] at h4
   (have zz:=and_self; repeat' (first|refine zW ?_|apply a_n|apply a_x|refine zO ?_|refine vY ?_|(refine zGY ?_ ?_ <;> (intro _hg; try (exfalso; omega)))|fail)) <;> (try clear zz)
   exact ⟨rfl,h2,h3,O,bs,ck,h4⟩
  have ix:=ec hk
  have hts:=cR hk
  have hvs:=hv _ (aX hk)
  have hls:=hl _ (aX hk)
  have h8s:=h8 _ (aX hk)
  generalize a.getD k default=s at *
  (have zz:=@ix; repeat' (first|refine zW ?_|apply a_n|refine zO ?_|refine vY ?_|(refine zGY ?_ ?_ <;> (intro _hg; try (exfalso; omega)))|fail)) <;> (try clear zz)
  refine aS ev0 ev0 (n5 s H nx) ?_
  rintro _ H1 nx1 ⟨rfl,rfl,rfl⟩
  (have zz:=and_self; repeat' (first|refine zW ?_|apply a_n|refine zO ?_|fail)) <;> (try clear zz)
  refine jR (nx + 1) (nx + 2) rfl rfl ev0 (fun c0 cj hy=>?_)
  refine Abs.Fn.mono (nR (nx:=nx + 2) (y:=nx + 1) (sb:=nx) (s:=s) (by omega) (fun D H' nx'=>nx + 2 ≤ nx'∧H' nx=some [ax s]∧H' (nx + 1)=some [c0]∧H' 1=some [.mp 0]∧∃ O bs ck,BOk H' n (fun f=>ga (a.take k) f + D.count f) O bs ck) ?_ ?_ ?_ ?_) ?_
  ·rintro D H' nx' ⟨g1,g2,g3,g4⟩
   exact g2
  ·rintro D H' H'' n1 n2 ⟨g1,g2,g3,g4,O,bs,ck,g5⟩ hle hsm
   exact ⟨by omega,(hsm _ (by omega)).trans g2,(hsm _ (by omega)).trans g3,(hsm _ (by omega)).trans g4,O,bs,ck,g5.same (hsm _ (by omega)) fun _=>rfl⟩
  ·rintro D f H' nx' ⟨g1,g2,g3,g4,O,bs,ck,g5⟩ hlt hfe hDe
   refine hy _ _ _ _ g3 rfl ?_
   clear hy
   have h2s:2 ≤ s.length:=Nat.le_of_not_lt fun h=>by
    have:fcs s=[]:=by unfold fcs; rw [if_pos h]
    rw [this] at hlt; simp at hlt
   have hfl:f.length=n:=by
    rw [hfe,sr h2s (by rw [oJ h2s] at hlt; exact hlt),List.length_append,List.length_take,List.length_drop]
    rw [oJ h2s] at hlt
    omega
   clear hfe hDe
   (have zz:=and_self; repeat' (first|apply a_n|refine zO ?_|refine vY ?_|fail)) <;> (try clear zz)
   refine ⟨g3,?_⟩
   have hmf:=vV hn g5 hfl
   have q0:=(b8 (H:=H') (b:=nx + 1) (x:=0) (by omega)).trans g5.box
   have q1:=(b8 (H:=H') (b:=nx + 1) (x:=1) (by omega)).trans g4
   have q2:=(b8 (H:=H') (b:=nx + 1) (x:=nx) (by omega)).trans g2
   generalize bV H' (nx + 1)=H2 at *
   (have zz:=and_self; repeat' (first|refine zW ?_|apply a_n|refine zO ?_|refine alY ?_|fail)) <;> (try clear zz)
   generalize hH3:aq H2 nx' z16=H3
   have p0:H3 0=H2 0:=by rw [← hH3]; exact ag (by omega)
   have p1:H3 1=H2 1:=by rw [← hH3]; exact ag (by omega)
   have p2:H3 nx=H2 nx:=by rw [← hH3]; exact ag (by omega)
   have p3:H3 nx'=some z16:=by rw [← hH3]; exact ai
   clear hH3
   refine xK rfl p3 rfl rfl ?_
   (have zz:=and_self; repeat' (first|apply a_n|refine zO ?_|refine vY ?_|fail)) <;> (try clear zz)
   refine xC (n:=f.length) (H':=aq H3 nx' ((dX 8 f).map (AV.int .i64))) ?_ ?_
   ·((try simp only [bQ,ZA,reduceEqDiff,↓reduceIte,reduceAdd,reduceLeDiff]); (try with_reducible rfl))
    have hnn:dL (ax f)=some f.length:=by unfold ax eV; simp [dL]
    have htr:nW f.length (ax f)=ax f:=by unfold ax eV; simp [nW]; exact List.take_of_length_le (by simp)
    have hmin:min f.length 8=f.length:=Nat.min_eq_left (by omega)
    have hal:dL (.msl nx' 16 2 0 8)=some 8:=rfl
    have hlp:bm z16 0 (cX f)=(dX 8 f).map (AV.int .i64):=by
     rw [← pW (n:=8) (s:=f) (by omega),x8]
     simp only [bm,List.take_zero,List.nil_append,Nat.zero_add,fk]
    by_cases hf0:f.length=0
    ·obtain rfl:=List.length_eq_zero_iff.1 hf0
     have e0:(dX 8 []).map (AV.int .i64)=z16:=rfl
     rw [e0,← s7 p3]
     simp only [kF,hal,hnn,hmin]
     rfl
    ·simp only [kF,hal,hnn,hmin,if_neg hf0,p3,htr,qg]
     rw [if_pos (by refine ⟨?_,?_,?_,?_⟩ <;> first | rfl | trivial | omega | exact gL f),hlp]
   have hl16:((dX 8 f).map (AV.int .i64)).length=16:=by rw [List.length_map,jw]
   have ht:((dX 8 f).map (AV.int .i64)).take 16=(dX 8 f).map (AV.int .i64):=List.take_of_length_le (by omega)
   have r0:=(ag (H:=H3) (b:=nx') (x:=0) (cs:=(dX 8 f).map (AV.int .i64)) (by omega)).trans (p0.trans q0)
   have r1:=(ag (H:=H3) (b:=nx') (x:=1) (cs:=(dX 8 f).map (AV.int .i64)) (by omega)).trans (p1.trans q1)
   have r2:=(ag (H:=H3) (b:=nx') (x:=nx) (cs:=(dX 8 f).map (AV.int .i64)) (by omega)).trans (p2.trans q2)
   have r3:aq H3 nx' ((dX 8 f).map (AV.int .i64)) nx'=some ((dX 8 f).map (AV.int .i64)):=ai
   generalize aq H3 nx' ((dX 8 f).map (AV.int .i64))=H4 at *
   have hek:eK (kZ f)=.agg ((dX 8 f).map (AV.int .i64)):=rfl
   have hkf:=sN (kZ f)
   rw [hek] at hmf hkf
   have hcnt:∀ g,ga (a.take k) g + (D ++ [f]).count g=ga (a.take k) g + D.count g + if g=f then 1 else 0:=fun g=>rM
   by_cases hf:f ∈ O
   ·rw [if_pos hf] at hmf
    have hil:O.idxOf f < O.length:=List.idxOf_lt_length_iff.2 hf
    have hgv:mget .esl true (some (O.idxOf f)) (O.map ax)=.tup [ax (O.getD (O.idxOf f) default),.bool true]:=by
     rw [← n7 hil]; rfl
    generalize hKK:(dX 8 f).map (AV.int .i64)=KK at *
    (have zz:=aI @r1 (aI @r3 (aI @hl16 @ht)); repeat' (first|refine zW ?_|apply a_n|refine zO ?_|refine vY ?_|fail)) <;> (try clear zz)
    refine sw ev0 r0 ev0 hkf hmf ?_
    rw [hgv]
    (have zz:=aI @r1 (aI @r3 (aI @hl16 @ht)); repeat' (first|refine zW ?_|apply a_n|refine zO ?_|refine vY ?_|refine cTY ?_|fail)) <;> (try clear zz)
    refine yj ev0 r0 ev0 hkf hmf ?_
    (have zz:=and_self; repeat' (first|apply a_n|refine zO ?_|fail)) <;> (try clear zz)
    exact ⟨rfl,by omega,by rw [ag (by omega),ag (by omega)]; exact r2,ai,by rw [ag (by omega),ag (by omega)]; exact r1,O.erase f,bs.eraseIdx (O.idxOf f),ck,g5.del hf rfl (by rw [ag (by omega),ai]; rfl) hcnt⟩
   ·rw [if_neg hf] at hmf
    have hgv:mget .esl true none (O.map ax)=.tup [.esl,.bool false]:=rfl
    generalize hKK:(dX 8 f).map (AV.int .i64)=KK at *
    (have zz:=aI @r1 (aI @r3 (aI @hl16 @ht)); repeat' (first|refine zW ?_|apply a_n|refine zO ?_|refine vY ?_|fail)) <;> (try clear zz)
    refine sw ev0 r0 ev0 hkf hmf ?_
    rw [hgv]
    (have zz:=aI @r1 (aI @r3 (aI @hl16 @ht)); repeat' (first|refine zW ?_|apply a_n|refine zO ?_|refine vY ?_|refine cFY ?_|fail)) <;> (try clear zz)
    refine xf ev0 r0 ev0 ev0 hkf hmf ?_
    (have zz:=and_self; repeat' (first|apply a_n|refine zO ?_|fail)) <;> (try clear zz)
    exact ⟨rfl,by omega,by rw [ag (by omega),ag (by omega)]; exact r2,ai,by rw [ag (by omega),ag (by omega)]; exact r1,O ++ [f],bs ++ [ck],ck + 1,g5.put hf hfl (by rw [ag (by omega),ai,hek]; rfl) hcnt⟩
  ·exact ⟨Nat.le_refl _,by rw [ag (by omega),ai],ai,by rw [ag (by omega),ag (by omega)]; exact h3,O,bs,ck,h4.same (by rw [ag (by omega),ag (by omega)]) fun f=>by simp⟩
  ·rintro r H' nx' ⟨g1,g2,g3,g4,O,bs,ck,g5⟩
   refine .inl ⟨g3,?_⟩
   (have zz:=and_self; repeat' (first|apply a_n|refine zO ?_|refine vY ?_|fail)) <;> (try clear zz)
   exact ⟨k + 1,by omega,⟨by omega,by omega,by rw [b8 (by omega)]; exact g4,O,bs,ck,g5.same (b8 (by omega)) fun f=>by rw [hts,ug,iU.count_eq]⟩,ag0⟩
 rintro T H nx ⟨t3,h2,h3,O,bs,ck,h4⟩
 have hO70:O.length ≤ 300000:=by
  have he:=dq hv
  have h5:O.length ≤ (bq a).length:=gv h4.nd fun f hf=>(he.2 f).2 ((h4.odd f).1 hf)
  have:=oE h8
  omega
 (have zz:=aI @t3 @h3; repeat' (first|refine zW ?_|apply a_n|refine zO ?_|refine vY ?_|fail)) <;> (try clear zz)
 refine wU ev0 h4.box ?_
 (have zz:=and_self; repeat' (first|refine zW ?_|apply a_n|refine zO ?_|fail)) <;> (try clear zz)
 have hbn:bs.Nodup:=List.Pairwise.imp (fun {x y} (h:x < y) e=>by omega) h4.asc
 refine bk (X:=List Nat × List Spx × AV) (fun x=>[(10,x.2.2),(40,.itr nx)]) (fun x H' nx'=>H' nx=some [.biter 0 ck x.1]∧nx < nx'∧BOk H' n (ga a) O bs ck∧x.1.Nodup∧(∀ s ∈ x.1,s ∈ bs)∧x.2.1=x.1.map (fun s=>O.getD (bs.idxOf s) default)∧Row H' 1 x.2.2 (x.2.1.map ax)∧∀ b,cH x.2.2=some b→nx < b∧b < nx') (fun x=>bs.length - x.1.length) ([],[],.esl) ⟨ai,Nat.lt_succ_self _,h4.same (ag (by omega)) fun _=>rfl,List.nodup_nil,fun s h=>(by cases h),rfl,Row.nil,fun b h=>(by cases h)⟩ (by (iterate 2 refine And.intro rfl ?_); trivial) ?_
 rintro ⟨seen,D,sv⟩ H1 nx1 ⟨hit,hnx,k4,hsn,hsb,hD,hrow,hbd⟩
 dsimp only at hit hsn hsb hD hrow hbd ⊢
 have hsl:seen.length ≤ bs.length:=gv hsn hsb
 have hDl:D.length=seen.length:=by rw [hD,List.length_map]
 have hbl:=k4.len
 (have zz:=and_self; repeat' (first|refine zW ?_|apply a_n|refine zO ?_|fail)) <;> (try clear zz)
 refine wO ev0 hit k4.box (fun i s hi hns=>?_) (fun hall=>?_)
 ·(have zz:=and_self; repeat' (first|refine zW ?_|apply a_n|refine zO ?_|refine vY ?_|refine cTY ?_|fail)) <;> (try clear zz)
  refine ww (i:=i) (s:=s) ev0 ai (by rw [ag (by omega)]; exact k4.box) (by simp) hi ?_
  obtain ⟨hil,his⟩:=List.getElem?_eq_some_iff.1 hi
  have hgx:=n7 (O:=O) (i:=i) (by omega)
  have hidx:bs.idxOf s=i:=by
   have h5:=List.idxOf_lt_length_iff.2 (show s ∈ bs by rw [← his]; exact List.getElem_mem hil)
   have h6:bs[bs.idxOf s]=bs[i]:=by rw [List.getElem_idxOf h5,his]
   exact (List.getElem_inj hbn).1 h6
  have hsnd:(seen ++ [s]).Nodup:=List.nodup_append.2 ⟨hsn,by simp,fun x hx y hy e=>by rw [e,List.mem_singleton.1 hy] at hx; exact hns hx⟩
  have hssb:∀ x ∈ seen ++ [s],x ∈ bs:=fun x hx=>by
   rcases List.mem_append.1 hx with q | q
   ·exact hsb x q
   ·rw [List.mem_singleton.1 q,← his]; exact List.getElem_mem hil
  have hsl2:=gv hsnd hssb
  rw [List.length_append,List.length_singleton] at hsl2
  (have zz:=aI @hgx (aI @aB @aw); repeat' (first|apply a_n|refine zO ?_|refine vY ?_|refine blY ?_|fail)) <;> (try clear zz)
  refine hJ rfl ev0 (hrow.same fun b hb=>?_) ev0 dY rfl rfl Nat.one_pos (by rw [List.length_map]; omega) (by rw [List.length_map]; omega) ?_
  ·have:=hbd b hb
   rw [ag (by omega),ag (by omega)]
  rintro s2 H2 nx2 hr2 i1 i2 i3 i4
  have lo:∀ x,x ≤ nx→H2 x=aq H1 nx [.biter 0 ck (seen ++ [s])] x:=fun x hx=>(i3 x (by omega) (fun h=>by have:=hbd x h; omega)).trans (ag (by omega))
  (have zz:=and_self; repeat' (first|apply a_n|refine zO ?_|refine vY ?_|fail)) <;> (try clear zz)
  refine ⟨(seen ++ [s],D ++ [O.getD i default],s2),by dsimp only; rw [List.length_append,List.length_singleton]; omega,⟨(lo nx (Nat.le_refl _)).trans ai,by omega,k4.same ((lo 0 (by omega)).trans (ag (by omega))) fun _=>rfl,hsnd,hssb,?_,?_,fun b hb=>?_⟩,ag0⟩
  ·dsimp only
   rw [hD,List.map_append,List.map_singleton,hidx]
  ·dsimp only
   rw [List.map_append]; exact hr2
  ·rcases i4 b hb with h | h
   ·have:=hbd b h; omega
   ·omega
 ·have hperm:seen.Perm bs:=(List.perm_ext_iff_of_nodup hsn hbn).2 fun x=>⟨hsb x,hall x⟩
  have hDO:D.Perm O:=by
   rw [hD]
   refine (hperm.map _).trans (List.Perm.of_eq ?_)
   refine List.ext_getElem (by rw [List.length_map]; exact hbl) fun j g1 g2=>?_
   rw [List.length_map] at g1
   have h5:bs.idxOf bs[j]=j:=by
    have h5:=List.idxOf_lt_length_iff.2 (List.getElem_mem g1)
    have h6:bs[bs.idxOf bs[j]]=bs[j]:=List.getElem_idxOf h5
    exact (List.getElem_inj hbn).1 h6
   rw [List.getElem_map,h5]
   simp [List.getD,g2]
  have hDn:D.Nodup:=hDO.nodup_iff.2 k4.nd
  have hDm:∀ s,s ∈ D ↔ s ∈ bq a:=fun s=>by rw [hDO.mem_iff,k4.odd,(dq hv).2]
  have hfin:=wB dK (dU hv)
  have hsort:Abs.Fn Try.prog 73 [sv,.func 40 []] H1 nx1 fun _ H' nx'=>Row H' 1 sv ((bq a).map ax):=by
   generalize hcs:D.map ax=cs at hrow
   cases hrow with
   | nil =>
    have hD0:D=[]:=List.map_eq_nil_iff.1 hcs
    refine Abs.Fn.mono (ji rfl) ?_
    rintro _ _ _ ⟨rfl,rfl⟩
    have:bq a=[]:=by
     rw [List.eq_nil_iff_forall_not_mem]
     intro s h
     have:=(hDm s).2 h
     rw [hD0] at this; cases this
    rw [this]; exact Row.nil
   | box b len cs k1 k2 =>
    obtain rfl:len=D.length:=by rw [← hcs,List.length_map] at k2; omega
    have hb:=hbd b rfl
    subst hcs
    by_cases h0:D.length=0
    ·have hD0:D=[]:=List.length_eq_zero_iff.1 h0
     have he:bq a=[]:=by
      rw [List.eq_nil_iff_forall_not_mem]
      intro s h
      have:=(hDm s).2 h
      rw [hD0] at this; cases this
     have hrw:Row H1 1 (.msl b (D.length * 1) 1 0 D.length) ((bq a).map ax):=by
      have:=Row.box (H:=H1) (sz:=1) b D.length _ k1 (by rw [List.length_map,Nat.mul_one])
      rw [he]; rwa [hD0] at this ⊢
     refine Abs.Fn.mono (ji (by rw [h0]; rfl)) ?_
     rintro _ _ _ ⟨_,e⟩
     rw [e]; exact hrw
    ·have hg:∀ s ∈ D,Shn s:=fun s h=>show s.length ≤ _ by have:=k4.all s (hDO.mem_iff.1 h); omega
     have hsf:=ss yR (L:=D) (b:=b) (nx:=nx1) (n:=D.length) k1 hb.2 rfl (by omega) hg (by omega)
     rw [Nat.mul_one]
     refine Abs.Fn.mono hsf ?_
     rintro _ H' nx' ⟨L',ps,p1,p2⟩
     have hlen:=p1.length_eq
     have:=kR p1 (by rw [hlen]; exact p2) hDn hDm
     rw [hfin] at this
     rw [← this,← hlen]
     have:=Row.box (H:=H') (sz:=1) b L'.length (L'.map ax) ps.at_ (by simp)
     rwa [Nat.mul_one] at this
  (have zz:=and_self; repeat' (first|refine zW ?_|apply a_n|apply a_x|refine zO ?_|refine vY ?_|refine cFY ?_|fail)) <;> (try clear zz)
  refine aS ev0 ev0 hsort ?_
  rintro r H' nx' hr
  (have zz:=and_self; repeat' (first|refine zW ?_|apply a_n|refine zO ?_|refine vY ?_|refine ak rfl ?_|refine r1Y ?_|fail)) <;> (try clear zz)
  exact gI hr
end Go.Proofs.Ytfcenbapjhecfaa