/- Texts of this claim, one after the other: T177, T179, T178, T180, T181, T144, T147, T148, T182, T183, T185, T190, T186, T187, T229, T230, T231, T232, T233, T234, T235, T236, T245, T246, T243, T244, T261, U2i, U14i, T247, T248, T249, T250, T237, T259, T238, T260, T188, T240, T251, T252, T253, T239, T241, T200, T202, T263, T254, T255, T256, T262, T270, T264, T265, T269, T266, T267, T268, T257, T258, T271, T272, T273, T118, T121. -/
import Derived.Test.YtekdaafnjdlenaaGreatXG5
import Derived.Test.YtekdaafnjdlenaaGreatXG4
import Derived.Test.YtekdaafnjdlenaaGreatXG3
import Derived.Test.YtekdaafnjdlenaaGreatRows
import Derived.WalkKit
import Derived.ProofKit
import Derived.OpenShut

set_option linter.unusedSimpArgs false
set_option linter.unusedVariables false
set_option maxHeartbeats 1000000
namespace Go.Proofs.YtekdaafnjdlenaaGreat
open Go Go.Abs
def on3 (b1:Nat) (c1:List AV) (b2:Nat) (c2:List AV) (b3:Nat) (c3:List AV):Hp:=fun x=>if x=b1 then some c1 else if x=b2 then some c2 else if x=b3 then some c3 else none
theorem xp {P:Program} {T:Tm} {H:Hp} {nx:Nat} (b1 b2 b3:Nat) {c1 c2 c3:List AV} {K:CP} {m:Nat} {l:List Op2} {C:List (Nat × Nat)} (h1:H b1=some c1) (h2:H b2=some c2) (h3:H b3=some c3) (n1:b2 ≠ b1) (n2:b3 ≠ b1) (n3:b3 ≠ b2) (k:∀ S:Hp,S b1=some c1→S b2=some c2→S b3=some c3→(∀ H':Hp,H' b1=some c1→H' b2=some c2→H' b3=some c3→Sub S H')→a5 P S (C.map fun k=>(l.getD k.1 ⟨none,none,.dead⟩,k.2)) T H nx fun T H nx=>K .normal T H nx):aA P (.mixS m l C) T H nx K:=by
 have hsub:∀ H':Hp,H' b1=some c1→H' b2=some c2→H' b3=some c3→Sub (on3 b1 c1 b2 c2 b3 c3) H':=fun H' a b c x cs h=>by
  unfold on3 at h;split at h
  ·rename_i e; rw [e,a]; exact h
  split at h
  ·rename_i e; rw [e,b]; exact h
  split at h
  ·rename_i e; rw [e,c]; exact h
  ·cases h
 refine sF (on3 b1 c1 b2 c2 b3 c3) rfl (hsub H h1 h2 h3) (k _ ?_ ?_ ?_ hsub)
 ·unfold on3; rw [if_pos rfl]
 ·unfold on3; rw [if_neg n1,if_pos rfl]
 ·unfold on3; rw [if_neg n2,if_neg n3,if_pos rfl]
theorem xm {α:Type} {p q:Prop} [Decidable p] [Decidable q] (h:p ↔ q) {a b:α}:(if p then a else b)=if q then a else b:=by
 by_cases hq:q
 ·rw [if_pos hq,if_pos (h.2 hq)]
 ·rw [if_neg hq,if_neg fun x=>hq (h.1 x)]
def Aa (c:List Spx) (d:Int):List Spx × Int:=if d < 0 then ([],0) else c8 c (d + 1)
def aZ (c:List Spx) (d:Int):List Spx:=if d ≤ 0 then [] else ft c d.toNat
def rA (c:List Spx) (d:Int):(Int × List (List Int)) × Int:=if ay c ≠ 0 then ((0,[]),ay c) else if d < 0 ∨ 8 ≤ d then ((0,[]),2) else ((((aZ c (d + 1)).length:Nat),fy (aZ c (d + 1)) (aZ c d)),0)
theorem C6 {c:List Spx} {d:Int} (hc:ay c=0) (h1:-1 ≤ d) (h2:d < 8):Aa c d=(aZ c (d + 1),0):=by
 unfold Aa aZ c8;by_cases h:d < 0
 ·rw [if_pos h,if_pos (by omega)]
 ·rw [if_neg h,if_neg (fun q=>q hc),if_neg (by omega),if_neg (by omega)]
theorem zF {c:List Spx} {d:Int}:cI bq (aZ c d):=by
 unfold aZ; split
 ·exact cI.nil
 ·exact AX
theorem eT {c:List Spx} {d:Int} (hc:c.length ≤ 50) (h:ay c=0):(aZ c d).length ≤ 3500:=by
 unfold aZ; split
 ·exact bB _
 ·exact lS hc (F9 (ce h).2.1)
theorem mU {c:List Spx} {d:Int} {s:Spx}:s ∈ aZ c d ↔ 0 < d∧s.length=d.toNat∧∃ t ∈ c,s.Sublist t:=by
 unfold aZ; split
 ·exact ⟨fun h=>(by cases h),fun h=>absurd h.1 (by omega)⟩
 ·rw [ph];constructor
  ·rintro ⟨t,t1,t2⟩;exact ⟨by omega,(dp.1 t2).2,t,t1,(dp.1 t2).1⟩
  ·rintro ⟨_,h1,t,t1,t2⟩;exact ⟨t,t1,dp.2 ⟨t2,h1⟩⟩
theorem jp {c:List Spx} {d:Int} (h:ay c=0):∀ s ∈ aZ c d,cf s=0:=fun s hs=>by
 obtain ⟨h1,h2,t,t1,t2⟩:=mU.1 hs;obtain ⟨p1,p2,p3,p4⟩:=cC ((ce h).2.1 t t1);have:=t2.length_le;exact AN ⟨by omega,by omega⟩ (p3.sublist t2) fun v hv=>p4 v (t2.subset hv)
attribute [local irreducible] aA ag a8 aQ aK aL ar aN aU bd Go.Abs.Fn aP Go.Abs.Pure an aG Yl
theorem A0 (l:List Spx) (v:Spx) (hl:Shn l) (hs:∀ c ∈ l,Shn c) (hv:Shn v) (ha:cI bq l):∃ b:Nat,pU 80 [aD l,aB v] (.tup [.int .i64 b,.bool (decide (v ∈ l))])∧(v ∈ l→b < l.length∧l.getD b default=v):=by
 obtain ⟨b,hb,h1,h2⟩:=qg (fun i=>bq (l.getD i default) v) l.length (fun i j hij hj h=>rm.trans (dP ha hij hj) h);have hc:=wu l v hl hs hv hb h1 h2
 have he:(decide (b < l.length) && decide (bq (l.getD b default) v=0))=decide (v ∈ l)∧(v ∈ l→b < l.length∧l.getD b default=v):=by
  by_cases hm:v ∈ l
  ·obtain ⟨i,hi,e⟩:=jx hm;have e':l.getD i default=v:=by simp [List.getD,hi,e]
   have hbi:b=i:=by
    rcases qY b i with h | h | h
    ·have h3:=h2 b (aR _) (by omega);have h4:=dP ha h hi;rw [e'] at h4; omega
    ·exact h
    ·have h3:=h1 i h;rw [e',fw] at h3; omega
   subst hbi;rw [aX hi,aX hm,e',aX (fw v)];exact ⟨rfl,fun _=>⟨hi,rfl⟩⟩
  ·rw [aS hm];refine ⟨?_,fun h=>absurd h hm⟩;by_cases hlt:b < l.length
   ·rw [aX hlt,Bool.true_and,aS];intro h;exact hm (by rw [← oY h]; exact aC hlt)
   ·rw [aS hlt,Bool.false_and]
 rw [he.1] at hc;refine ⟨b,?_,he.2⟩;refine pO HT ?_;simp only [b80,aJ];refine wnZ (zI4 @bC @bh @ak @ah) ?_;exact bD (ai (.int _ _) (ai (.bool _) ao))
theorem Df (c:List Spx) (d:Int) (hd:d ≤ 1000) (hc:c.length ≤ 50) (hs:∀ s ∈ c,Shn s):pU 83 [b9 c,.int .i64 d] (.tup [aD (Aa c d).1,.int .i64 (Aa c d).2]):=by
 refine pO HX ?_;simp only [b83,aJ];unfold Aa;by_cases h:d < 0
 ·have z:decide (d < 0)=true:=aX h;rw [if_pos h];refine wnY (zI3 @z @ak @ah) ?_;exact fZ (.eslsl _) rfl
 ·have z:decide (d < 0)=false:=aS h;rw [if_neg h];have hS:=mg c (d + 1) hc hs;refine wnY (zI3 @z @ak @ah) ?_;exact fZ (cE _).snap rfl
set_option maxHeartbeats 2000000 in
theorem ED (c:List Spx) (d:Int) (hc:c.length ≤ 50) (hs:∀ s ∈ c,Shn s):pU 112 [b9 c,.int .i64 d] (.tup [ez (rA c d).1.1 (rA c d).1.2,.int .i64 (rA c d).2]):=by
 refine pO F6 ?_;simp only [FS,aJ];have hcc:=kf c (show _ ≤ _ by omega) hs;unfold rA;by_cases he:ay c=0
 rotate_left
 ·rw [if_pos he];have z:decide (ay c ≠ 0)=true:=aX he;refine wnY (zI3 @ak @ah @z) ?_;exact kM (.eslsl _) rfl
 rw [if_neg (fun h=>h he)];rw [he] at hcc;have z0:decide ((0:Int) ≠ 0)=false:=rfl;by_cases hd:d < 0 ∨ 8 ≤ d
 ·rw [if_pos hd];have zz:=aI @ak (aI @ah @z0); repeat' (first|refine zW ?_|apply a_n|apply a_r|refine zO ?_|refine vY ?_|refine cY ?_ (hp:=hcc) (hs:=by (first | refine aH ?_ rfl | apply aW); (repeat' (first | exact ao | apply br | apply aY | exact eO _)); first | done | fail)|refine alY ?_|refine bxY ?_|refine stY ?_|refine gTY ?_|refine gFY ?_|refine cTY ?_|refine cFY ?_|(refine zGY ?_ ?_ <;> (intro _hg; try (exfalso; omega)))|refine b4 rfl ?_|refine r2Y ?_|fail)
  all_goals first | exact kM (.eslsl _) rfl | (exfalso; omega)
 rw [if_neg hd];have hX:=Df c d (by omega) hc hs;have hY:=Df c (d - 1) (by omega) hc hs;rw [C6 he (by omega) (by omega)] at hX hY;rw [show d - 1 + 1=d by omega] at hY;have hXl:=eT (d:=d + 1) hc he;have hYl:=eT (d:=d) hc he;have hXm:=jp (d:=d + 1) he;have hYm:=pH (jp (d:=d) he);have hYa:=zF (c:=c) (d:=d);generalize aZ c (d + 1)=X at *;generalize aZ c d=Y at *;have z1:decide (d < 0)=false:=aS (by omega);have z2:decide (8 ≤ d)=false:=aS (by omega);have hzc:ba (AV.agg [AV.esl]) Y.length=List.replicate Y.length .esl:=by simp [ba,AV.cells]
 refine wnY (zI6 @ak @ah @ae @z0 @z1 @z2) ?_;refine xA (k1:=.i64) (k2:=.i64) (n:=Y.length) (m:=Y.length) rfl ev0 ev0 (by omega) (Int.le_refl _) (by omega) (by omega) ?_;rw [cm,hzc,Nat.mul_one];refine wnY @ae ?_;refine lpI (X:=Nat × List AV) (fun x=>[(4,.ptr 1 2 0),(9,.ptr 2 1 0),(10,.ptr 4 2 0),(56,aD X),(57,.int .i64 X.length),(58,.int .i64 x.1)]) (fun x H' nx'=>x.1 ≤ X.length∧5 ≤ nx'∧H' 1=some [.int .i64 0,.esl]∧H' 2=some [aD Y]∧H' 4=some [.int .i64 X.length,.msl 3 Y.length 1 0 Y.length]∧MatOk H' 3 5 nx' Y.length (fU X Y x.1) x.2) (fun x=>X.length - x.1) (0,List.replicate Y.length .esl) ⟨bB _,aR _,by (repeat rw [ab (by omega)]); rw [af],by (repeat rw [ab (by omega)]); rw [af]; rfl,by rw [af]; rfl,MatOk.new (by (repeat rw [ab (by omega)]); rw [af]) (fun j _=>rfl)⟩ ?_;rintro ⟨k,vs⟩ H nx ⟨h1,h2,g1,g2,g4,hmat⟩;dsimp only at h1 h2 g1 g2 g4 hmat ⊢;by_cases hk:k < X.length
 rotate_left
 ·obtain rfl:k=X.length:=by omega
  have hst:Snap (aj H 1 [.int .i64 X.length,.msl 3 Y.length 1 0 Y.length]) (.msl 3 Y.length 1 0 Y.length) (bJ (fy X Y)):=(hmat.same (hi':=nx) (G:=fU X Y X.length) (ab (by omega)) (fun x x1 x2 x3=>ab (by omega)) (aR _) (fun j _=>rfl)).snap;refine wnY (aI @g4 @g1) ?_;exact kM hst rfl
 have ix:=eI hk;have hsim:=hXm _ (aC hk);have hF:∀ i,fU X Y (k + 1) i=fU X Y k i ++ if Y.getD i default ∈ eh (X.getD k default) then [k] else []:=fun i=>rG
 generalize X.getD k default=s at *;obtain ⟨p1,p2,p3,p4⟩:=cC hsim;refine wnY @ix ?_;refine bg ev0 ev0 (yX s _ _) ?_;rintro _ H1 nx1 ⟨rfl,rfl,rfl⟩;refine wnY and_self ?_;refine rI (nx + 2) (nx + 3) rfl rfl ev0 (fun c0 cj hy=>?_);refine Abs.Fn.mono (yO (nx:=nx + 3) (y:=nx + 2) (sb:=nx + 1) (s:=s) (by omega) (fun D H' nx'=>nx + 3 ≤ nx'∧H' (nx + 1)=some [aB s]∧H' (nx + 2)=some [c0]∧H' nx=some [.int .i64 (k:Int)]∧H' 1=some [.int .i64 0,.esl]∧H' 2=some [aD Y]∧H' 4=some [.int .i64 X.length,.msl 3 Y.length 1 0 Y.length]∧∃ vs,MatOk H' 3 5 nx' Y.length (fun i=>fU X Y k i ++ if Y.getD i default ∈ D then [k] else []) vs∧∀ j B,j < Y.length→bS (vs.getD j .undef)=some B→B < nx ∨ nx + 3 ≤ B) ?_ ?_ ?_ ?_) ?_
 ·rintro D H' nx' ⟨j1,j2,_⟩;exact j2
 ·rintro D H' H'' n1 n2 ⟨j1,j2,j3,j4,j5,j6,j7,vs,j8,j9⟩ hle hsm;exact ⟨by omega,(hsm _ (by omega)).trans j2,(hsm _ (by omega)).trans j3,(hsm _ (by omega)).trans j4,(hsm _ (by omega)).trans j5,(hsm _ (by omega)).trans j6,(hsm _ (by omega)).trans j7,vs,j8.same (hsm _ (by omega)) (fun x x1 x2 x3=>hsm x x2) hle (fun _ _=>rfl),j9⟩
 ·rintro D f H' nx' ⟨j1,j2,j3,j4,j5,j6,j7,vs,j8,j9⟩ hlt hfe hDe;refine hy _ _ _ _ j3 rfl ?_;clear hy;have hfm:f ∈ fcs s:=by rw [hfe]; exact aC hlt
  have hfD:f ∉ D:=fun h=>by
   rw [hDe] at h;have hnd:=zG p3;have e:=dz hlt;have h5:=(wj.1 (by rw [← e]; exact hnd.sublist (List.take_sublist _ _):((fcs s).take D.length ++ [(fcs s).getD D.length default]).Nodup)).2.2 _ h _ (dY.2 rfl);exact h5 hfe
  have hfs:=pM.1 (yp.1 hfm);have hfn:Shn f:=by show _ ≤ _; omega
  clear hfe hDe hlt hfm;refine wnY and_self ?_;refine ⟨j3,?_⟩;have hd:∀ x,x ≠ nx + 2→c9 H' (nx + 2) x=H' x:=fun x hx=>cQ hx;generalize c9 H' (nx + 2)=H2 at *;have q2:=(hd 2 (by omega)).trans j6;have q3:=(hd 3 (by omega)).trans j8.box;have q4:=(hd 4 (by omega)).trans j7;have qk:=(hd nx (by omega)).trans j4;obtain ⟨p,hpl,hpm⟩:=A0 Y f (show _ ≤ _ by omega) hYm hfn hYa;by_cases hin:f ∈ Y
  rotate_left
  ·rw [aS hin] at hpl;refine wnY (zI3 @q2 @ak @ah) ?_;refine ⟨rfl,j1,(ab (by omega)).trans ((hd _ (by omega)).trans j2),af,(ab (by omega)).trans qk,(ab (by omega)).trans ((hd _ (by omega)).trans j5),(ab (by omega)).trans q2,(ab (by omega)).trans q4,vs,j8.same ((ab (by omega)).trans (hd _ (by omega))) (fun x x1 x2 x3=>?_) (aR _) (fun j hj=>?_),j9⟩
   ·by_cases e:x=nx + 2
    ·rw [e,af,j3]
    ·rw [ab e,hd x e]
   ·have hne:Y.getD j default ≠ f:=fun e=>hin (by rw [← e]; exact aC hj)
    congr 1
    exact xm (by rw [eX,dY]; exact ⟨fun h=>h.resolve_right hne,.inl⟩)
  rw [aX hin] at hpl;obtain ⟨pl1,pl2⟩:=hpm hin;have hFD:fU X Y k p ++ (if Y.getD p default ∈ D then [k] else [])=fU X Y k p:=by rw [pl2,if_neg hfD,gx]
  have hrow:Row H2 1 (vs.getD p .undef) ((fU X Y k p).map pI):=by
   have:=j8.row p pl1;rw [hFD] at this;exact this.same fun b hb=>hd b (by have:=j9 p b pl1 hb; omega)
  have hvs:vs[p]?=some (vs.getD p .undef):=by
   have:=j8.len;simp [List.getD,show p < vs.length by omega]
  have hlen:=j8.len
  have hb3:∀ b,bS (vs.getD p .undef)=some b→5 ≤ b∧b < nx'∧b ≠ 3∧(b < nx ∨ nx + 3 ≤ b):=fun b hb=>by
   have h5:=j8.bnd p b pl1 hb;have h6:=j9 p b pl1 hb;exact ⟨h5.1,h5.2.1,h5.2.2,h6⟩
  generalize hrv:vs.getD p .undef=rv at *;refine wnY (zI3 @q2 @ak @ah) ?_;refine xp 4 3 nx q4 q3 qk (by omega) (by omega) (by omega) fun S0 hS1 hS2 hS3 hsub=>?_;have hFl:=po (X:=X) (Y:=Y) (n:=k) (i:=p);refine wnY (zI5 @hS1 @hS2 @hS3 @hvs @hlen) ?_;refine f8 ?_;refine wnY and_self ?_;refine ⟨hsub _ (by rw [ab (by omega)]; exact q4) (by rw [ab (by omega)]; exact q3) (by rw [ab (by omega)]; exact qk),?_⟩;refine f8 ?_;refine eR (hrow.same fun b hb=>?_) ?_
  ·have:=hb3 b hb; rw [ab (by omega)]
  rintro s2 H4 nx4 hr2 i1 i2 i3 i4;have lo:∀ x,x < nx'→bS rv ≠ some x→H4 x=H2 x:=fun x x1 x2=>(i3 x (by omega) x2).trans (ab (by omega));have l3:H4 3=H2 3:=lo 3 (by omega) (fun h=>by have:=hb3 _ h; omega);have l4:H4 4=H2 4:=lo 4 (by omega) (fun h=>by have:=hb3 _ h; omega);have lk:H4 nx=H2 nx:=lo nx (by omega) (fun h=>by have:=hb3 _ h; omega);have lo2:∀ x,x < nx + 3→5 ≤ x→nx ≤ x→H4 x=H2 x:=fun x x1 x2 x3=>lo x (by omega) (fun h=>by have:=hb3 _ h; omega);have lo5:∀ x,x < 5→H4 x=H2 x:=fun x x1=>lo x (by omega) (fun h=>by have:=hb3 _ h; omega);obtain ⟨o1,o2⟩:=hr2.one;have m3:=l3.trans q3;refine qc ⟨hsub _ (l4.trans q4) m3 (lk.trans qk),?_⟩
  have hlp:bu vs p [s2]=vs.set p s2:=by
   simp only [bu,dh,fu,b6];rw [Ep,if_pos (by omega)]; simp
  have zz:=aI @m3 (aI @o1 (aI @o2 (aI @hlen @hlp))); repeat' (first|apply a_n|refine zO ?_|refine nvY ?_|apply jD|refine stY ?_|fail)
  have hB2:∀ b,bS s2=some b→(bS rv=some b ∨ nx' ≤ b)∧b < nx4:=fun b hb=>by
   rcases i4 b hb with h | h
   ·exact ⟨.inl h,by have:=hb3 b h; omega⟩
   ·exact ⟨.inr (by omega),by omega⟩
  have hwd:∀ x,x ≠ 3→x ≠ nx + 2→aj (aj H4 3 (vs.set p s2)) (nx + 2) [c0] x=H4 x:=fun x x1 x2=>by rw [ab x2,ab x1]
  rw [hlp];refine ⟨rfl,by omega,?_,af,?_,?_,?_,?_,vs.set p s2,?_,?_⟩
  ·rw [hwd _ (by omega) (by omega),lo2 _ (by omega) (by omega) (by omega),hd _ (by omega)]; exact j2
  ·rw [hwd _ (by omega) (by omega),lk]; exact qk
  ·rw [hwd _ (by omega) (by omega),lo5 _ (by omega),hd _ (by omega)]; exact j5
  ·rw [hwd _ (by omega) (by omega),lo5 _ (by omega)]; exact q2
  ·rw [hwd _ (by omega) (by omega),l4]; exact q4
  ·refine j8.put (sv:=s2) (x:=k) (i:=p) pl1 (fun j hj=>?_) ?_ (fun b hb=>?_) (by rw [ab (by omega),af]) (fun x x1 x2 x3 x4=>?_) (by omega) (by omega)
   ·by_cases e:j=p
    ·subst e;rw [if_pos rfl,pl2,if_neg hfD,if_pos (lW _ (dY.2 rfl)),gx]
    ·rw [if_neg e]
     have hne:Y.getD j default ≠ f:=fun h=>e (by
      rcases qY j p with h' | h' | h'
      ·have:=dP hYa h' pl1;rw [h,pl2,fw] at this; omega
      ·exact h'
      ·have:=dP hYa h' hj;rw [h,pl2,fw] at this; omega)
     congr 1
     exact xm (by rw [eX,dY]; exact ⟨fun h=>h.resolve_right hne,.inl⟩)
   ·rw [hFD,db];refine hr2.same fun b hb=>hwd b ?_ ?_
    ·have:=hB2 b hb;rcases this.1 with h | h
     ·have:=hb3 b h; omega
     ·omega
    ·have:=hB2 b hb;rcases this.1 with h | h
     ·have:=hb3 b h; omega
     ·omega
   ·rw [hrv];have:=hB2 b hb;rcases this.1 with h | h
    ·exact .inl h
    ·exact .inr ⟨h,this.2,by omega⟩
   ·rw [hrv] at x4;by_cases e:x=nx + 2
    ·rw [e,af,j3]
    ·rw [hwd x x3 e,lo x x2 x4,hd x e]
  ·intro j B hj hB;rw [nM (by omega)] at hB;by_cases e:p=j
   ·rw [if_pos e] at hB;have:=hB2 B hB;rcases this.1 with h | h
    ·have:=hb3 B h; omega
    ·omega
   ·rw [if_neg e] at hB;exact j9 j B hj hB
 ·have hlk:bu [AV.int .i64 0] 0 [.int .i64 (k:Int)]=[.int .i64 (k:Int)]:=rfl;have hw:∀ x,x ≠ nx→x ≠ nx + 1→x ≠ nx + 2→aj (aj (aj (aj H nx [.int .i64 0]) nx (bu [.int .i64 0] 0 [.int .i64 (k:Int)])) (nx + 1) [aB s]) (nx + 2) [c0] x=H x:=fun x x1 x2 x3=>by rw [ab x3,ab x2,ab x1,ab x1]
  refine ⟨aR _,by rw [ab (by omega),af],af,by rw [ab (by omega),ab (by omega),af]; rfl,(hw _ (by omega) (by omega) (by omega)).trans g1,(hw _ (by omega) (by omega) (by omega)).trans g2,(hw _ (by omega) (by omega) (by omega)).trans g4,vs,hmat.same (hw _ (by omega) (by omega) (by omega)) (fun x x1 x2 x3=>hw x (by omega) (by omega) (by omega)) (by omega) (fun j _=>by simp),fun j B hj hB=>by have:=hmat.bnd j B hj hB; omega⟩
 ·rintro r H' nx' ⟨j1,j2,j3,j4,j5,j6,j7,vs2,j8,j9⟩;refine .inl ⟨j3,?_⟩;refine wnY and_self ?_;refine ⟨(k + 1,vs2),by dsimp only; omega,⟨by dsimp only; omega,by omega,(cQ (by omega)).trans j5,(cQ (by omega)).trans j6,(cQ (by omega)).trans j7,?_⟩,ag0⟩;dsimp only
  have hrows:∀ j,j < Y.length→fU X Y (k + 1) j=fU X Y k j ++ if Y.getD j default ∈ fcs s then [k] else []:=fun j _=>by
   rw [hF]; congr 1; exact xm yp.symm
  exact ⟨(cQ (by omega)).trans j8.box,j8.len,fun j hj=>by rw [hrows j hj]; exact (j8.row j hj).same fun b hb=>cQ (by have:=j9 j b hj hb; omega),fun j B hj hB=>by have:=j8.bnd j B hj hB; exact this,j8.apart⟩
end Go.Proofs.YtekdaafnjdlenaaGreat
namespace Go.Proofs.YtekdaafnjdlenaaGreat
open Go Go.Abs
theorem sy {H:Hp} {s:AV} {l:List Int} {e f:Int} (h:Snap H s (az l)) (he:e=f):Snap H (.tup [s,.int .i64 e]) (.tup [az l,.int .i64 f]):=by
 subst he; exact bD (ai h (ai (.int _ _) ao))
attribute [local irreducible] aA ag a8 aQ aK aL ar aN aU bd Go.Abs.Fn aP Go.Abs.Pure an aG Yl
set_option maxHeartbeats 2000000 in
theorem y9 (X Y:List Spx) (hXl:X.length ≤ 4000) (hYl:Y.length ≤ 4000) (hX:∀ s ∈ X,Shn s) (hY:∀ s ∈ Y,Shn s) (hin:∀ i k,i < Y.length→k < X.length→dw (Y.getD i default) (X.getD k default)=decide (Y.getD i default ∈ eh (X.getD k default))):pU 110 [aD X,aD Y] (ez X.length (fy X Y)):=by
 refine pO FX ?_;simp only [EY,aJ];refine wnY @ae ?_;refine yb (X:=Nat × AV) (fun x=>[(0,aD X),(1,aD Y),(4,.ptr 0 2 0),(5,.ptr 1 2 0),(6,.int .i64 x.1)]) (fun x H nx=>x.1 ≤ Y.length∧2 ≤ nx∧H 0=some [.int .i64 0,.esl]∧H 1=some [.int .i64 X.length,x.2]∧Row H 1 x.2 ((List.range x.1).map fun j=>az (eN (fU X Y X.length j)))∧∀ b,bS x.2=some b→2 ≤ b∧b < nx) (fun x=>Y.length - x.1) (0,.esl) ⟨bA,_,Fz.none,⟨bB _,aR _,by (repeat rw [ab (by omega)]); rw [af],by rw [af]; rfl,Row.nil,fun b h=>(by cases h)⟩,.inl rfl,.inl rfl,.inl rfl,.inl rfl,.inl rfl,trivial⟩ ?_;rintro ⟨i,sv⟩ H nx ⟨h1,h2,g0,g1,hrow,hbd⟩;dsimp only at h1 g1 hrow hbd ⊢;obtain ⟨o1,o2⟩:=hrow.one;by_cases hi:i < Y.length
 rotate_left
 ·obtain rfl:i=Y.length:=by omega
  refine wnY (zI5 @ae @g0 @g1 @o1 @o2) ?_
  have hr2:Row (aj H 0 [.int .i64 X.length,sv]) 1 sv ((fy X Y).map az):=by
   unfold fy;rw [List.map_map];exact hrow.same fun b hb=>ab (by have:=hbd b hb; omega)
  exact kr (ai (.int _ _) (ai hr2.snapV ao))
 have iy:=eI hi;have hYi:=hY _ (aC hi);have hF:∀ k,fU X Y (k + 1) i=fU X Y k i ++ if Y.getD i default ∈ eh (X.getD k default) then [k] else []:=fun k=>rG
 have hini:=fun k hk=>hin i k hi hk;generalize Y.getD i default=t at *;refine wnY @ae ?_;refine bR (X:=Nat × AV) (fun x=>[(0,aD X),(1,aD Y),(4,.ptr 0 2 0),(5,.ptr 1 2 0),(6,.int .i64 i),(7,x.2),(8,.int .i64 x.1)]) (fun x H' nx'=>x.1 ≤ X.length∧nx ≤ nx'∧(∀ y,y < nx→H' y=H y)∧Row H' 1 x.2 ((fU X Y x.1 i).map pI)∧∀ b,bS x.2=some b→nx ≤ b∧b < nx') (fun x=>X.length - x.1) (0,.esl) ⟨bB _,aR _,fun _ _=>rfl,Row.nil,fun b h=>(by cases h)⟩ ag0 ?_;rintro ⟨k,rv⟩ H' nx' ⟨k1,k2,k3,krow,kbd⟩;dsimp only at k1 krow kbd ⊢;obtain ⟨o3,o4⟩:=krow.one;have g1':H' 1=some [.int .i64 X.length,sv]:=(k3 1 (by omega)).trans g1;have g0':H' 0=some [.int .i64 0,.esl]:=(k3 0 (by omega)).trans g0;by_cases hk:k < X.length
 rotate_left
 ·obtain rfl:k=X.length:=by omega
  have hr1:Row H' 1 sv ((List.range i).map fun j=>az (eN (fU X Y X.length j))):=hrow.same fun b hb=>k3 b (by have:=hbd b hb; omega);refine wnY (zI4 @ae @g1' @o3 @o4) ?_;refine kX rfl ev0 (hr1.same fun b hb=>?_) ev0 fH (by simp [AV.ones,o3]) rfl mV (by simp; omega) (by simp; omega) ?_
  ·have:=hbd b hb; rw [ab (by omega)]
  rintro s2 H2 nx2 hr2 i1 i2 i3 i4;have lo:∀ x,x < nx'→bS sv ≠ some x→H2 x=H' x:=fun x x1 x2=>(i3 x (by omega) x2).trans (ab (by omega));have l4:∀ x,x < 2→H2 x=H' x:=fun x x1=>lo x (by omega) (fun h=>by have:=hbd _ h; omega);have g42:H2 1=some [.int .i64 X.length,sv]:=(l4 1 (by omega)).trans g1';obtain ⟨o5,o6⟩:=hr2.one;have kr2:Row H2 1 rv ((fU X Y X.length i).map pI):=krow.same fun b hb=>lo b (by have:=kbd b hb; omega) (fun h=>by have:=hbd b h; have:=kbd b hb; omega)
  have hb2:∀ b,bS s2=some b→2 ≤ b∧b < nx2∧bS rv ≠ some b:=fun b hb=>by
   rcases i4 b hb with h | h
   ·have:=hbd b h;exact ⟨by omega,by omega,fun e=>by have:=kbd b e; omega⟩
   ·exact ⟨by omega,by omega,fun e=>by have:=kbd b e; omega⟩
  refine wnY (zI3 @g42 @o5 @o6) ?_;obtain ⟨Hf,H5,hfz,hr5,hs5⟩:=sQ (H:=aj H2 1 (bu [.int .i64 X.length,sv] 1 [s2])) (hr2.same fun b hb=>ab (by have:=hb2 b hb; omega)) (kr2.same fun b hb=>ab (by have:=kbd b hb; omega)) (fun b hb e=>(hb2 b e).2.2 hb);have hlow:∀ x,x < 2→H5 x=aj H2 1 (bu [.int .i64 X.length,sv] 1 [s2]) x:=fun x hx=>hs5 x (fun e=>by have:=kbd x e; omega) (fun e=>by have:=hb2 x e; omega);refine ⟨(i + 1,s2),by dsimp only; omega,Hf,H5,hfz,⟨by dsimp only; omega,by omega,?_,?_,?_,fun b hb=>?_⟩,iP ag0⟩
  ·rw [hlow 0 (by omega),ab (by omega),l4 0 (by omega)]; exact g0'
  ·rw [hlow 1 (by omega),af]; rfl
  ·dsimp only;rw [List.range_succ,db]; exact hr5
  ·have:=hb2 b hb; omega
 have ix:=eI hk;have hXk:=hX _ (aC hk);have hinc:=tH t (X.getD k default) hYi hXk;rw [hini k hk] at hinc;have hFk:=hF k;have hFl:=po (X:=X) (Y:=Y) (n:=k) (i:=i);generalize X.getD k default=s at *;by_cases he2:t ∈ eh s
 ·rw [aX he2] at hinc;rw [if_pos he2] at hFk;refine wkY (zI3 @ae @ix @iy) ?_;refine eR (krow.same fun b hb=>?_) ?_
  ·have:=kbd b hb; rw [ab (by omega)]
  rintro r2 H2 nx2 hr2 i1 i2 i3 i4;obtain ⟨o5,o6⟩:=hr2.one;refine wnY (aI @o5 @o6) ?_;refine ⟨(k + 1,r2),by dsimp only; omega,⟨by dsimp only; omega,by omega,fun y hy=>?_,?_,fun b hb=>?_⟩,ag0⟩
  ·rw [i3 y (by omega) (fun h=>by have:=kbd _ h; omega),ab (by omega)]; exact k3 y hy
  ·dsimp only;rw [hFk,db]; exact hr2
  ·rcases i4 b hb with h | h
   ·have:=kbd b h; omega
   ·omega
 ·rw [aS he2] at hinc;rw [if_neg he2,gx] at hFk;refine wkY (zI3 @ae @ix @iy) ?_;exact ⟨(k + 1,rv),by dsimp only; omega,⟨by dsimp only; omega,k2,k3,by dsimp only; rw [hFk]; exact krow,kbd⟩,ag0⟩
theorem uk {s f:Spx} {n:Nat} (hs:cI cl s) (hf:cI cl f) (hsl:s.length=n + 1) (hfl:f.length=n) (hn:1 ≤ n):dw f s=decide (f ∈ eh s):=by
 rw [Bool.eq_iff_iff,d7,eZ,pM];exact ⟨fun h=>⟨by omega,CQ vW hf hs h,by omega⟩,fun h v hv=>h.2.1.subset hv⟩
end Go.Proofs.YtekdaafnjdlenaaGreat
namespace Go.Proofs.YtekdaafnjdlenaaGreat
open Go Go.Abs
theorem ixV {l:List Int} {k:Nat} (h:k < l.length):ey 1 (az l) (.int .i64 (k:Int))=some (.iptr [.int .i64 (l.getD k default)] 0):=by
 rw [kA,if_pos ⟨by omega,by omega⟩,cm]
theorem cw {l:List Int}:c6 (az l)=some (.int .i64 l.length):=qJ
attribute [local irreducible] aA ag a8 aQ aK aL ar aN aU bd Go.Abs.Fn aP Go.Abs.Pure an aG Yl
end Go.Proofs.YtekdaafnjdlenaaGreat
namespace Go.Proofs.YtekdaafnjdlenaaGreat
open Go Go.Abs
structure PairV where
 a:List Spx
 b:List Spx
 d:Int
attribute [local irreducible] aA ag a8 aQ aK aL ar aN aU bd Go.Abs.Fn aP Go.Abs.Pure an aG Yl
theorem BO (l m:List Int) (hl:l.length ≤ 1000000) (hm:m.length ≤ 1000000):pU 17 [az l,az m] (.bool (decide (l=m))):=by
 refine pO HR ?_;simp only [b17,aJ]
 repeat' (first|refine zW ?_|apply a_n|apply a_r|refine zO ?_|refine vZ ?_|(refine zGZ ?_ ?_ <;> (intro _hg; try (exfalso; omega)))|refine b4 rfl ?_|refine r1Z ?_|fail)
 ·refine b5 ?_
  symm; rw [decide_eq_false_iff_not]; rintro rfl; omega
 refine ll (X:=Nat) (fun k=>[(0,az l),(1,az m),(12,.int .i64 l.length),(13,.int .i64 k)]) (fun k=>k ≤ l.length∧∀ i,i < k→l.getD i default=m.getD i default) (fun k=>l.length - k) 0 ⟨bB _,by simp⟩ ag0 ?_;rintro k ⟨h1,h2⟩
 repeat' (first|refine zW ?_|apply a_n|apply a_x|apply a_r|refine zO ?_|refine vZ ?_|(refine zGZ ?_ ?_ <;> (intro _hg; try (exfalso; omega)))|refine b4 rfl ?_|refine r1Z ?_|fail)
 ·refine b5 ?_
  symm; rw [decide_eq_false_iff_not]; rintro rfl; exact absurd rfl ‹_›
 ·refine ⟨k + 1,⟨by omega,fun i hi=>?_⟩,by omega,ag0,rfl,rfl⟩;rcases ju.1 hi with h | rfl
  ·exact h2 i h
  ·omega
 ·refine b5 ?_
  symm; rw [u9]
  refine List.ext_getElem (by omega) (fun i h3 h4=>?_);have:=h2 i (by omega);simpa [List.getD,h3,h4] using this
end Go.Proofs.YtekdaafnjdlenaaGreat
namespace Go.Proofs.YtekdaafnjdlenaaGreat
open Go Go.Abs
theorem Ai {H:Hp} {b n:Nat} {cs:List AV} {l:List (List Int)} (hb:H b=some cs) (hn:cs.length=n) (h:aG H cs (l.map az)):Snap H (.msl b n 1 0 n) (bJ l):=by
 have hl:=h.1;refine gH (l:=l.map az) hb hn (by omega) (by omega) (fun y hy=>?_) (fun i a c ha hc=>?_)
 ·obtain ⟨z,_,rfl⟩:=bU.1 hy; rfl
 ·rw [b6] at ha;exact h.2 i a c ha hc
attribute [local irreducible] aA ag a8 aQ aK aL ar aN aU bd Go.Abs.Fn aP Go.Abs.Pure an aG Yl
end Go.Proofs.YtekdaafnjdlenaaGreat
namespace Go.Proofs.YtekdaafnjdlenaaGreat
open Go Go.Abs
theorem bV.nodup {l:List Int} (h:bV l):l.Nodup:=wB (fun {x y} (h:x < y) e=>by omega) h
theorem BM {l:List Nat} {x:Int}:x ∈ eN l ↔ ∃ i:Nat,i ∈ l∧(i:Int)=x:=by unfold eN; exact bU
theorem r6 {l:List Nat} (h:l.Pairwise (· < ·)):bV (eN l):=by
 unfold eN bV;rw [List.pairwise_map];exact wB (fun {a b} (h:a < b)=>by omega) h
theorem Aw {X Y:List Spx} {n i:Nat}:(fU X Y n i).Pairwise (· < ·):=List.pairwise_lt_range.sublist List.filter_sublist
theorem zZ {X Y:List Spx} {n i j:Nat}:j ∈ fU X Y n i ↔ j < n∧Y.getD i default ∈ eh (X.getD j default):=by
 unfold fU;simp only [iz,dB,eZ]
theorem Al {X Y:List Spx}:(fy X Y).length=Y.length:=by unfold fy; simp
theorem sI {X Y:List Spx} (hX:X.length ≤ 4096) (hY:Y.length ≤ 4096):sq X.length (fy X Y):=by
 refine ⟨by omega,by omega,by rw [Al]; exact hY,fun r hr=>?_⟩;unfold fy at hr;obtain ⟨i,hi,rfl⟩:=bU.1 hr;refine ⟨fun v hv=>?_,?_,BW (r6 Aw)⟩
 ·unfold eN at hv;obtain ⟨j,hj,rfl⟩:=bU.1 hv;have:=(zZ.1 hj).1;omega
 ·unfold eN;rw [bF];exact eW po hX
attribute [local irreducible] aA ag a8 aQ aK aL ar aN aU bd Go.Abs.Fn aP Go.Abs.Pure an aG Yl
theorem Hb {l:List (List Int)} {k:Nat} (h:k < l.length):ey 1 (bJ l) (.int .i64 (k:Int))=some (.iptr [az (l.getD k default)] 0):=by
 rw [qx,if_pos ⟨by omega,by omega⟩,cm]
theorem dQ {l:List (List Int)}:c6 (bJ l)=some (.int .i64 l.length):=n4
end Go.Proofs.YtekdaafnjdlenaaGreat
namespace Go.Proofs.YtekdaafnjdlenaaGreat
open Go Go.Abs
def trF (R:List (List Int)) (n q:Nat):List Nat:=(List.range n).filter fun i=>decide ((q:Int) ∈ R.getD i default)
def trL (c:Nat) (R:List (List Int)):List (List Int):=(List.range c).map fun q=>eN (trF R R.length q)
attribute [local irreducible] aA ag a8 aQ aK aL ar aN aU bd Go.Abs.Fn aP Go.Abs.Pure an aG Yl
end Go.Proofs.YtekdaafnjdlenaaGreat
namespace Go.Proofs.YtekdaafnjdlenaaGreat
open Go Go.Abs
theorem hU (v:Int) (ks:List Int):cK (.one .int) (.int .i64 v) (ks.map (AV.int .i64))=some (if v ∈ ks then some (ks.idxOf v) else none) :=
 kG _ (AV.int .i64) (fun a b=>rfl) v ks
theorem Hq (v:Int):∀ {l:List Int},bV l→∃ b,b ≤ l.length∧(∀ i,i < b→l.getD i default < v)∧∀ i,b ≤ i→i < l.length→v ≤ l.getD i default
 | [],_=>⟨0,aR _,fun i h=>absurd h (by omega),fun i _ h=>absurd h (by simp)⟩
 | x :: l,h=>by
  obtain ⟨h1,h2⟩:=jv.1 h;by_cases hx:x < v
  ·obtain ⟨b,b1,b2,b3⟩:=Hq v h2;refine ⟨b + 1,by simp; omega,fun i hi=>?_,fun i hi hl=>?_⟩
   ·match i with
    | 0=>exact hx
    | i + 1=>exact b2 i (by omega)
   ·match i with
    | 0=>omega
    | i + 1=>exact b3 i (by omega) (by simp at hl; omega)
  ·refine ⟨0,bB _,fun i h=>absurd h (by omega),fun i _ hl=>?_⟩
   match i with
   | 0=>show v ≤ x; omega
   | i + 1 =>
    have:=h1 (l.getD i default) (aC (by simp at hl; omega));show v ≤ l.getD i default;omega
theorem DQ {v:Int} {l:List Int} {b:Nat} (h1:∀ i,i < b→l.getD i default < v) (h2:∀ i,b ≤ i→i < l.length→v ≤ l.getD i default) (ha:bV l):(decide (b < l.length) && decide (l.getD b default=v))=decide (v ∈ l):=by
 by_cases hm:v ∈ l
 ·obtain ⟨i,hi,e⟩:=jx hm;have e':l.getD i default=v:=by simp [List.getD,hi,e]
  have hbi:b=i:=by
   rcases qY b i with h | h | h
   ·have h3:=h2 b (aR _) (by omega);have h4:=oE.1 ha b i (by omega) hi h;have e5:l.getD b default=l[b]:=by simp [List.getD,show b < l.length by omega]
    omega
   ·exact h
   ·have:=h1 i h; omega
  subst hbi;rw [aX hi,aX hm,aX e']; rfl
 ·rw [aS hm];by_cases hlt:b < l.length
  ·rw [aX hlt,Bool.true_and,aS];intro h;exact hm (by rw [← h]; exact aC hlt)
  ·rw [aS hlt,Bool.false_and]
attribute [local irreducible] aA ag a8 aQ aK aL ar aN aU bd Go.Abs.Fn aP Go.Abs.Pure an aG Yl
theorem Cg (x y:Int):pU 187 [.int .i64 x,.int .i64 y] (.bool (decide (x < y))):=by
 have h1:=iv x;have h2:=iv y;refine pO FV ?_;simp only [Gy,aJ];refine wnZ and_self ?_;exact .bool _
theorem wL (l:List Int) (v:Int) (hl:l.length ≤ 1000000000) (ha:bV l):∃ b:Nat,pU 163 [az l,.int .i64 v] (.tup [.int .i64 b,.bool (decide (v ∈ l))]):=by
 obtain ⟨b,hb,h1,h2⟩:=Hq v ha;refine ⟨b,?_⟩;rw [← DQ h1 h2 ha];refine pO FC ?_;simp only [Gi,aJ];refine wnZ @cw ?_;refine ll (X:=Nat × Nat) (fun x=>[(0,az l),(1,.int .i64 v),(6,.int .i64 l.length),(7,.int .i64 x.1),(8,.int .i64 x.2)]) (fun x=>x.1 ≤ b∧b ≤ x.2∧x.2 ≤ l.length) (fun x=>x.2 - x.1) (0,l.length) ⟨bB _,hb,aR _⟩ ag0 ?_;rintro ⟨i,j⟩ ⟨g1,g2,g3⟩;dsimp only at g1 g2 g3 ⊢;by_cases hij:i < j
 ·have hh:(i + j) / 2 < l.length:=by omega
  have hc:=Cg (l.getD ((i + j) / 2) default) v;have ix:=ixV hh;by_cases hn:l.getD ((i + j) / 2) default < v
  ·rw [aX hn] at hc;have hbb:(i + j) / 2 < b:=Nat.lt_of_not_le fun h=>by have:=h2 _ h hh; omega
   refine wnZ (zI4 @cw @fJ @ya @ix) ?_;exact ⟨((i + j) / 2 + 1,j),⟨by omega,by omega,by omega⟩,by dsimp only; omega,ag0,rfl,rfl⟩
  ·rw [aS hn] at hc;have hbb:b ≤ (i + j) / 2:=Nat.le_of_not_lt fun h=>hn (h1 _ h);refine wnZ (zI4 @cw @fJ @ya @ix) ?_;exact ⟨(i,(i + j) / 2),⟨by omega,by omega,by omega⟩,by dsimp only; omega,ag0,rfl,rfl⟩
 ·have ei:i=b:=by omega
  have ej:j=b:=by omega
  clear hij g1 g2 g3;subst ei;have dij:decide ((i:Int) < (j:Int))=false:=aS (by omega);by_cases hlt:i < l.length
  ·have hc:=iv (l.getD i default);have ix:=ixV hlt;have hna:=iv v
   have hn2:∀ n:Int,pU 188 [.int .i64 n] (.bool false):=fun n=>by
    refine pO Fi ?_;simp only [Gc,aJ];refine wnZ and_self ?_;exact b5 (by simp)
   have dlt:decide ((i:Int) < (l.length:Int))=true:=aX (by omega);by_cases hv:l.getD i default=v
   ·have dv:decide (l.getD i default=v)=true:=aX hv;rw [dv,aX hlt,Bool.true_and];refine wnZ (zI5 @cw @ix @dlt @dij @dv) ?_;exact bD (ai (.int _ _) (ai (.bool _) ao))
   ·have dv:decide (l.getD i default=v)=false:=aS hv;rw [dv,Bool.and_false];have zz:=aI @cw (aI @ix (aI @dlt (aI @dij @dv))); repeat' (first|refine zW ?_|apply a_n|apply a_x|refine zO ?_|refine vZ ?_|refine cZ ?_ (hp:=by exact hn2 _)|refine gTZ ?_|refine gFZ ?_|refine cFZ ?_|refine b4 rfl ?_|refine r2Z ?_|fail)
    exact bD (ai (.int _ _) (ai (.bool _) ao))
  ·have dlt:decide ((i:Int) < (l.length:Int))=false:=aS (by omega);rw [aS hlt,Bool.false_and];refine wnZ (zI3 @cw @dlt @dij) ?_;exact bD (ai (.int _ _) (ai (.bool _) ao))
theorem EF (l:List Int) (v:Int) (hl:l.length ≤ 1000000000) (ha:bV l):pU 146 [az l,.int .i64 v] (.bool (decide (v ∈ l))):=by
 obtain ⟨b,hb⟩:=wL l v hl ha;refine pO Ha ?_;simp only [GX,aJ];refine wnZ and_self ?_;exact .bool _
end Go.Proofs.YtekdaafnjdlenaaGreat
namespace Go.Proofs.YtekdaafnjdlenaaGreat
open Go Go.Abs
def BL (c n:Nat) (x:Ln):Prop:=(∀ z ∈ x.1,0 ≤ z∧z < (c:Int))∧∀ j ∈ x.2,0 ≤ j∧j < (n:Int)
theorem o7 {a:List Int} {c:Nat} (ha:bV a) (h:∀ z ∈ a,0 ≤ z∧z < (c:Int)):a.length ≤ c:=by
 have hn:a.Nodup:=wB (fun {x y} (q:x < y) e=>by omega) ha
 have:=wM hn (l₂:=(List.range c).map fun (k:Nat)=>(k:Int)) fun z hz=>by
  have:=h z hz;exact bU.2 ⟨z.toNat,dB.2 (by omega),by show ((z.toNat:Nat):Int)=z; omega⟩
 simpa using this
theorem BL.len {c n:Nat} {x:Ln} (h:BL c n x) (ha:b8 x):x.1.length ≤ c∧x.2.length ≤ n:=⟨o7 ha.1 h.1,o7 ha.2 h.2⟩
theorem BL.add {c n:Nat} {x l:Ln} (hx:BL c n x) (hl:BL c n l) (ax:b8 x) (al:b8 l):BL c n (dx x l):=by
 refine ⟨fun z hz=>?_,fun z hz=>?_⟩
 ·rcases (dy ax.1 al.1).1 hz with q | q
  ·exact hx.1 z q.1
  ·exact hl.1 z q.1
 ·rcases (dy ax.2 al.2).1 hz with q | q
  ·exact hx.2 z q.1
  ·exact hl.2 z q.1
theorem wT {c n:Nat} {p:Ln→Bool}:∀ {M:List Ln} {x:Ln},(∀ l ∈ M,b8 l∧BL c n l)→b8 x→BL c n x→BL c n (rdL M p x)
 | [],_,_,_,h=>h
 | l :: M,x,hM,hx,h=>by
  unfold rdL;rw [List.foldl_cons];have hl:=hM l d4;have hM':=fun m hm=>hM m (gf _ hm);show BL c n (rdL M p (if p l=true then dx x l else x));split
  ·exact wT hM' (dT hx hl.1) (h.add hl.2 hx hl.1)
  ·exact wT hM' hx h
theorem uV:∀ {i:Nat} {a b:List Int},i ≤ a.length→(∀ j,j < i→∀ z ∈ b,a.getD j default < z)→∀ j,j < i→(bO a b).getD j default=a.getD j default
 | 0,_,_,_,_,j,hj=>absurd hj (by omega)
 | i + 1,[],_,h,_,_,_=>absurd h (by simp)
 | i + 1,x :: a,[],h,_,j,_=>by rw [f0]
 | i + 1,x :: a,y :: b,h,hz,j,hj=>by
  have h0:x < y:=hz 0 (by omega) y d4;rw [ki,if_pos h0]
  match j with
  | 0=>rfl
  | j + 1=>exact uV (i:=i) (a:=a) (b:=y :: b) (by simpa using h) (fun k hk z hz'=>hz (k + 1) (by omega) z hz') j (by omega)
theorem r8:∀ {i:Nat} {a b:List Int},i ≤ a.length→(∀ j,j < i→∀ z ∈ b,a.getD j default < z)→i ≤ (bO a b).length
 | 0,_,_,_,_=>bB _
 | i + 1,[],_,h,_=>absurd h (by simp)
 | i + 1,x :: a,[],h,_=>by rw [f0]; exact h
 | i + 1,x :: a,y :: b,h,hz=>by
  have h0:x < y:=hz 0 (by omega) y d4;rw [ki,if_pos h0,dh];have:=r8 (i:=i) (a:=a) (b:=y :: b) (by simpa using h) (fun k hk z hz'=>hz (k + 1) (by omega) z hz');omega
theorem zH {M:List Ln} {p q:Ln→Bool} {l:Ln} (h:∀ m ∈ M,q m=true→p m=true) (hl:l ∈ M) (h1:p l=true) (h2:q l=false):M.countP q < M.countP p:=by
 induction M with
 | nil=>cases hl
 | cons m M ih =>
  rw [List.countP_cons,List.countP_cons];have hle:M.countP q ≤ M.countP p:=List.countP_mono_left fun x hx=>h x (gf _ hx);rcases dF.1 hl with rfl | hl
  ·rw [if_pos h1,if_neg (by rw [h2]; decide)]; omega
  ·have:=ih (fun x hx=>h x (gf _ hx)) hl;have h3:=h m d4;by_cases hq:q m=true
   ·rw [if_pos hq,if_pos (h3 hq)]; omega
   ·rw [if_neg hq]; split <;> omega
def nL (M:List Ln) (x:Ln):Nat:=M.countP fun l=>decide (ld l.1 ∈ x.1)
theorem EI {M:List Ln} {x l:Ln} (hM:RedU M) (hx:b8 x) (hl:l ∈ M) (h:ld l.1 ∈ x.1):nL M (dx x l) < nL M x:=by
 have hla:=hM.asc l hl;refine zH (l:=l) (fun m hm hq=>?_) hl (aX h) (aS fun hq=>?_)
 ·have hq:=uI hq;refine aX ?_;rcases (dy hx.1 hla.1).1 hq with q | q
  ·exact q.1
  ·have:=hM.own m hm l hl q.1;rw [← this]; exact h
 ·rcases (dy hx.1 hla.1).1 hq with q | q
  ·exact q.2 (dt (hM.ne l hl))
  ·exact q.2 h
def bE (M:List Ln):List Int:=M.map fun l=>ld l.1
def dN (x:Ln):AV:=.agg [az x.1,az x.2]
def LM (H:Hp) (m:Nat) (M:List Ln):Prop:=H m=some [.omap ((bE M).map (AV.int .i64)) (M.map dN)]
theorem rJ {M:List Ln} {v:Int} (h:v ∈ bE M):∃ l ∈ M,ld l.1=v∧(M.map dN).getD ((bE M).idxOf v) .undef=dN l:=by
 have hi:=yJ.2 h;have h2:(bE M)[(bE M).idxOf v]=v:=List.getElem_idxOf hi;generalize (bE M).idxOf v=i at *;have hi':i < M.length:=by unfold bE at hi; simpa using hi
 refine ⟨M[i],mR hi',?_,?_⟩
 ·have h3:(bE M)[i]'hi=ld M[i].1:=List.getElem_map ..;rw [← h3]; exact h2
 ·simp [List.getD,hi']
theorem kD {M:List Ln} {v:Int}:v ∈ bE M ↔ ∃ l ∈ M,ld l.1=v:=by unfold bE; rw [bU]
theorem EN {T:Tm} {S:Hp} {m:Nat} {ks:List Int} {vs:List AV} {mo ko:Opd} {v:Int} {z:AV} {ok:Bool} (h1:ov T mo=.mp m) (h2:S m=some [.omap (ks.map (AV.int .i64)) vs]) (h3:ov T ko=.int .i64 v):ilk T S (.mget (.one .int) z ok mo ko)=some (Go.Abs.mget z ok (if v ∈ ks then some (ks.idxOf v) else none) vs):=by
 show lkS _ _ _ (ov T mo) (ov T ko) S=_;rw [h1,h3];simp only [lkS,h2,hU];rfl
attribute [local irreducible] aA ag a8 aQ aK aL ar aN aU bd Go.Abs.Fn aP Go.Abs.Pure an aG Yl
set_option maxHeartbeats 1000000 in
theorem Bx (M:List Ln) (c n:Nat) (hc:c ≤ 4096) (hn:n ≤ 4096) (hM:RedU M) (hMb:∀ l ∈ M,BL c n l) (x:Ln) (hx:b8 x) (hxb:BL c n x) {a:AV} {Hf HA H:Hp} (hfz:Fz Hf HA H) (hs:Snap Hf a (dN x)) {nx m lb:Nat} (hlb:lb < nx) (hm:m < nx) (hne:m ≠ lb) (h1:H lb=some [.mp m]) (h2:LM H m M) :
    Abs.Fn Tryz.prog 149 [a,.ptr lb 1 0] HA nx fun r H' nx'=>r=dN (fD M x)∧(∀ b,b < nx→H' b=H b)∧nx ≤ nx':=by
 refine fO EZ ?_;simp only [FL,aJ];have hx0:dN x=.agg [az x.1,az x.2]:=rfl;refine fq ?_;refine yw Hf H [(0,dN x),(1,.ptr lb 1 0)] hfz ⟨.inr hs,.inl rfl,trivial⟩ ?_;rw [hx0];clear hs hfz;refine wnY @h1 ?_;refine lpI (X:=Ln × Nat) (fun y=>[(1,.ptr lb 1 0),(2,.ptr nx 2 0),(3,.ptr (nx + 1) 2 0),(4,.int .i64 y.2)]) (fun y H' nx'=>y.2 ≤ y.1.1.length∧nx + 2 ≤ nx'∧b8 y.1∧BL c n y.1∧fD M y.1=fD M x∧(∀ j,j < y.2→∀ l ∈ M,ld l.1 ≠ y.1.1.getD j default)∧H' nx=some [az y.1.1,az y.1.2]∧H' (nx + 1)=some [.esl,.esl]∧∀ b,b < nx→H' b=H b) (fun y=>nL M y.1 * 10000 + (y.1.1.length - y.2)) (x,0) ⟨bB _,aR _,hx,hxb,rfl,fun j h=>absurd h (by omega),by rw [ab (by omega),af],by rw [af],fun b hb=>by rw [ab (by omega),ab (by omega)]⟩ ?_;clear hx hxb hx0;rintro ⟨y,i⟩ H' nx' ⟨g1,g2,g3,g4,g5,g6,g7,g8,g9⟩;dsimp only at g1 g2 g3 g4 g5 g6 g7 g8 g9 ⊢;obtain ⟨l1,l2⟩:=g4.len g3;have k1:H' lb=some [.mp m]:=(g9 lb hlb).trans h1;have k2:LM H' m M:=(g9 m hm).trans h2;by_cases hi:i < y.1.length
 rotate_left
 ·have hr:fD M y=y:=zq hM g3 fun l hl hz=>by
    obtain ⟨j,hj,e⟩:=jx hz;refine g6 j (by omega) l hl ?_;rw [← e]; simp [List.getD,hj]
  have z:decide ((i:Int) < y.1.length)=false:=aS (by omega);rw [← g5,hr];refine wnY (zI4 @cw @z @g7 @g8) ?_;exact ⟨rfl,fun b hb=>by rw [ab (by omega)]; exact g9 b hb,by omega⟩
 have z:decide ((i:Int) < y.1.length)=true:=aX (by omega);have ix:=ixV hi;have hvm:=aC hi;generalize hv:y.1.getD i default=v at *;refine wnY (zI4 @cw @z @ix @g7) ?_;refine xp lb m nx k1 k2 g7 (by omega) (by omega) (by omega) fun S hS1 hS2 hS3 hsub=>?_;refine wnY (zI4 @hS1 @hS2 @hS3 @ix) ?_;simp only [fk,List.map_nil,List.getD_cons_succ,List.getD_cons_zero];by_cases hk:v ∈ bE M
 rotate_left
 ·have hmg:Go.Abs.mget (.agg [.esl,.esl]) true (if v ∈ bE M then some ((bE M).idxOf v) else none) (M.map dN)=.tup [.agg [.esl,.esl],.bool false]:=by rw [if_neg hk]; rfl
  refine EL (EN ev0 hS2 ev0) ?_;rw [hmg];refine wnY and_self ?_;refine f8 ?_;refine wnY and_self ?_;refine ⟨hsub _ (by rw [ab (by omega)]; exact k1) (by rw [ab (by omega)]; exact k2) (by rw [ab (by omega)]; exact g7),?_⟩;refine wnY and_self ?_;refine ⟨(y,i + 1),by dsimp only; omega,⟨by dsimp only; omega,by omega,g3,g4,g5,fun j hj l hl=>?_,by rw [ab (by omega),ab (by omega)]; exact g7,by rw [ab (by omega),ab (by omega)]; exact g8,fun b hb=>by rw [ab (by omega),ab (by omega)]; exact g9 b hb⟩,ag0⟩;dsimp only;rcases (by omega:j < i ∨ j=i) with q | rfl
  ·exact g6 j q l hl
  ·rw [hv]; exact fun e=>hk (kD.2 ⟨l,hl,e⟩)
 obtain ⟨l,hl,hld,hgd⟩:=rJ hk
 have hmg:Go.Abs.mget (.agg [.esl,.esl]) true (if v ∈ bE M then some ((bE M).idxOf v) else none) (M.map dN)=.tup [.agg [az l.1,az l.2],.bool true]:=by
  rw [if_pos hk];show AV.tup [(M.map dN).getD ((bE M).idxOf v) .undef,.bool true]=_;rw [hgd]; rfl
 refine EL (EN ev0 hS2 ev0) ?_;rw [hmg];refine wnY and_self ?_;refine f8 ?_;refine wnY and_self ?_;refine ⟨hsub _ (by rw [ab (by omega)]; exact k1) (by rw [ab (by omega)]; exact k2) (by rw [ab (by omega)]; exact g7),?_⟩;refine wnY and_self ?_;have hla:=hM.asc l hl;have hlb':=hMb l hl;obtain ⟨l3,l4⟩:=hlb'.len hla;have hs1:=yh y.1 l.1 (by omega) (by omega);have hs2:=yh y.2 l.2 (by omega) (by omega)
 have hlt:∀ j,j < i→∀ w ∈ l.1,y.1.getD j default < w:=fun j hj w hw=>by
  have h5:=ln hla.1 hw;have h6:=oE.1 g3.1 j i (by omega) hi hj;have e1:y.1.getD j default=y.1[j]:=by simp [List.getD,show j < y.1.length by omega]
  have e2:y.1.getD i default=y.1[i]:=by simp [List.getD,hi]
  omega
 have hp1:=uV (i:=i) (a:=y.1) (b:=l.1) (by omega) hlt;have hp2:=r8 (i:=i) (a:=y.1) (b:=l.1) (by omega) hlt;have hnl:=EI hM g3 hl (by rw [hld]; exact hvm);have ha':=dT g3 hla;have hb':=g4.add hlb' g3 hla;obtain ⟨l5,_⟩:=hb'.len ha';have hrx:=zb hM g3 hl;have e7:aj (aj H' nx' [AV.esl,AV.esl]) nx' (bu [AV.esl,AV.esl] 0 [az l.1,az l.2]) nx'=some [az l.1,az l.2]:=by rw [af]; rfl
 have e8:aj (aj H' nx' [AV.esl,AV.esl]) nx' (bu [AV.esl,AV.esl] 0 [az l.1,az l.2]) nx=some [az y.1,az y.2]:=by rw [ab (by omega),ab (by omega)]; exact g7
 have e9:∀ b,b ≠ nx→b < nx'→aj (aj H' nx' [AV.esl,AV.esl]) nx' (bu [AV.esl,AV.esl] 0 [az l.1,az l.2]) b=H' b:=fun b h1 h2=>by rw [ab (by omega),ab (by omega)]
 generalize aj (aj H' nx' [AV.esl,AV.esl]) nx' (bu [AV.esl,AV.esl] 0 [az l.1,az l.2])=H2 at *;have hadd:dx y l=(bO y.1 l.1,bO y.2 l.2):=rfl;generalize bO y.1 l.1=s1 at *;generalize bO y.2 l.2=s2 at *;refine wkY (aI @e7 @e8) ?_;refine ⟨((s1,s2),i),?_,⟨hp2,by omega,by rw [← hadd]; exact ha',by rw [← hadd]; exact hb',by rw [← hadd,hrx]; exact g5,fun j hj l' hl'=>by dsimp only; rw [hp1 j hj]; exact g6 j hj l' hl',by rw [af]; rfl,by rw [ab (by omega),e9 _ (by omega) (by omega)]; exact g8,fun b hb=>by rw [ab (by omega),e9 _ (by omega) (by omega)]; exact g9 b hb⟩,ag0⟩;rw [hadd] at hnl l5;dsimp only at hnl l5 ⊢;omega
end Go.Proofs.YtekdaafnjdlenaaGreat
namespace Go.Proofs.YtekdaafnjdlenaaGreat
open Go Go.Abs
open Nat (reduceEqDiff reduceAdd reduceLeDiff)
def cLs (l:List Ln):List AV:=l.flatMap fun x=>[az x.1,az x.2]
def ni (l:List Ln):AV:=ie 2 dN l
theorem Bl {l:List Ln} {x:Ln}:cLs (l ++ [x])=cLs l ++ [az x.1,az x.2]:=by unfold cLs; simp
theorem yv {l:List Ln}:(cLs l).length=l.length * 2:=by
 induction l with
 | nil=>rfl
 | cons x l ih=>show ([az x.1,az x.2] ++ cLs l).length=_; rw [cA,ih,dh]; simp; omega
theorem Ct {l:List Ln}:cLs l=(l.map dN).flatMap AV.cells:=by
 induction l with
 | nil=>rfl
 | cons x l ih=>show [az x.1,az x.2] ++ cLs l=_; rw [ih]; rfl
theorem CF {H:Hp} {s:AV} {l:List Ln} (h:Row H 2 s (cLs l)):Snap H s (ni l):=by
 refine Row.snap (elems:=l.map dN) (by rw [← Ct]; exact h) (fun y hy=>?_) (by omega) (fun y hy c hx=>?_)
 ·obtain ⟨n,_,rfl⟩:=bU.1 hy; rfl
 ·obtain ⟨n,_,rfl⟩:=bU.1 hy;simp only [dN,AV.cells,dF,List.not_mem_nil,or_false] at hx;rcases hx with rfl | rfl <;> exact eb _
theorem uH {M:List Ln} (hM:RedU M):(bE M).Nodup:=by
 unfold bE;refine List.pairwise_map.2 (List.Pairwise.imp_of_mem (fun {x y} hx hy hne e=>?_) hM.nodup);have:=dt (hM.ne y hy);rw [← e] at this;exact hne (hM.own x hx y hy this).symm
def vsS (M:List Ln) (y:Ln) (seen:List Nat):List AV:=(List.range M.length).map fun i=>dN (if i ∈ seen then gN y (M.getD i default) else M.getD i default)
theorem Cd {M:List Ln} {y:Ln}:vsS M y []=M.map dN:=by
 refine List.ext_getElem (by simp [vsS]) fun i h1 h2=>?_;have h2:i < M.length:=by simpa using h2
 simp [vsS,List.getD,h2]
theorem xH {M:List Ln} {y:Ln} {seen:List Nat} {i:Nat} (hi:i < M.length) (h:i ∉ seen):(vsS M y seen).getD i .undef=dN (M.getD i default):=by
 simp [vsS,List.getD,hi,h]
theorem yt {M:List Ln} {y:Ln} {seen:List Nat} {i:Nat}:(vsS M y seen).set i (dN (gN y (M.getD i default)))=vsS M y (seen ++ [i]):=by
 refine List.ext_getElem (by simp [vsS]) fun j h1 h2=>?_;have h2:j < M.length:=by simpa [vsS] using h2
 rw [List.getElem_set];by_cases e:i=j
 ·subst e; simp [vsS]
 ·have e':¬ j=i:=fun h=>e h.symm;simp [vsS,e,e']
theorem AW {M:List Ln} {y:Ln} {seen:List Nat} {i:Nat} (hi:i < M.length) (hs:i ∉ seen) (h:ld y.1 ∉ (M.getD i default).1):vsS M y (seen ++ [i])=vsS M y seen:=by
 rw [← yt,show gN y (M.getD i default)=M.getD i default by unfold gN; rw [if_neg h],← xH (y:=y) hi hs];refine List.ext_getElem (by simp) fun j h1 h2=>?_;rw [List.getElem_set];split
 ·rename_i e; subst e; simp [List.getD,h2]
 ·rfl
theorem CB {M:List Ln} {y:Ln} {seen:List Nat} (h:∀ i,i < M.length→i ∈ seen):vsS M y seen=(M.map (gN y)).map dN:=by
 refine List.ext_getElem (by simp [vsS]) fun i h1 h2=>?_;have h2:i < M.length:=by simpa using h2
 simp [vsS,List.getD,h2,h i h2]
theorem A2 {R:List (List Int)} {c k:Nat} (hR:∀ r ∈ R,bV r) (hv:∀ r ∈ R,∀ z ∈ r,0 ≤ z∧z < (c:Int)) (hk:k ≤ R.length):∀ l ∈ (stE R k).1,BL c R.length l:=fun l hl=>by
 have hs:=mS hR hk;refine ⟨sU (fun r hr=>hR r (kU hr)) (fun r hr=>hv r (kU hr)) (hs.inS l hl),fun j hj=>?_⟩;have:=(hs.ok l hl).2 j hj;omega
theorem yo {R:List (List Int)} (hR:∀ r ∈ R,bV r) {k:Nat} (hk:k ≤ R.length):(stE R k).1.length ≤ k∧(stE R k).2.length ≤ k:=by
 have:=(mS hR hk).len;omega
attribute [local irreducible] aA ag a8 aQ aK aL ar aN aU bd Go.Abs.Fn aP Go.Abs.Pure an aG Yl
theorem AM (l:List Int) (hl:l.length ≤ 1000000000):PureF Tryz.prog 150 [az l] (az l):=by
 refine qO Gs ?_;simp only [GM,aJ];refine wnZ and_self ?_;refine Ap (k:=l.length) (by ((try simp only [bN,ZA,reduceEqDiff,↓reduceIte,reduceAdd,reduceLeDiff]); (try with_reducible rfl)); exact wK) (fun h=>?_) (fun h=>?_) (fun h=>?_)
 ((all_goals (try have zz:=and_self)); (repeat' (first|refine zW ?_|apply a_n|apply a_r|refine zO ?_|refine vZ ?_|refine b0Z ?_|refine a0Z ?_|refine cTZ ?_|refine cFZ ?_|refine b4 rfl ?_|refine r1Z ?_|fail)); (all_goals (try clear zz)))
 ·exact rV af (by omega) rfl
 ·exact yP h
 ·exact rV af (by omega) rfl
end Go.Proofs.YtekdaafnjdlenaaGreat
namespace Go.Proofs.YtekdaafnjdlenaaGreat
open Go Go.Abs
theorem HV {l:List Int} (h:l ≠ []):ey 1 (az l) (.int .i64 0)=some (.iptr [.int .i64 (ld l)] 0):=by
 have:=ixV (l:=l) (k:=0) (zd.2 h);exact this
theorem vt {M:List Ln} {y:Ln} (hM:RedU M) (hy:b8 y) (h0:y.1 ≠ []) (hn:∀ l ∈ M,ld l.1 ∉ y.1):bE (M.map (gN y))=bE M:=by
 unfold bE;rw [List.map_map];exact uK fun l hl=>(qB hM hy h0 hn hl).2.2.2
theorem Bj {M:List Ln} (hM:RedU M) {l:Ln} {v:Int} (hl:l ∈ M) (e:ld l.1=v):(M.find? fun l=>decide (ld l.1=v))=some l:=by
 cases h:M.find? fun l=>decide (ld l.1=v) with
 | none =>
  have:=List.find?_eq_none.1 h l hl;exact absurd (aX e) this
 | some m =>
  have h1:=uI (List.find?_some (p:=fun l:Ln=>decide (ld l.1=v)) h);have h2:=List.mem_of_find?_eq_some h;have:=dt (hM.ne m h2);rw [h1,← e] at this;rw [hM.own l hl m h2 this]
theorem wO {M:List Ln} {v:Int} (h:v ∉ bE M):(M.find? fun l=>decide (ld l.1=v))=none :=
 List.find?_eq_none.2 fun l hl hd=>h (kD.2 ⟨l,hl,uI hd⟩)
theorem v7 {M:List Ln} {c:Nat}:(kT M c).length ≤ c:=by
 induction c with
 | zero=>simp [kT]
 | succ c ih =>
  rw [nc,cA];have:(M.find? fun l=>decide (ld l.1=(c:Int))).toList.length ≤ 1:=by cases M.find? fun l=>decide (ld l.1=(c:Int)) <;> simp
  omega
theorem oZ {H:Hp} {s:AV} {l:List (List Int)} (h:Row H 1 s (l.map az)):Snap H s (bJ l):=by
 rw [Cz];exact h.snapL' (fun _=>rfl) (fun x _=>eb x)
theorem eF {c:Int} {R:List (List Int)}:ez c R=.agg [.int .i64 c,bJ R]:=rfl
attribute [local irreducible] aA ag a8 aQ aK aL ar aN aU bd Go.Abs.Fn aP Go.Abs.Pure an aG Yl
set_option maxHeartbeats 2000000 in
theorem zv (c:Nat) (R:List (List Int)) (hc:c ≤ 4096) (hl:R.length ≤ 4096) (hR:∀ r ∈ R,bV r) (hv:∀ r ∈ R,∀ z ∈ r,0 ≤ z∧z < (c:Int)):pU 115 [ez c R] (.tup [ni (vN R c),bJ (stE R R.length).2]):=by
 refine pO F4 ?_;simp only [Gp,aJ];rw [eF];refine fq ?_
 repeat' (first|apply a_n|refine zO ?_|refine vY ?_|refine bxY ?_|fail)
 refine fq ?_;refine wnY and_self ?_;refine uv ?_;refine sn (cs:=[.nilm]) rfl rfl rfl ?_
 repeat' (first|apply a_n|refine zO ?_|refine stY ?_|fail)
 refine fq ?_
 repeat' (first|apply a_n|refine zO ?_|refine vY ?_|fail)
 refine fq ?_
 repeat' (first|apply a_n|refine zO ?_|refine vY ?_|fail)
 refine b7 (fun T H nx=>T 1=.ptr 0 2 0∧T 4=.ptr 2 1 0∧3 ≤ nx∧H 0=some [.int .i64 c,bJ R]∧H 2=some [.mp 1]∧LM H 1 (stE R R.length).1∧∃ dv,T 6=dv∧Row H 1 dv ((stE R R.length).2.map az)∧∀ b,bS dv=some b→2 < b∧b < nx) ?_ ?_
 ·refine wnY @dQ ?_;refine lpI (X:=AV × Nat) (fun x=>[(1,.ptr 0 2 0),(4,.ptr 2 1 0),(5,.func 149 [.ptr 2 1 0]),(6,x.1),(19,bJ R),(20,.int .i64 R.length),(21,.int .i64 x.2)]) (fun x H nx=>x.2 ≤ R.length∧3 ≤ nx∧H 0=some [.int .i64 c,bJ R]∧H 2=some [.mp 1]∧LM H 1 (stE R x.2).1∧Row H 1 x.1 ((stE R x.2).2.map az)∧∀ b,bS x.1=some b→2 < b∧b < nx) (fun x=>R.length - x.2) (.esl,0) ⟨bB _,aR _,rfl,rfl,rfl,Row.nil,fun b h=>(by cases h)⟩ ?_;rintro ⟨dv,k⟩ H nx ⟨h1,h2,h3,h4,h5,h6,h7⟩;dsimp only at h1 h2 h3 h4 h5 h6 h7 ⊢;by_cases hk:k < R.length
  rotate_left
  ·obtain rfl:k=R.length:=by omega
   refine wnY and_self ?_;exact ⟨rfl,rfl,h2,h3,h4,h5,dv,rfl,h6,h7⟩
  have ix:=Hb hk;have hrow:=hR _ (aC hk);have hrv:=hv _ (aC hk);have hst:=mS hR (i:=k) (by omega);have hbl:=A2 hR hv (k:=k) (by omega);have hsl:=yo hR (k:=k) (by omega);have hss:stE R (k + 1)=if (fD (stE R k).1 (R.getD k default,[(k:Int)])).1=[] then ((stE R k).1,(stE R k).2 ++ [(fD (stE R k).1 (R.getD k default,[(k:Int)])).2]) else (js (stE R k).1 (fD (stE R k).1 (R.getD k default,[(k:Int)])),(stE R k).2):=rfl
  generalize R.getD k default=r at *;generalize stE R k=MD at *;obtain ⟨M,D⟩:=MD;dsimp only at *;have hrl:=o7 hrow hrv;have hcl:=AM r (by omega);refine wnY @ix ?_;refine yy ev0 ev0 hcl (ai (eb _ _) ao) ?_;refine wnY @ix ?_;have hM:=hst.red;have hax:b8 (r,[(k:Int)]):=⟨hrow,List.pairwise_singleton _ _⟩
  have hbx:BL c R.length (r,[(k:Int)]):=⟨hrv,fun j hj=>by rw [dY.1 hj]; omega⟩
  refine bg ev0 ev0 (Bx M c R.length hc hl hM hbl (r,[(k:Int)]) hax hbx (Fz.one af) (kr (ai (eb _ _) (ai (v8 (n:=1) (len:=1) (l:=[(k:Int)]) kJ rfl rfl) ao))) (m:=1) (lb:=2) (by omega) (by omega) (by omega) (by rw [cQ (by omega),ab (by omega)]; exact h4) (by unfold LM; rw [cQ (by omega),ab (by omega)]; exact h5)) ?_;rintro _ H1 nx1 ⟨rfl,g1,g2⟩;have hay:b8 (fD M (r,[(k:Int)])):=iZ (fun l hl=>hM.asc l hl) hax;have hby:BL c R.length (fD M (r,[(k:Int)])):=wT (fun l hl=>⟨hM.asc l hl,hbl l hl⟩) hax hbx;have hno:∀ l ∈ M,ld l.1 ∉ (fD M (r,[(k:Int)])).1:=fun l hl=>rD hM hax hl;generalize fD M (r,[(k:Int)])=y at *;have lo:∀ b,b < nx→H1 b=H b:=fun b hb=>(g1 b (by omega)).trans (by rw [cQ (by omega),ab (by omega)]);have e1:dN y=.agg [az y.1,az y.2]:=rfl;rw [e1];by_cases h0:y.1=[]
  ·rw [if_pos h0] at hss;have z:decide ((y.1.length:Int)=0)=true:=by rw [h0]; rfl
   refine wnY (aI @cw @z) ?_;refine eR (h6.same fun b hb=>?_) ?_
   ·have:=h7 b hb;rw [ab (by omega),ab (by omega),ab (by omega)]; exact lo b (by omega)
   rintro s2 H2 nx2 hr2 i1 i2 i3 i4;have lo2:∀ b,b < nx→bS dv ≠ some b→H2 b=H b:=fun b hb hn=>(i3 b (by omega) hn).trans (by rw [ab (by omega),ab (by omega),ab (by omega)]; exact lo b hb);have hd:∀ b,b ≤ 2→bS dv ≠ some b:=fun b hb e=>by have:=h7 b e; omega
   refine wnY and_self ?_;refine ⟨(s2,k + 1),by dsimp only; omega,⟨by dsimp only; omega,by omega,(lo2 0 (by omega) (hd 0 (by omega))).trans h3,(lo2 2 (by omega) (hd 2 (by omega))).trans h4,?_,?_,fun b hb=>?_⟩,ag0⟩
   ·dsimp only;rw [hss]; exact (lo2 1 (by omega) (hd 1 (by omega))).trans h5
   ·dsimp only;rw [hss,db]; exact hr2
   ·rcases i4 b hb with h | h
    ·have:=h7 b h; omega
    ·omega
  rw [if_neg h0] at hss;have z:decide ((y.1.length:Int)=0)=false:=aS (by have:=zd.2 h0; omega);refine wnY (aI @cw @z) ?_;have hd:∀ b,b ≤ 2→bS dv ≠ some b:=fun b hb e=>by have:=h7 b e; omega
  have q0:aj (aj H1 nx1 [AV.esl,AV.esl]) nx1 (bu [AV.esl,AV.esl] 0 [az y.1,az y.2]) 0=some [.int .i64 c,bJ R]:=by rw [ab (by omega),ab (by omega)]; exact (lo 0 (by omega)).trans h3
  have q2:aj (aj H1 nx1 [AV.esl,AV.esl]) nx1 (bu [AV.esl,AV.esl] 0 [az y.1,az y.2]) 2=some [.mp 1]:=by rw [ab (by omega),ab (by omega)]; exact (lo 2 (by omega)).trans h4
  have q1:LM (aj (aj H1 nx1 [AV.esl,AV.esl]) nx1 (bu [AV.esl,AV.esl] 0 [az y.1,az y.2])) 1 M:=by unfold LM; rw [ab (by omega),ab (by omega)]; exact (lo 1 (by omega)).trans h5
  have qy:aj (aj H1 nx1 [AV.esl,AV.esl]) nx1 (bu [AV.esl,AV.esl] 0 [az y.1,az y.2]) nx1=some [az y.1,az y.2]:=by rw [af]; rfl
  have qd:Row (aj (aj H1 nx1 [AV.esl,AV.esl]) nx1 (bu [AV.esl,AV.esl] 0 [az y.1,az y.2])) 1 dv (D.map az):=h6.same fun b hb=>by
   have:=h7 b hb;rw [ab (by omega),ab (by omega)]; exact lo b (by omega)
  generalize aj (aj H1 nx1 [AV.esl,AV.esl]) nx1 (bu [AV.esl,AV.esl] 0 [az y.1,az y.2])=H2 at *;clear lo g1;refine wnY @q2 ?_;refine D5 ev0 q1 ?_;refine wnY and_self ?_;have hkl:(bE M).length=M.length:=by unfold bE; rw [bF]
  have hkn:=uH hM;have ix0:=HV h0;obtain ⟨yl1,yl2⟩:=hby.len hay;refine lpI (X:=List Nat) (fun x=>[(1,.ptr 0 2 0),(4,.ptr 2 1 0),(5,.func 149 [.ptr 2 1 0]),(6,dv),(9,.ptr nx1 2 0),(19,bJ R),(20,.int .i64 R.length),(21,.int .i64 k),(43,.itr (nx1 + 1))]) (fun seen H nx'=>H (nx1 + 1)=some [.oiter 1 ((bE M).map (AV.int .i64)).length seen]∧nx1 + 2 ≤ nx'∧seen.Nodup∧(∀ i ∈ seen,i < M.length)∧H 0=some [.int .i64 c,bJ R]∧H 2=some [.mp 1]∧H nx1=some [az y.1,az y.2]∧H 1=some [.omap ((bE M).map (AV.int .i64)) (vsS M y seen)]∧Row H 1 dv (D.map az)) (fun seen=>M.length - seen.length) [] ⟨af,aR _,List.nodup_nil,fun i h=>(by cases h),(ab (by omega)).trans q0,(ab (by omega)).trans q2,(ab (by omega)).trans qy,by rw [Cd]; exact (ab (by omega)).trans q1,qd.same fun b hb=>by have:=h7 b hb; rw [ab (by omega)]⟩ ?_;clear q0 q2 q1 qy qd;rintro seen H3 nx3 ⟨r1,r2,r3,r4,q0,q2,qy,q1,qd⟩
  have hsl:seen.length ≤ M.length:=by
   have:=wM r3 (l₂:=List.range M.length) fun i hi=>dB.2 (r4 i hi);simpa using this
  refine wnY and_self ?_;refine Ev ev0 r1 q1 rfl (fun i hi hns=>?_) (fun hall=>?_)
  ·have hi:i < M.length:=by rw [bF,hkl] at hi; exact hi
   have ek:((bE M).map (AV.int .i64)).getD i .undef=.int .i64 (ld (M.getD i default).1):=by
    unfold bE; simp [List.getD,hi]
   have evv:(vsS M y seen).getD i .undef=.agg [az (M.getD i default).1,az (M.getD i default).2]:=xH hi hns
   have hidx:(bE M).idxOf (ld (M.getD i default).1)=i:=by
    have h5:i < (bE M).length:=by rw [hkl]; exact hi
    have h6:(bE M)[i]=ld (M.getD i default).1:=by
     have:(bE M)[i]=ld M[i].1:=List.getElem_map ..;rw [this]; simp [List.getD,hi]
    have h7:=yJ.2 (show ld (M.getD i default).1 ∈ bE M by rw [← h6]; exact mR h5);have h8:(bE M)[(bE M).idxOf (ld (M.getD i default).1)]=(bE M)[i]:=by rw [List.getElem_idxOf h7,h6]
    exact (List.getElem_inj hkn).1 h8
   have hkm:ld (M.getD i default).1 ∈ bE M:=kD.2 ⟨_,aC hi,rfl⟩;have hla:=hM.asc _ (aC hi);have hlb:=hbl _ (aC hi);obtain ⟨ll1,ll2⟩:=hlb.len hla;have hset:=yt (M:=M) (y:=y) (seen:=seen) (i:=i);have hsame:=AW (M:=M) (y:=y) (seen:=seen) (i:=i) hi hns;have r3':(seen ++ [i]).Nodup:=wj.2 ⟨r3,by simp,fun x hx z hz e=>by rw [e,dY.1 hz] at hx; exact hns hx⟩
   have r4':∀ x ∈ seen ++ [i],x < M.length:=fun x hx=>by
    rcases eX.1 hx with q | q
    ·exact r4 x q
    ·rw [dY.1 q]; exact hi
   have hsl2:(seen ++ [i]).length ≤ M.length:=by
    have:=wM r3' (l₂:=List.range M.length) fun i hi=>dB.2 (r4' i hi);simpa using this
   rw [cA,List.length_singleton] at hsl2;generalize M.getD i default=l at *;have hhas:=EF l.1 (ld y.1) (by omega) hla.1;refine wnY (aI @ek @evv) ?_;refine D3 (i:=i) ev0 af (by rw [ab (by omega)]; exact q1) rfl (by simp) (by rw [bF,hkl]; exact hi) ?_;refine wnY (aI @ek @evv) ?_;have w0:aj (aj (aj H3 (nx1 + 1) [AV.oiter 1 ((bE M).map (AV.int .i64)).length (seen ++ [i])]) nx3 [AV.esl,AV.esl]) nx3 (bu [AV.esl,AV.esl] 0 [az l.1,az l.2]) 0=some [.int .i64 c,bJ R]:=by rw [ab (by omega),ab (by omega),ab (by omega)]; exact q0
   have w2:aj (aj (aj H3 (nx1 + 1) [AV.oiter 1 ((bE M).map (AV.int .i64)).length (seen ++ [i])]) nx3 [AV.esl,AV.esl]) nx3 (bu [AV.esl,AV.esl] 0 [az l.1,az l.2]) 2=some [.mp 1]:=by rw [ab (by omega),ab (by omega),ab (by omega)]; exact q2
   have w1:aj (aj (aj H3 (nx1 + 1) [AV.oiter 1 ((bE M).map (AV.int .i64)).length (seen ++ [i])]) nx3 [AV.esl,AV.esl]) nx3 (bu [AV.esl,AV.esl] 0 [az l.1,az l.2]) 1=some [.omap ((bE M).map (AV.int .i64)) (vsS M y seen)]:=by rw [ab (by omega),ab (by omega),ab (by omega)]; exact q1
   have wy:aj (aj (aj H3 (nx1 + 1) [AV.oiter 1 ((bE M).map (AV.int .i64)).length (seen ++ [i])]) nx3 [AV.esl,AV.esl]) nx3 (bu [AV.esl,AV.esl] 0 [az l.1,az l.2]) nx1=some [az y.1,az y.2]:=by rw [ab (by omega),ab (by omega),ab (by omega)]; exact qy
   have wl:aj (aj (aj H3 (nx1 + 1) [AV.oiter 1 ((bE M).map (AV.int .i64)).length (seen ++ [i])]) nx3 [AV.esl,AV.esl]) nx3 (bu [AV.esl,AV.esl] 0 [az l.1,az l.2]) nx3=some [az l.1,az l.2]:=by rw [af]; rfl
   have wi:aj (aj (aj H3 (nx1 + 1) [AV.oiter 1 ((bE M).map (AV.int .i64)).length (seen ++ [i])]) nx3 [AV.esl,AV.esl]) nx3 (bu [AV.esl,AV.esl] 0 [az l.1,az l.2]) (nx1 + 1)=some [.oiter 1 ((bE M).map (AV.int .i64)).length (seen ++ [i])]:=by rw [ab (by omega),ab (by omega),af]
   have wd:Row (aj (aj (aj H3 (nx1 + 1) [AV.oiter 1 ((bE M).map (AV.int .i64)).length (seen ++ [i])]) nx3 [AV.esl,AV.esl]) nx3 (bu [AV.esl,AV.esl] 0 [az l.1,az l.2])) 1 dv (D.map az):=qd.same fun b hb=>by
    have:=h7 b hb;rw [ab (by omega),ab (by omega),ab (by omega)]
   generalize aj (aj (aj H3 (nx1 + 1) [AV.oiter 1 ((bE M).map (AV.int .i64)).length (seen ++ [i])]) nx3 [AV.esl,AV.esl]) nx3 (bu [AV.esl,AV.esl] 0 [az l.1,az l.2])=H4 at *;clear q0 q2 q1 qy qd;by_cases hin:ld y.1 ∈ l.1
   ·rw [aX hin] at hhas;have hs1:=yh l.1 y.1 (by omega) (by omega);have hs2:=yh l.2 y.2 (by omega) (by omega);have hcl:dN (gN y l)=.agg [az (bO l.1 y.1),az (bO l.2 y.2)]:=by unfold gN; rw [if_pos hin]; rfl
    rw [hcl] at hset;clear hcl;generalize bO l.1 y.1=s1 at *;generalize bO l.2 y.2=s2 at *;refine wkY (zI3 @wy @wl @ix0) ?_;refine xp 2 nx3 nx1 w2 wl wy (by omega) (by omega) (by omega) fun S hS1 hS2 hS3 hsub=>?_;refine wnY (zI3 @hS1 @hS2 @hS3) ?_;simp only [fk,List.map_nil,List.getD_cons_succ,List.getD_cons_zero];refine f8 ?_;refine wnY and_self ?_;refine ⟨hsub _ w2 wl wy,?_⟩;refine f8 ?_;refine wnY and_self ?_;refine ⟨hsub _ w2 wl wy,?_⟩;refine wnY and_self ?_;have hmf:=hU (ld l.1) (bE M);rw [if_pos hkm,hidx] at hmf;refine pj ev0 w1 ev0 ev0 rfl hmf ?_;refine wnY and_self ?_;refine ⟨seen ++ [i],by rw [cA,List.length_singleton]; omega,⟨(ab (by omega)).trans wi,by omega,r3',r4',(ab (by omega)).trans w0,(ab (by omega)).trans w2,(ab (by omega)).trans wy,?_,wd.same fun b hb=>by have:=h7 b hb; rw [ab (by omega)]⟩,ag0⟩;rw [af,← hset]; rfl
   ·rw [aS hin] at hhas;refine wkY (zI3 @wy @wl @ix0) ?_;exact ⟨seen ++ [i],by rw [cA,List.length_singleton]; omega,⟨wi,by omega,r3',r4',w0,w2,wy,by rw [hsame hin]; exact w1,wd⟩,ag0⟩
  ·have hall:∀ i,i < M.length→i ∈ seen:=fun i hi=>hall i (by rw [bF,hkl]; exact hi) (by rw [bF,hkl]; exact hi);rw [CB hall,← vt hM hay h0 hno] at q1
   have hkk:ld y.1 ∉ bE (M.map (gN y)):=by
    rw [vt hM hay h0 hno,kD];rintro ⟨l,hl,e⟩;exact hno l hl (by rw [e]; exact dt h0)
   refine wnY (zI3 @q2 @qy @ix0) ?_;refine pr 2 nx1 q2 qy (by omega) fun S hS1 hS2 hsub=>?_;have zz:=aI @hS1 (aI @hS2 @ix0); repeat' (first|apply a_n|refine zO ?_|refine nvY ?_|apply jD|fail)
   simp only [fk,List.map_nil,List.getD_cons_succ,List.getD_cons_zero]
   skip
   have hmf:=hU (ld y.1) (bE (M.map (gN y)));rw [if_neg hkk] at hmf;refine pj ev0 q1 ev0 ev0 rfl hmf ?_;refine wnY and_self ?_;refine ⟨(dv,k + 1),by dsimp only; omega,⟨by dsimp only; omega,by omega,(ab (by omega)).trans q0,(ab (by omega)).trans q2,?_,?_,fun b hb=>by have:=h7 b hb; omega⟩,ag0⟩
   ·dsimp only;rw [hss];unfold LM;rw [af];unfold js bE;simp [ci,fi,dN]
   ·dsimp only;rw [hss];exact qd.same fun b hb=>by have:=h7 b hb; rw [ab (by omega)]
 rintro T H nx ⟨t1,t4,h2,h3,h4,h5,dv,t6,h6,h7⟩;have hst:=mS hR (aR R.length);have hbl:=A2 hR hv (aR R.length);have hsl:=yo hR (aR R.length);unfold vN;generalize stE R R.length=MD at *;obtain ⟨M,D⟩:=MD;dsimp only at *;have hM:=hst.red;refine wnY (zI5 @t1 @t4 @t6 @h3 @h4) ?_;refine bR (X:=AV × Nat) (fun x=>[(4,.ptr 2 1 0),(6,dv),(12,x.1),(77,.int .i64 c),(78,.int .i64 x.2)]) (fun x H' nx'=>x.2 ≤ c∧nx ≤ nx'∧H' 2=some [.mp 1]∧LM H' 1 M∧Row H' 1 dv (D.map az)∧Row H' 2 x.1 (cLs (kT M x.2))∧∀ b,bS x.1=some b→nx ≤ b∧b < nx') (fun x=>c - x.2) (.esl,0) ⟨bB _,aR _,h4,h5,h6,Row.nil,fun b h=>(by cases h)⟩ (have zz:=aI @t4 @t6; agZ) ?_;clear h3 h4 h5 h6;rintro ⟨ov,k⟩ H' nx' ⟨g1,g2,g3,g4,g5,g6,g7⟩;dsimp only at g1 g2 g3 g4 g5 g6 g7 ⊢;by_cases hk:k < c
 rotate_left
 ·obtain rfl:k=c:=by omega
  refine wnY and_self ?_;exact bD (ai (CF g6) (ai (oZ g5) ao))
 have hos:=nc (M:=M) (c:=k);have hol:=v7 (M:=M) (c:=k);have hmf:=hU (k:Int) (bE M);refine wnY @g3 ?_;by_cases hm:(k:Int) ∈ bE M
 rotate_left
 ·rw [if_neg hm] at hmf;refine i9 ev0 g4 ev0 rfl hmf ?_;have hmg:Go.Abs.mget (.agg [.esl,.esl]) true none (M.map dN)=.tup [.agg [.esl,.esl],.bool false]:=rfl;rw [hmg];refine wnY and_self ?_;rw [wO hm] at hos;have hos:kT M (k + 1)=kT M k:=by rw [hos]; simp
  refine ⟨(ov,k + 1),by dsimp only; omega,⟨by dsimp only; omega,by omega,by rw [ab (by omega),ab (by omega)]; exact g3,?_,g5.same fun b hb=>by have:=h7 b hb; rw [ab (by omega),ab (by omega)],?_,fun b hb=>by have:=g7 b hb; omega⟩,ag0⟩
  ·unfold LM; rw [ab (by omega),ab (by omega)]; exact g4
  ·dsimp only;rw [hos];exact g6.same fun b hb=>by have:=g7 b hb; rw [ab (by omega),ab (by omega)]
 obtain ⟨l,hl,hld,hgd⟩:=rJ hm;rw [if_pos hm] at hmf;refine i9 ev0 g4 ev0 rfl hmf ?_
 have hmg:Go.Abs.mget (.agg [.esl,.esl]) true (some ((bE M).idxOf (k:Int))) (M.map dN)=.tup [.agg [az l.1,az l.2],.bool true]:=by
  show AV.tup [(M.map dN).getD ((bE M).idxOf (k:Int)) .undef,.bool true]=_;rw [hgd]; rfl
 rw [hmg];rw [Bj hM hl hld] at hos;have hos:kT M (k + 1)=kT M k ++ [l]:=hos;refine wnY and_self ?_;refine kX rfl ev0 (g6.same fun b hb=>?_) ev0 nF rfl rfl (by omega) (by rw [yv]; omega) (by rw [yv]; omega) ?_
 ·have:=g7 b hb;rw [ab (by omega),ab (by omega),ab (by omega)]
 rintro s2 H2 nx2 hr2 i1 i2 i3 i4;have hdo:∀ b,b < nx→bS ov ≠ some b:=fun b hb e=>by have:=g7 b e; omega
 have lo2:∀ b,b < nx→H2 b=H' b:=fun b hb=>(i3 b (by omega) (hdo b hb)).trans (by rw [ab (by omega),ab (by omega),ab (by omega)]);refine wnY and_self ?_;refine ⟨(s2,k + 1),by dsimp only; omega,⟨by dsimp only; omega,by omega,(lo2 2 (by omega)).trans g3,(lo2 1 (by omega)).trans g4,g5.same fun b hb=>by have:=h7 b hb; rw [lo2 b (by omega)],?_,fun b hb=>?_⟩,ag0⟩
 ·dsimp only;rw [hos,Bl]; exact hr2
 ·rcases i4 b hb with h | h
  ·have:=g7 b h; omega
  ·omega
end Go.Proofs.YtekdaafnjdlenaaGreat
namespace Go.Proofs.YtekdaafnjdlenaaGreat
open Go Go.Abs
theorem y6 {r:List Int} (h:∀ i,i + 1 < r.length→r.getD i default < r.getD (i + 1) default):bV r:=by
 have hchain:∀ b a,a < b→b < r.length→r.getD a default < r.getD b default:=fun b=>by
  induction b with
  | zero=>intro a ha; omega
  | succ b ih =>
   intro a ha hb;have q:=h b hb;rcases (by omega:a < b ∨ a=b) with h | rfl
   ·have:=ih a h (by omega); omega
   ·exact q
 refine oE.2 fun i j hi hj hij=>?_;have:=hchain j i hij hj;simpa [List.getD,hi,hj] using this
theorem qM {c:Int} {R:List (List Int)} (h:sq c R):∀ r ∈ R,bV r:=fun r hr=>y6 (h.2.2.2 r hr).2.2
theorem HQ {l:List Ln} {k:Nat} (h:k < l.length):ey 2 (ni l) (.int .i64 (k:Int))=some (.iptr [az (l.getD k default).1,az (l.getD k default).2] 0):=by
 unfold ni;rw [ky,if_pos ⟨by omega,by omega⟩,cm];rfl
theorem BD {l:List Ln}:c6 (ni l)=some (.int .i64 l.length):=je
theorem v5 {R:List (List Int)} {c:Nat}:(vN R c).length ≤ c:=v7
attribute [local irreducible] aA ag a8 aQ aK aL ar aN aU bd Go.Abs.Fn aP Go.Abs.Pure an aG Yl
theorem wV (c:Nat) (R:List (List Int)) (hm:sq c R):pU 134 [ez c R] (.tup [ez c (mi R c),.int .i64 0]):=by
 refine pO G5 ?_;simp only [FZ,aJ];have h1:=xw c R hm;have z0:decide ((0:Int) ≠ 0)=false:=rfl;have hd:Dat (.agg [.int .i64 c,bJ R]):=gM c R;have hec:=zv c R (by have:=hm.2.1; omega) hm.2.2.1 (qM hm) (fun r hr z hz=>(hm.2.2.2 r hr).1 z hz);have hll:=v5 (R:=R) (c:=c);have hmc:=hm.2.1;rw [eF] at hec ⊢;unfold mi;generalize vN R c=L at *;refine wnY (aI @z0 @BD) ?_;refine lpI (X:=AV × Nat) (fun x=>[(2,.ptr 1 2 0),(5,.ptr 2 2 0),(24,ni L),(25,.int .i64 L.length),(26,.int .i64 x.2)]) (fun x H nx=>x.2 ≤ L.length∧3 ≤ nx∧H 1=some [.int .i64 0,.esl]∧H 2=some [.int .i64 c,x.1]∧Row H 1 x.1 (((L.take x.2).map Prod.fst).map az)∧∀ b,bS x.1=some b→2 < b∧b < nx) (fun x=>L.length - x.2) (.esl,0) ⟨bB _,aR _,rfl,rfl,Row.nil,fun b h=>(by cases h)⟩ ?_;rintro ⟨sv,k⟩ H nx ⟨g1,g2,g3,g4,g5,g6⟩;dsimp only at g1 g2 g3 g4 g5 g6 ⊢;by_cases hk:k < L.length
 rotate_left
 ·rw [iB (by omega)] at g5;obtain ⟨o1,o2⟩:=g5.one;refine wnY (zI4 @g3 @g4 @o1 @o2) ?_;refine kM (oZ (g5.same fun b hb=>?_)) rfl;have:=g6 b hb;rw [ab (by omega)]
 have ix:=HQ hk;have hts:=dz hk;have hlt:(L.take k).length ≤ k:=by rw [ib]; omega
 generalize L.getD k default=l at *;refine wnY (aI @ix @g4) ?_;refine kX rfl ev0 (g5.same fun b hb=>?_) ev0 fH rfl rfl mV (by rw [bF,bF]; omega) (by rw [bF,bF]; omega) ?_
 ·have:=g6 b hb;rw [ab (by omega),ab (by omega),ab (by omega)]
 rintro s2 H2 nx2 hr2 i1 i2 i3 i4;have hdo:∀ b,b ≤ 2→bS sv ≠ some b:=fun b hb e=>by have:=g6 b e; omega
 have lo2:∀ b,b ≤ 2→H2 b=H b:=fun b hb=>(i3 b (by omega) (hdo b hb)).trans (by rw [ab (by omega),ab (by omega),ab (by omega)])
 have hn2:∀ b,bS s2=some b→2 < b∧b < nx2:=fun b hb=>by
  rcases i4 b hb with h | h
  ·have:=g6 b h; omega
  ·omega
 have k4:=(lo2 2 (by omega)).trans g4;obtain ⟨o1,o2⟩:=hr2.one;refine wnY (zI3 @k4 @o1 @o2) ?_;refine ⟨(s2,k + 1),by dsimp only; omega,⟨by dsimp only; omega,by omega,by rw [ab (by omega)]; exact (lo2 1 (by omega)).trans g3,by rw [af]; rfl,?_,hn2⟩,ag0⟩;dsimp only;rw [hts,db,db];exact hr2.same fun b hb=>by have:=hn2 b hb; rw [ab (by omega)]
theorem Bs (c:Nat) (R:List (List Int)) (hm:sq c R):pU 97 [ez c R] (.tup [.int .i64 (mi R c).length,.int .i64 0]):=by
 refine pO HO ?_;simp only [b97,aJ];have he:=wV c R hm;have hd:Dat (.agg [.int .i64 c,bJ R]):=gM c R;rw [eF,eF] at he;rw [eF];generalize mi R c=E at *;refine wnY @dQ ?_;exact bD (ai (.int _ _) (ai (.int _ _) ao))
end Go.Proofs.YtekdaafnjdlenaaGreat
namespace Go.Proofs.YtekdaafnjdlenaaGreat
open Go Go.Abs
open Nat (reduceEqDiff reduceAdd reduceLeDiff)
theorem lP {c:List Spx} (h:ay c=0):∀ s ∈ c,Shn s:=fun s hs=>show _ ≤ _ by
 have:=(cC ((ce h).2.1 s hs)).2.1;omega
def pN (c:List Spx):Nat→Int
 | 0=>0
 | k + 1=>if (k + 1) % 2=1 then pN c k + ((ft c (k + 1)).length:Int) else pN c k - ((ft c (k + 1)).length:Int)
theorem xV {c:List Spx} (h:∀ k,(ft c k).length ≤ 3500):∀ k:Nat,-(3500 * (k:Int)) ≤ pN c k∧pN c k ≤ 3500 * (k:Int)
 | 0=>⟨by show -(3500 * ((0:Nat):Int)) ≤ (0:Int); omega,by show (0:Int) ≤ 3500 * ((0:Nat):Int); omega⟩
 | k + 1=>by
  have:=xV h k;have h2:=h (k + 1);unfold pN;split <;> omega
def iL (c:List Spx):Nat→Int × Int
 | 0=>(8,0)
 | k + 1=>(min (iL c k).1 ((c.getD k default).length:Int),max (iL c k).2 ((c.getD k default).length:Int))
theorem sZ {c:List Spx} {m:Int} (h0:0 ≤ m) (h:∀ s ∈ c,(s.length:Int) ≤ m):∀ {k:Nat},k ≤ c.length→0 ≤ (iL c k).2∧(iL c k).2 ≤ m
 | 0,_=>⟨Int.le_refl _,h0⟩
 | k + 1,hk=>by
  have:=sZ h0 h (k:=k) (by omega);have h2:=h _ (aC (l:=c) (i:=k) (by omega));unfold iL;dsimp only;omega
def eS (c:List Spx):Int:=(iL c c.length).2
def A9 (c:List Spx):Bool:=decide ((iL c c.length).2=0) || decide ((iL c c.length).1=(iL c c.length).2)
theorem Ej {c:List Spx} (hc:ay c=0) {k:Nat} (hk:8 < k):ft c k=[]:=by
 refine vF.2 fun s hs=>?_;obtain ⟨t,ht,h⟩:=ph.1 hs;obtain ⟨h1,h2⟩:=dp.1 h;have:=(cC ((ce hc).2.1 t ht)).2.1;have:=h1.length_le;omega
theorem uB {c:List Spx} {k:Nat}:aZ c (k:Int)=if k=0 then [] else ft c k:=by
 unfold aZ;by_cases h:k=0
 ·rw [if_pos (by omega),if_pos h]
 ·rw [if_neg (by omega),if_neg h,cm]
theorem iM {c:List Spx} (hc:ay c=0) (hl:c.length ≤ 50) {d:Int}:(aZ c d).length ≤ 3500:=by
 unfold aZ;split
 ·simp
 ·exact lS hl fun s hs=>(cC ((ce hc).2.1 s hs)).2.1
theorem B2 {c:List Spx} (hc:ay c=0) {d:Int} (h:8 < d):aZ c d=[]:=by
 unfold aZ;rw [if_neg (by omega)];exact Ej hc (by omega)
theorem A6 {Y:List Spx}:fy [] Y=List.replicate Y.length []:=by
 refine List.ext_getElem (by simp [fy]) fun i h1 h2=>?_;simp [fy,eN,fU]
theorem zj {H:Hp} {b n:Nat} (h:H b=some (List.replicate n .esl)):Snap H (.msl b n 1 0 n) (bJ (List.replicate n [])):=by
 refine Ai h (by simp) ⟨by simp,fun i x y hx hy=>?_⟩;obtain ⟨h1,rfl⟩:=bw.1 hx;obtain ⟨h2,rfl⟩:=bw.1 hy;simp only [List.getElem_map,List.getElem_replicate];exact .eslsl 1
attribute [local irreducible] aA ag a8 aQ aK aL ar aN aU bd Go.Abs.Fn aP Go.Abs.Pure an aG Yl
theorem yu (c:List Spx) (hc:ay c=0) (hl:c.length ≤ 50):pU 37 [b9 c] (.tup [.int .i64 (pN c 8),.int .i64 0]):=by
 refine pO FD ?_;simp only [b37,aJ];have hcc:=kf c (show _ ≤ _ by omega) (lP hc);rw [hc] at hcc;have z0:decide ((0:Int) ≠ 0)=false:=rfl;have hbd:=fun k:Nat=>xV (c:=c) (fun k=>lS (k:=k) hl fun s hs=>(cC ((ce hc).2.1 s hs)).2.1) k;have hll:=fun k=>lS (k:=k) hl fun s hs=>(cC ((ce hc).2.1 s hs)).2.1;have hf:=fun k (hk:1 ≤ k∧k ≤ 8)=>vV c k hl (ce hc).2.1 hk;refine wnY (zI3 @z0 @ak @ah) ?_;refine lpI (X:=Nat) (fun k=>[(1,.ptr 0 1 0),(5,.int .i64 (pN c k)),(6,.int .i64 (k + 1:Nat))]) (fun k H nx=>k ≤ 8∧H 0=some [aD c]) (fun k=>8 - k) 0 ⟨bB _,rfl⟩ ?_;rintro k H nx ⟨g1,g2⟩;by_cases hk:k < 8
 rotate_left
 ·obtain rfl:k=8:=by omega
  refine wnY and_self ?_;exact bD (ai (.int _ _) (ai (.int _ _) ao))
 have hf1:=hf (k + 1) ⟨by omega,by omega⟩;have hl1:=hll (k + 1);have hb1:=hbd k;have hb2:=hbd (k + 1);have hes:pN c (k + 1)=if (k + 1) % 2=1 then pN c k + ((ft c (k + 1)).length:Int) else pN c k - ((ft c (k + 1)).length:Int):=rfl
 have hr:∀ tb tf,bc .rem tb tf (.int .i64 ((k + 1:Nat):Int)) (.int .i64 2)=some (.int .i64 (((k + 1) % 2:Nat):Int)):=fun tb tf=>by
  rw [Ck (by omega) (by omega)]
  congr 2
 generalize ft c (k + 1)=L at *;generalize pN c k=E0 at *;by_cases hodd:(k + 1) % 2=1
 ·rw [if_pos hodd] at hes;rw [hes] at hb2;have zr:decide ((((k + 1) % 2:Nat):Int)=1)=true:=aX (by omega);refine wnY (zI5 @g2 @z0 @hr @zr @ae) ?_;exact ⟨k + 1,by omega,⟨by omega,g2⟩,by rw [hes,show ((k + 1 + 1:Nat):Int)=((k + 1:Nat):Int) + 1 by omega]; simp (disch:=omega) only [agr,ZG,reduceEqDiff,↓reduceIte]⟩
 ·rw [if_neg hodd] at hes;rw [hes] at hb2;have zr:decide ((((k + 1) % 2:Nat):Int)=1)=false:=aS (by omega);refine wnY (zI5 @g2 @z0 @hr @zr @ae) ?_;exact ⟨k + 1,by omega,⟨by omega,g2⟩,by rw [hes,show ((k + 1 + 1:Nat):Int)=((k + 1:Nat):Int) + 1 by omega]; simp (disch:=omega) only [agr,ZG,reduceEqDiff,↓reduceIte]⟩
theorem uo (c:List Spx) (hc:Shn c) (hs:∀ s ∈ c,Shn s):pU 94 [b9 c] (.tup [.int .i64 (eS c - 1),.bool (A9 c)]):=by
 refine pO HG ?_;simp only [b94,aJ];unfold eS A9;have hc':c.length ≤ 17592186044416:=hc;refine wnY (zI3 @ak @ah @ae) ?_;refine lpI (X:=Nat) (fun k=>[(4,.int .i64 (iL c k).1),(5,.int .i64 (iL c k).2),(9,aD c),(10,.int .i64 c.length),(11,.int .i64 k)]) (fun k H nx=>k ≤ c.length) (fun k=>c.length - k) 0 (bB _) ?_;rintro k H nx h1;have hb:=sZ (m:=17592186044416) (by omega) (fun s h=>by have:s.length ≤ _:=hs s h; omega) h1;by_cases hk:k < c.length
 rotate_left
 ·obtain rfl:k=c.length:=by omega
  generalize iL c c.length=P at *;obtain ⟨a,m⟩:=P;dsimp only at hb ⊢;by_cases h0:m=0
  ·have z:decide (m=0)=true:=aX h0;rw [z,Bool.true_or];refine wnY @z ?_;exact bD (ai (.int _ _) (ai (.bool _) ao))
  ·have z:decide (m=0)=false:=aS h0;rw [z,Bool.false_or];refine wnY @z ?_;exact bD (ai (.int _ _) (ai (.bool _) ao))
 have ix:=eI hk;have hsl:(c.getD k default).length ≤ 17592186044416:=hs _ (aC hk);have e:iL c (k + 1)=(min (iL c k).1 ((c.getD k default).length:Int),max (iL c k).2 ((c.getD k default).length:Int)):=rfl;generalize c.getD k default=s at *;refine wnY (aI @ix @am) ?_;exact ⟨k + 1,by omega,by omega,by rw [e]; simp (disch:=omega) only [agr,ZG,reduceEqDiff,↓reduceIte]⟩
theorem mf (c:List Spx) (hc:ay c=0) (hl:c.length ≤ 50):pU 96 [b9 c] (.tup [.int .i64 (eS c - 1),.bool (A9 c),.int .i64 0]):=by
 refine pO HW ?_;simp only [b96,aJ];have hcc:=kf c (show _ ≤ _ by omega) (lP hc);rw [hc] at hcc;have hd:=uo c (show _ ≤ _ by omega) (lP hc);have z0:decide ((0:Int) ≠ 0)=false:=rfl;refine wnY (zI3 @z0 @ak @ah) ?_;refine bD (ai (.int _ _) (ai (.bool _) (ai (.int _ _) ao)))
theorem s0 (c:List Spx) (d:Nat) (hc:ay c=0) (hl:c.length ≤ 50) (hd:d ≤ 8):pU 98 [b9 c,.int .i64 d] (.tup [.int .i64 (aZ c ((d:Int) + 1)).length,.int .i64 0]):=by
 refine pO Ia ?_;simp only [b98,aJ];by_cases h8:d=8
 ·rw [B2 hc (by omega)];subst h8;refine wnY (aI @ak @ah) ?_;exact bD (ai (.int _ _) (ai (.int _ _) ao))
 have hs:=mg c ((d:Int) + 1) hl (lP hc)
 have e:c8 c ((d:Int) + 1)=(aZ c ((d:Int) + 1),0):=by
  unfold c8 aZ;rw [if_neg (fun q=>q hc),if_neg (by omega),if_neg (by omega)]
 rw [e] at hs;dsimp only at hs;have hll:=iM hc hl (d:=(d:Int) + 1);generalize aZ c ((d:Int) + 1)=X at *;have z1:decide ((d:Int) < 0)=false:=aS (by omega);have z2:decide ((8:Int) ≤ d)=false:=aS (by omega);refine wnY (zI5 @ak @ah @ae @z1 @z2) ?_;exact bD (ai (.int _ _) (ai (.int _ _) ao))
theorem xC (c:List Spx) (d:Nat) (hc:ay c=0) (hl:c.length ≤ 50) (hd:d ≤ 8):pU 58 [b9 c,.int .i64 d] (.tup [ez (aZ c ((d:Int) + 1)).length (fy (aZ c ((d:Int) + 1)) (aZ c d)),.int .i64 0]):=by
 refine pO HJ ?_;simp only [b58,aJ];by_cases h8:d=8
 ·rw [B2 hc (by omega),A6];subst h8;have hs:pU 98 [b9 c,.int .i64 (((8:Nat):Int) - 1)] (.tup [.int .i64 (aZ c ((8:Nat):Int)).length,.int .i64 0]):=s0 c 7 hc hl (by omega);have hll:=iM hc hl (d:=((8:Nat):Int));generalize (aZ c ((8:Nat):Int)).length=n at *;have hzc:ba (AV.agg [AV.esl]) n=List.replicate n .esl:=by simp [ba,AV.cells]
  refine wnY (aI @ak @ah) ?_;refine xA (k1:=.i64) (k2:=.i64) (n:=n) (m:=n) rfl ev0 ev0 (by omega) (Int.le_refl _) (by omega) (by omega) ?_;rw [cm,hzc,Nat.mul_one];refine wnY and_self ?_;exact kM (zj (by rw [ab (by omega),af])) rfl
 have hm:=ED c d hl (lP hc)
 have e:rA c d=(((((aZ c ((d:Int) + 1)).length:Nat):Int),fy (aZ c ((d:Int) + 1)) (aZ c d)),0):=by
  unfold rA;rw [if_neg (fun q=>q hc),if_neg (by omega)]
 rw [e] at hm;dsimp only at hm;generalize fy (aZ c ((d:Int) + 1)) (aZ c d)=R at *;generalize (aZ c ((d:Int) + 1)).length=n at *;rw [eF] at hm ⊢;have z2:decide ((d:Int) < 8)=true:=aX (by omega);refine wnY (zI3 @ak @ah @z2) ?_;exact kM (ij _).snap rfl
end Go.Proofs.YtekdaafnjdlenaaGreat
namespace Go.Proofs.YtekdaafnjdlenaaGreat
open Go Go.Abs
def rkF (c:List Spx) (d:Nat):Nat:=(mi (fy (aZ c ((d:Int) + 1)) (aZ c d)) (aZ c ((d:Int) + 1)).length).length
def btF (c:List Spx) (d:Nat):Int:=((aZ c ((d:Int) + 1)).length:Int) - (rkF c d:Int) - (rkF c (d + 1):Int)
def btL (c:List Spx) (m:Nat):List Int:=(List.range m).map (btF c)
theorem lH {c:List Spx} {d:Nat}:rkF c d ≤ (aZ c ((d:Int) + 1)).length:=by
 unfold rkF mi;rw [bF];exact v5
theorem um {c:List Spx} (hc:ay c=0):∃ m:Nat,eS c=m∧m ≤ 8:=by
 have h:=sZ (c:=c) (m:=8) (by omega) (fun s hs=>by have:=(cC ((ce hc).2.1 s hs)).2.1; omega) (aR _);exact ⟨(eS c).toNat,by unfold eS; omega,by unfold eS; omega⟩
def rkK (n:Nat):List Int:=eN (List.range n)
theorem iX {n d:Nat}:(d:Int) ∈ rkK n ↔ d < n:=by
 unfold rkK;rw [BM];exact ⟨fun ⟨i,h1,h2⟩=>by have:=dB.1 h1; omega,fun h=>⟨d,dB.2 h,rfl⟩⟩
theorem oW {n d:Nat} (h:d < n):(rkK n).idxOf (d:Int)=d:=by
 have hn:(rkK n).Nodup:=wB (fun {x y} (q:x < y) e=>by omega) (r6 List.pairwise_lt_range);have h1:=yJ.2 (iX.2 h);have hl:d < (rkK n).length:=by unfold rkK eN; simpa using h
 have h2:(rkK n)[d]=(d:Int):=by
  have h4:(rkK n)[d]=(((List.range n)[d]'(by simpa using h):Nat):Int):=List.getElem_map ..;rw [h4,List.getElem_range]
 have h3:(rkK n)[(rkK n).idxOf (d:Int)]=(rkK n)[d]:=by rw [List.getElem_idxOf h1,h2]
 exact (List.getElem_inj hn).1 h3
theorem tL {n:Nat}:rkK (n + 1)=rkK n ++ [(n:Int)]:=by unfold rkK eN; rw [List.range_succ,db]; rfl
def rkV (c:List Spx) (n:Nat):List AV:=(List.range n).map fun d=>.int .i64 (rkF c d)
theorem vH {c:List Spx} {n:Nat}:rkV c (n + 1)=rkV c n ++ [.int .i64 (rkF c n)]:=by unfold rkV; rw [List.range_succ,db]; rfl
theorem oO {c:List Spx} {n d:Nat} (h:d < n):(rkV c n).getD d .undef=.int .i64 (rkF c d):=by unfold rkV; simp [List.getD,h]
theorem qK {c:List Spx} {n:Nat}:btL c (n + 1)=btL c n ++ [btF c n]:=by unfold btL; rw [List.range_succ,db]; rfl
attribute [local irreducible] aA ag a8 aQ aK aL ar aN aU bd Go.Abs.Fn aP Go.Abs.Pure an aG Yl
theorem Cm (c:List Spx) (m:Nat) (hc:ay c=0) (hl:c.length ≤ 50) (hm:eS c=m) (hm8:m ≤ 8):pU 44 [b9 c] (.tup [az (btL c m),.int .i64 0]):=by
 refine pO Fm ?_;simp only [b44,aJ];have hdi:=mf c hc hl;rw [hm] at hdi;have z0:decide ((0:Int) ≠ 0)=false:=rfl;have hed:=fun d (h:d ≤ 8)=>xC c d hc hl h;have hsz:=fun d (h:d ≤ 8)=>s0 c d hc hl h;have hrl:=fun d:Int=>iM hc hl (d:=d);have hrk:=fun d:Nat=>Bs (aZ c ((d:Int) + 1)).length (fy (aZ c ((d:Int) + 1)) (aZ c d)) (sI (by have:=hrl ((d:Int) + 1); omega) (by have:=hrl d; omega));have hrf:=fun d:Nat=>lH (c:=c) (d:=d);refine wnY (zI3 @z0 @ak @ah) ?_;refine uv ?_;refine wnY and_self ?_;refine lpI (X:=Nat) (fun k=>[(1,.ptr 0 1 0),(4,.int .i64 ((m:Int) - 1)),(7,.mp 1),(26,.int .i64 ((m:Int) - 1 + 2)),(27,.int .i64 k)]) (fun k H nx=>k ≤ m + 1∧2 ≤ nx∧H 0=some [aD c]∧H 1=some [.omap ((rkK k).map (AV.int .i64)) (rkV c k)]) (fun k=>m + 1 - k) 0 ⟨bB _,aR _,rfl,rfl⟩ ?_;rintro k H nx ⟨g1,g2,g3,g4⟩;by_cases hk:k < m + 1
 ·have hed1:=hed k (by omega);have hrk1:=hrk k;have hr1:=hrl ((k:Int) + 1);have hd1:Dat (ez (aZ c ((k:Int) + 1)).length (fy (aZ c ((k:Int) + 1)) (aZ c k))):=gM _ _;change pU 97 _ (.tup [.int .i64 (rkF c k),.int .i64 0]) at hrk1;rw [eF] at hed1 hrk1 hd1;generalize fy (aZ c ((k:Int) + 1)) (aZ c k)=R at *;generalize (aZ c ((k:Int) + 1)).length=n at *;have z1:decide ((k:Int) < (m:Int) - 1 + 2)=true:=aX (by omega);refine wnY (zI5 @g3 @z0 @z1 @ak @ah) ?_;have hmf:=hU (k:Int) (rkK k);rw [if_neg (fun q=>by have:=iX.1 q; omega)] at hmf;refine pj ev0 ((ab (by omega)).trans ((ab (by omega)).trans g4)) ev0 ev0 rfl hmf ?_;refine wnY @z0 ?_;refine ⟨k + 1,by omega,⟨by omega,by omega,by rw [ab (by omega),ab (by omega),ab (by omega)]; exact g3,?_⟩,ag0⟩;rw [af,tL,vH,db];rfl
 obtain rfl:k=m + 1:=by omega
 have z1:decide (((m + 1:Nat):Int) < (m:Int) - 1 + 2)=false:=aS (by omega);refine wnY @z1 ?_;refine lpI (X:=AV × Nat) (fun x=>[(1,.ptr 0 1 0),(7,.mp 1),(11,x.1),(51,.int .i64 ((m:Int) - 1 + 1)),(52,.int .i64 x.2)]) (fun x H nx=>x.2 ≤ m∧2 ≤ nx∧H 0=some [aD c]∧H 1=some [.omap ((rkK (m + 1)).map (AV.int .i64)) (rkV c (m + 1))]∧Row H 1 x.1 ((btL c x.2).map (AV.int .i64))∧∀ b,bS x.1=some b→2 ≤ b∧b < nx) (fun x=>m - x.2) (.esl,0) ⟨bB _,g2,g3,g4,Row.nil,fun b h=>(by cases h)⟩ ?_;clear g1 g2 g3 g4;rintro ⟨sv,k⟩ H nx ⟨g1,g2,g3,g4,g5,g6⟩;dsimp only at g1 g2 g3 g4 g5 g6 ⊢;by_cases hk:k < m
 rotate_left
 ·obtain rfl:k=m:=by omega
  have z1:decide ((k:Int) < (k:Int) - 1 + 1)=false:=aS (by omega);refine wnY @z1 ?_;exact sy g5.snapI rfl
 have hsz1:=hsz k (by omega);have hr1:=hrl ((k:Int) + 1);have hr2:=hrl (((k + 1:Nat):Int) + 1);have hf1:=hrf k;have hf2:=hrf (k + 1);have hmf1:=hU (k:Int) (rkK (m + 1));rw [if_pos (iX.2 (by omega)),oW (by omega)] at hmf1;have hmf2:=hU ((k + 1:Nat):Int) (rkK (m + 1));rw [if_pos (iX.2 (by omega)),oW (by omega)] at hmf2;rw [show ((k + 1:Nat):Int)=(k:Int) + 1 by omega] at hmf2;have hv1:Go.Abs.mget (.int .i64 0) false (some k) (rkV c (m + 1))=.int .i64 (rkF c k):=oO (by omega);have hv2:Go.Abs.mget (.int .i64 0) false (some (k + 1)) (rkV c (m + 1))=.int .i64 (rkF c (k + 1)):=oO (by omega);have hsn:=qK (c:=c) (n:=k);have hbl:(btL c k).length=k:=by unfold btL; simp
 have hbf:btF c k=((aZ c ((k:Int) + 1)).length:Int) - (rkF c k:Int) - (rkF c (k + 1):Int):=rfl;rw [hbf] at hsn;generalize rkF c k=f1 at *;generalize rkF c (k + 1)=f2 at *;generalize (aZ c ((k:Int) + 1)).length=n at *;generalize (aZ c (((k + 1:Nat):Int) + 1)).length=n2 at *;have z1:decide ((k:Int) < (m:Int) - 1 + 1)=true:=aX (by omega);refine wnY (zI5 @g3 @z0 @z1 @ak @ah) ?_;refine i9 ev0 g4 ev0 rfl hmf1 ?_;rw [hv1];refine wnY and_self ?_;refine i9 ev0 g4 ev0 rfl hmf2 ?_;rw [hv2];refine wnY and_self ?_;refine eR (g5.same fun b hb=>?_) ?_
 ·have:=g6 b hb;rw [ab (by omega)]
 rintro s2 H2 nx2 hr3 i1 i2 i3 i4;have hdo:∀ b,b < 2→bS sv ≠ some b:=fun b hb e=>by have:=g6 b e; omega
 have lo2:∀ b,b < 2→H2 b=H b:=fun b hb=>(i3 b (by omega) (hdo b hb)).trans (by rw [ab (by omega)]);refine wnY and_self ?_;refine ⟨(s2,k + 1),by dsimp only; omega,⟨by dsimp only; omega,by omega,(lo2 0 (by omega)).trans g3,(lo2 1 (by omega)).trans g4,?_,fun b hb=>?_⟩,ag0⟩
 ·dsimp only;rw [hsn,db]; exact hr3
 ·rcases i4 b hb with h | h
  ·have:=g6 b h; omega
  ·omega
theorem B1 (c:List Spx) (m:Nat) (hc:ay c=0) (hl:c.length ≤ 50) (hm:eS c=m) (hm8:m ≤ 8):pU 13 [b9 c] (.tup [az (btL c m),.int .i64 0]):=by
 have hch:pU 43 [b9 c] (.int .i64 0):=by
  refine pO DS ?_;simp only [b43,aJ];have he:=yu c hc hl;refine wnY (aI @ak @ah) ?_;exact .int _ _
 refine pO FO ?_;simp only [b13,aJ];have hb:=Cm c m hc hl hm hm8;have z0:decide ((0:Int) ≠ 0)=false:=rfl;refine wnY (zI3 @z0 @ak @ah) ?_;exact sy (eb _).snap rfl
theorem qz (c:List Spx) (hc:ay c=0) (hl:c.length ≤ 50):pU 43 [b9 c] (.int .i64 0):=by
 refine pO DS ?_;simp only [b43,aJ];have he:=yu c hc hl;refine wnY (aI @ak @ah) ?_;exact .int _ _
end Go.Proofs.YtekdaafnjdlenaaGreat
namespace Go.Proofs.YtekdaafnjdlenaaGreat
open Go Go.Abs
theorem il {l:List Int} {i:Nat} (h:i < l.length):l.drop i=l.getD i default :: l.drop (i + 1):=by
 rw [List.drop_eq_getElem_cons h]; simp [List.getD,h]
theorem B7 {a b:List Int} {i k:Nat} (hi:i < a.length) (h:k=b.length ∨ k < b.length∧a.getD i default < b.getD k default):bO (a.drop i) (b.drop k)=a.getD i default :: bO (a.drop (i + 1)) (b.drop k):=by
 rw [il hi];rcases h with rfl | ⟨h1,h2⟩
 ·rw [List.drop_length,f0,f0]
 ·rw [il h1,ki,if_pos h2]
theorem Cf {a b:List Int} {i k:Nat} (hk:k < b.length) (h:i=a.length ∨ i < a.length∧b.getD k default < a.getD i default):bO (a.drop i) (b.drop k)=b.getD k default :: bO (a.drop i) (b.drop (k + 1)):=by
 rw [il hk];rcases h with rfl | ⟨h1,h2⟩
 ·rw [List.drop_length,ke,ke]
 ·rw [il h1,ki,if_neg (by omega),if_pos h2]
theorem CI {a b:List Int} {i k:Nat} (hi:i < a.length) (hk:k < b.length) (h:a.getD i default=b.getD k default):bO (a.drop i) (b.drop k)=bO (a.drop (i + 1)) (b.drop (k + 1)):=by
 rw [il hi,il hk,ki,if_neg (by omega),if_neg (by omega)]
attribute [local irreducible] aA ag a8 aQ aK aL ar aN aU bd Go.Abs.Fn aP Go.Abs.Pure an aG Yl
theorem AC (a:List Int) (n:Int) (ha:a.length ≤ 1000000000):pU 108 [az a,.int .i64 n] (.bool (decide (n ∈ a))):=by
 refine pO Ht ?_;simp only [Fa,aJ];refine wnZ @cw ?_;refine ll (X:=Nat) (fun k=>[(0,az a),(1,.int .i64 n),(5,.int .i64 k)]) (fun k=>k ≤ a.length∧∀ i,i < k→a.getD i default ≠ n) (fun k=>a.length - k) 0 ⟨bB _,fun i h=>absurd h (by omega)⟩ ag0 ?_;rintro k ⟨h1,h2⟩;by_cases hk:k < a.length
 ·have ix:=ixV hk;by_cases hv:a.getD k default=n
  ·have z:decide (a.getD k default=n)=true:=aX hv;rw [aX (show n ∈ a by rw [← hv]; exact aC hk)];refine wnZ (zI3 @cw @ix @z) ?_;exact .bool _
  ·have z:decide (a.getD k default=n)=false:=aS hv;refine wnZ (zI3 @cw @ix @z) ?_
   exact ⟨k + 1,⟨by omega,fun i hi=>by
    rcases (by omega:i < k ∨ i=k) with h | rfl
    ·exact h2 i h
    ·exact hv⟩,by omega,ag0,rfl,rfl⟩
 ·obtain rfl:k=a.length:=by omega
  rw [aS fun hm=>by
   obtain ⟨i,hi,e⟩:=jx hm;exact h2 i hi (by simp [List.getD,hi,e])]
  refine wnZ @cw ?_;exact .bool _
set_option maxHeartbeats 1000000 in
theorem CW (a b:List Int) (ha:a.length ≤ 1000000) (hb:b.length ≤ 1000000):pU 109 [az a,az b] (az (bO a b)):=by
 refine pO Ft ?_;simp only [GG,aJ];refine wnZ @cw ?_;refine lpI (X:=AV × List Int × Nat × Nat) (fun x=>[(0,az a),(1,az b),(5,x.1),(6,.int .i64 x.2.2.1),(7,.int .i64 x.2.2.2)]) (fun x H nx=>x.2.2.1 ≤ a.length∧x.2.2.2 ≤ b.length∧x.2.1 ++ bO (a.drop x.2.2.1) (b.drop x.2.2.2)=bO a b∧x.2.1.length ≤ x.2.2.1 + x.2.2.2∧Row H 1 x.1 (x.2.1.map (AV.int .i64))∧∀ b,bS x.1=some b→b < nx) (fun x=>a.length + b.length - (x.2.2.1 + x.2.2.2)) (.esl,[],0,0) ⟨bB _,bB _,rfl,bB _,Row.nil,fun b h=>(by cases h)⟩ ?_;rintro ⟨sv,D,i,k⟩ H nx ⟨g1,g2,g3,g4,g5,g6⟩;dsimp only at g1 g2 g3 g4 g5 g6 ⊢;by_cases hA:i < a.length∧(k=b.length ∨ k < b.length∧a.getD i default < b.getD k default)
 ·rw [B7 hA.1 hA.2] at g3;have ix:=ixV hA.1;have zi:decide ((i:Int) < a.length)=true:=aX (by omega);rcases hA.2 with hk | ⟨hk,hlt⟩
  ·have zk:decide ((k:Int)=b.length)=true:=aX (by omega);refine wnY (zI4 @cw @ix @zi @zk) ?_;refine eR (g5.same fun b hb=>?_) ?_
   ·have:=g6 b hb;rw [ab (by omega)]
   rintro s2 H2 nx2 hr2 i1 i2 i3 i4;refine wnY and_self ?_;refine ⟨(s2,D ++ [a.getD i default],i + 1,k),by dsimp only; omega,⟨by dsimp only; omega,by dsimp only; omega,by rw [← g3,kW]; rfl,by dsimp only; rw [cA,List.length_singleton]; omega,by dsimp only; rw [db]; exact hr2,fun b hb=>?_⟩,ag0⟩;rcases i4 b hb with h | h
   ·have:=g6 b h; omega
   ·omega
  ·have zk:decide ((k:Int)=b.length)=false:=aS (by omega);have zk2:decide ((k:Int) < b.length)=true:=aX (by omega);have iy:=ixV hk;have zl:decide (a.getD i default < b.getD k default)=true:=aX hlt;refine wnY (zI7 @cw @ix @iy @zi @zk @zk2 @zl) ?_;refine eR (g5.same fun b hb=>?_) ?_
   ·have:=g6 b hb;rw [ab (by omega)]
   rintro s2 H2 nx2 hr2 i1 i2 i3 i4;refine wnY and_self ?_;refine ⟨(s2,D ++ [a.getD i default],i + 1,k),by dsimp only; omega,⟨by dsimp only; omega,by dsimp only; omega,by rw [← g3,kW]; rfl,by dsimp only; rw [cA,List.length_singleton]; omega,by dsimp only; rw [db]; exact hr2,fun b hb=>?_⟩,ag0⟩;rcases i4 b hb with h | h
   ·have:=g6 b h; omega
   ·omega
 by_cases hB:k < b.length∧(i=a.length ∨ i < a.length∧b.getD k default < a.getD i default)
 ·rw [Cf hB.1 hB.2] at g3;have iy:=ixV hB.1;have zk:decide ((k:Int)=b.length)=false:=aS (by omega);have zk2:decide ((k:Int) < b.length)=true:=aX (by omega);rcases hB.2 with hi | ⟨hi,hlt⟩
  ·have zi:decide ((i:Int) < a.length)=false:=aS (by omega);have zi2:decide ((i:Int)=a.length)=true:=aX (by omega);refine wnY (zI6 @cw @iy @zi @zi2 @zk @zk2) ?_;refine eR (g5.same fun b hb=>?_) ?_
   ·have:=g6 b hb;rw [ab (by omega)]
   rintro s2 H2 nx2 hr2 i1 i2 i3 i4;refine wnY and_self ?_;refine ⟨(s2,D ++ [b.getD k default],i,k + 1),by dsimp only; omega,⟨by dsimp only; omega,by dsimp only; omega,by rw [← g3,kW]; rfl,by dsimp only; rw [cA,List.length_singleton]; omega,by dsimp only; rw [db]; exact hr2,fun b hb=>?_⟩,ag0⟩;rcases i4 b hb with h | h
   ·have:=g6 b h; omega
   ·omega
  ·have zi:decide ((i:Int) < a.length)=true:=aX (by omega);have zi2:decide ((i:Int)=a.length)=false:=aS (by omega);have ix:=ixV hi;have zl:decide (a.getD i default < b.getD k default)=false:=aS (by omega);have zl2:decide (b.getD k default < a.getD i default)=true:=aX hlt;refine wnY (zI9 @cw @ix @iy @zi @zi2 @zk @zk2 @zl @zl2) ?_;refine eR (g5.same fun b hb=>?_) ?_
   ·have:=g6 b hb;rw [ab (by omega)]
   rintro s2 H2 nx2 hr2 i1 i2 i3 i4;refine wnY and_self ?_;refine ⟨(s2,D ++ [b.getD k default],i,k + 1),by dsimp only; omega,⟨by dsimp only; omega,by dsimp only; omega,by rw [← g3,kW]; rfl,by dsimp only; rw [cA,List.length_singleton]; omega,by dsimp only; rw [db]; exact hr2,fun b hb=>?_⟩,ag0⟩;rcases i4 b hb with h | h
   ·have:=g6 b h; omega
   ·omega
 by_cases hC:i < a.length∧k < b.length
 ·have he:a.getD i default=b.getD k default:=by
    have h1:¬ a.getD i default < b.getD k default:=fun h=>hA ⟨hC.1,.inr ⟨hC.2,h⟩⟩;have h2:¬ b.getD k default < a.getD i default:=fun h=>hB ⟨hC.2,.inr ⟨hC.1,h⟩⟩;omega
  rw [CI hC.1 hC.2 he] at g3;have ix:=ixV hC.1;have iy:=ixV hC.2;have zi:decide ((i:Int) < a.length)=true:=aX (by omega);have zi2:decide ((i:Int)=a.length)=false:=aS (by omega);have zk:decide ((k:Int)=b.length)=false:=aS (by omega);have zk2:decide ((k:Int) < b.length)=true:=aX (by omega);have zl:decide (a.getD i default < b.getD k default)=false:=aS (by omega);have zl2:decide (b.getD k default < a.getD i default)=false:=aS (by omega);refine wnY (zI9 @cw @ix @iy @zi @zi2 @zk @zk2 @zl @zl2) ?_;exact ⟨(sv,D,i + 1,k + 1),by dsimp only; omega,⟨by dsimp only; omega,by dsimp only; omega,g3,by dsimp only; omega,g5,g6⟩,ag0⟩
 have hi:i=a.length:=by
  rcases nP i a.length with h | h
  ·exfalso;rcases nP k b.length with h2 | h2
   ·exact hC ⟨h,h2⟩
   ·exact hA ⟨h,.inl (by omega)⟩
  ·omega
 have hk:k=b.length:=by
  rcases nP k b.length with h | h
  ·exact absurd ⟨h,.inl hi⟩ hB
  ·omega
 have zi:decide ((i:Int) < a.length)=false:=aS (by omega);have zk:decide ((k:Int) < b.length)=false:=aS (by omega);rw [hi,hk,List.drop_length,List.drop_length,ke,gx] at g3;rw [← g3];refine wnY (zI3 @cw @zi @zk) ?_;exact g5.snapI
end Go.Proofs.YtekdaafnjdlenaaGreat
namespace Go.Proofs.YtekdaafnjdlenaaGreat
open Go Go.Abs
def B4 (rows:List (List Int)) (n c:Nat):Int:=match qN rows n c with
 | some k=>(k:Int)
 | none=>-1
theorem Cq {rows:List (List Int)} {n c k:Nat} (hn:n ≤ k) (hk:k < rows.length) (h:∀ i,n ≤ i→i < k→(c:Int) ∉ rows.getD i default) (hc:(c:Int) ∈ rows.getD k default):qN rows n c=some k:=by
 unfold qN;rw [List.find?_range_eq_some];refine ⟨by simp only [cT,eZ]; exact ⟨hn,hc⟩,dB.2 hk,fun j hj=>?_⟩;simp only [Bool.not_and,iG,Bool.not_eq_true',decide_eq_false_iff_not];by_cases hnj:n ≤ j
 ·exact .inr (h j hnj hj)
 ·exact .inl hnj
theorem Bn {rows:List (List Int)} {n c:Nat} (h:∀ i,n ≤ i→i < rows.length→(c:Int) ∉ rows.getD i default):qN rows n c=none:=by
 unfold qN;rw [List.find?_eq_none];intro i hi hd;simp only [cT,eZ] at hd;exact h i hd.1 (dB.1 hi) hd.2
theorem tJ {rows:List (List Int)} {n c k:Nat} (h:qN rows n c=some k):n ≤ k∧k < rows.length:=by
 unfold qN at h;have h1:=List.find?_some h;have h2:=dB.1 (List.mem_of_find?_eq_some h);simp only [cT,eZ] at h1;exact ⟨h1.1,h2⟩
attribute [local irreducible] aA ag a8 aQ aK aL ar aN aU bd Go.Abs.Fn aP Go.Abs.Pure an aG Yl
theorem Bp (rows:List (List Int)) (n c:Nat) (hl:rows.length ≤ 100000) (hr:∀ r ∈ rows,r.length ≤ 100000) (hn:n ≤ rows.length):pU 148 [bJ rows,.int .i64 n,.int .i64 c] (.int .i64 (B4 rows n c)):=by
 refine pO FK ?_;simp only [Gm,aJ];refine wnZ @dQ ?_;refine ll (X:=Nat) (fun k=>[(0,bJ rows),(2,.int .i64 c),(7,.int .i64 k)]) (fun k=>n ≤ k∧k ≤ rows.length∧∀ i,n ≤ i→i < k→(c:Int) ∉ rows.getD i default) (fun k=>rows.length - k) n ⟨aR _,hn,fun i h1 h2=>absurd h1 (by omega)⟩ ag0 ?_;rintro k ⟨h0,h1,h2⟩;by_cases hk:k < rows.length
 ·have ix:=Hb hk;have hh:=AC (rows.getD k default) c (by have:=hr _ (aC hk); omega);by_cases hv:(c:Int) ∈ rows.getD k default
  ·rw [aX hv] at hh;unfold B4;rw [Cq h0 hk h2 hv];generalize rows.getD k default=r at *;refine wnZ (aI @dQ @ix) ?_;exact .int _ _
  ·rw [aS hv] at hh
   have h3:∀ i,n ≤ i→i < k + 1→(c:Int) ∉ rows.getD i default:=fun i hi hi2=>by
    rcases (by omega:i < k ∨ i=k) with h | rfl
    ·exact h2 i hi h
    ·exact hv
   generalize rows.getD k default=r at *;refine wnZ (aI @dQ @ix) ?_;exact ⟨k + 1,⟨by omega,by omega,h3⟩,by omega,ag0,rfl,rfl⟩
 ·obtain rfl:k=rows.length:=by omega
  unfold B4;rw [Bn fun i hi hi2=>h2 i hi hi2];refine wnZ @dQ ?_;exact .int _ _
end Go.Proofs.YtekdaafnjdlenaaGreat
namespace Go.Proofs.YtekdaafnjdlenaaGreat
open Go Go.Abs
open Nat (reduceEqDiff reduceAdd reduceLeDiff)
def jg (H:Hp) (s:AV) (l:List (List Int)):Prop:=s=bJ l ∨ Row H 1 s (l.map az)
theorem jg.src {H H':Hp} {s:AV} {l:List (List Int)} (h:jg H s l) (hs:∀ b,bS s=some b→H' b=H b):dD 1 H' s=some (l.length,l.map az):=by
 rcases h with rfl | h
 ·exact fx
 ·have h:=h.same hs;generalize hc:l.map az=cs at h;have hl:l.length=cs.length:=by rw [← hc,bF]
  cases h with
  | nil=>rw [hl]; rfl
  | box b len cs hb hn =>
   rw [Nat.mul_one] at hn;rw [ee hb (by rw [hn,Nat.mul_one]) (by omega),hl,hn,Nat.mul_one,List.drop_zero,iB (by omega)]
theorem jg.len {H:Hp} {s:AV} {l:List (List Int)} (h:jg H s l):fM s=some l.length:=by
 rcases h with rfl | h
 ·exact ui
 ·generalize hc:l.map az=cs at h;have hl:l.length=cs.length:=by rw [← hc,bF]
  cases h with
  | nil=>rw [hl]; rfl
  | box b len cs hb hn=>rw [hl,hn,Nat.mul_one]; rfl
theorem jg.snap {H:Hp} {s:AV} {l:List (List Int)} (h:jg H s l):Snap H s (bJ l):=by
 rcases h with rfl | h
 ·exact (ij l).snap
 ·exact oZ h
theorem yn {l:List (List Int)}:AV.ones (l.map az)=true:=by
 unfold AV.ones;rw [du];intro x hx;obtain ⟨y,_,rfl⟩:=bU.1 hx;rfl
attribute [local irreducible] aA ag a8 aQ aK aL ar aN aU bd Go.Abs.Fn aP Go.Abs.Pure an aG Yl
end Go.Proofs.YtekdaafnjdlenaaGreat
namespace Go.Proofs.YtekdaafnjdlenaaGreat
open Go Go.Abs
open Nat (reduceEqDiff reduceAdd reduceLeDiff)
theorem wJ {l:List (List Int)} {k:Nat} {x:List Int} (h:k < l.length):bu (l.map az) k [az x]=(l.set k x).map az:=by
 unfold bu;rw [List.map_set];have h2:k < (l.map az).length:=by rw [bF]; exact h
 rw [Ep,if_pos h2];simp
def elP (rows:List (List Int)) (n c i:Nat):List (List Int):=(List.range rows.length).map fun j=>if j < i then elF rows n c j else rows.getD j default
theorem gu {rows:List (List Int)} {n c i:Nat}:(elP rows n c i).length=rows.length:=by unfold elP; simp
theorem s9 {l m:List (List Int)} (hl:l.length=m.length) (h:∀ i,i < l.length→l.getD i default=m.getD i default):l=m:=by
 refine List.ext_getElem hl fun j h1 h2=>?_;have:=h j h1;simpa [List.getD,h1,h2] using this
theorem wk {l:List (List Int)} {i j:Nat} {x:List Int} (h:j < l.length):(l.set i x).getD j default=if i=j then x else l.getD j default:=by
 simp only [List.getD,List.getElem?_set];by_cases e:i=j
 ·subst e; simp [h]
 ·simp [e]
theorem iQ {rows:List (List Int)} {n c i j:Nat} (h:j < rows.length):(elP rows n c i).getD j default=if j < i then elF rows n c j else rows.getD j default:=oS h
theorem GS {rows:List (List Int)} {n c:Nat}:elP rows n c 0=rows:=s9 gu fun j h=>by
 rw [gu] at h;rw [iQ h,if_neg (by omega)]
theorem xK {rows:List (List Int)} {n c:Nat}:elP rows n c rows.length=elL rows n c:=by
 unfold elP elL;refine uK fun j hj=>?_;rw [if_pos (dB.1 hj)]
theorem CE {rows:List (List Int)} {n c i:Nat}:(elP rows n c i).set i (elF rows n c i)=elP rows n c (i + 1):=s9 (by rw [List.length_set,gu,gu]) fun j h=>by
 rw [List.length_set] at h;rw [wk h];rw [gu] at h;rw [iQ h,iQ h];by_cases e:i=j
 ·subst e; rw [if_pos rfl,if_pos (by omega)]
 ·rw [if_neg e];by_cases q:j < i
  ·rw [if_pos q,if_pos (by omega)]
  ·rw [if_neg q,if_neg (by omega)]
theorem BQ {rows:List (List Int)} {n c i:Nat} (h:i < rows.length) (e:elF rows n c i=rows.getD i default):elP rows n c (i + 1)=elP rows n c i:=s9 (by rw [gu,gu]) fun j hj=>by
 rw [gu] at hj;rw [iQ hj,iQ hj];by_cases q:i=j
 ·subst q; rw [if_pos (by omega),if_neg (by omega),e]
 ·by_cases q2:j < i
  ·rw [if_pos q2,if_pos (by omega)]
  ·rw [if_neg q2,if_neg (by omega)]
theorem oU {rows:List (List Int)} {n k:Nat}:(swL rows n k).length=rows.length:=by unfold swL; simp
theorem EA {rows:List (List Int)} {n k:Nat} (hn:n < rows.length) (hk:k < rows.length):(rows.set n (rows.getD k default)).set k (rows.getD n default)=swL rows n k:=s9 (by rw [List.length_set,List.length_set,oU]) fun j h=>by
 rw [List.length_set,List.length_set] at h;rw [wk (by rw [List.length_set]; exact h),wk h,show (swL rows n k).getD j default=rows.getD (swI n k j) default from oS h];unfold swI;by_cases q:k=j
 ·subst q;rw [if_pos rfl];by_cases e:k=n
  ·rw [if_pos e,e]
  ·rw [if_neg e,if_pos rfl]
 ·rw [if_neg q];by_cases e:n=j
  ·rw [if_pos e,if_pos e.symm]
  ·rw [if_neg e,if_neg (fun x=>e x.symm),if_neg (fun x=>q x.symm)]
def RL (c:Nat) (rows:List (List Int)):Prop:=∀ r ∈ rows,bV r∧∀ z ∈ r,0 ≤ z∧z < (c:Int)
theorem RL.len {c:Nat} {rows:List (List Int)} (h:RL c rows):∀ r ∈ rows,r.length ≤ c:=fun r hr=>o7 (h r hr).1 (h r hr).2
theorem RL.sum {c:Nat} {a b:List Int} (h1:bV a∧∀ z ∈ a,0 ≤ z∧z < (c:Int)) (h2:bV b∧∀ z ∈ b,0 ≤ z∧z < (c:Int)):bV (bO a b)∧∀ z ∈ bO a b,0 ≤ z∧z < (c:Int):=⟨dX h1.1 h2.1,fun z hz=>by
 rcases (dy h1.1 h2.1).1 hz with q | q
 ·exact h1.2 z q.1
 ·exact h2.2 z q.1⟩
theorem RL.elF {c:Nat} {rows:List (List Int)} (h:RL c rows) {n k i:Nat} (hn:n < rows.length) (hi:i < rows.length):bV (elF rows n k i)∧∀ z ∈ elF rows n k i,0 ≤ z∧z < (c:Int):=by
 unfold Go.Proofs.YtekdaafnjdlenaaGreat.elF;split
 ·exact RL.sum (h _ (aC hi)) (h _ (aC hn))
 ·exact h _ (aC hi)
theorem RL.elP {c:Nat} {rows:List (List Int)} (h:RL c rows) {n k i:Nat} (hn:n < rows.length):RL c (elP rows n k i):=fun r hr=>by
 unfold Go.Proofs.YtekdaafnjdlenaaGreat.elP at hr;obtain ⟨j,hj,rfl⟩:=bU.1 hr;have hj:=dB.1 hj;split
 ·exact h.elF hn hj
 ·exact h _ (aC hj)
theorem RL.swL {c:Nat} {rows:List (List Int)} (h:RL c rows) {n k:Nat} (hn:n < rows.length) (hk:k < rows.length):RL c (swL rows n k):=fun r hr=>by
 unfold Go.Proofs.YtekdaafnjdlenaaGreat.swL at hr;obtain ⟨j,hj,rfl⟩:=bU.1 hr;exact h _ (aC (lM hn hk (dB.1 hj)))
theorem AF {c:Nat} {R:List (List Int)} (h:RL c R):∀ {k:Nat},RL c (stR R k).1∧(stR R k).1.length=R.length∧(stR R k).2 ≤ R.length
 | 0=>⟨h,rfl,bB _⟩
 | k + 1=>by
  obtain ⟨h1,h2,h3⟩:=AF h (k:=k);unfold stR;split
  ·exact ⟨h1,h2,h3⟩
  ·rename_i p hp;obtain ⟨p1,p2⟩:=tJ hp;have hs:=h1.swL (n:=(stR R k).2) (k:=p) (by omega) p2;refine ⟨?_,?_,?_⟩
   ·dsimp only;rw [← xK];exact hs.elP (by rw [oU]; omega)
   ·dsimp only;unfold elL;rw [bF,List.length_range,oU]; exact h2
   ·dsimp only; omega
theorem jg.one {H:Hp} {s:AV} {l:List (List Int)} (h:jg H s l):s.one=true∧s.cells=[s]:=by
 rcases h with rfl | h
 ·exact ⟨rfl,rfl⟩
 ·exact h.one
theorem x9:∀ k,stR [] k=([],0)
 | 0=>rfl
 | k + 1=>by
  unfold stR;rw [x9 k];rfl
attribute [local irreducible] aA ag a8 aQ aK aL ar aN aU bd Go.Abs.Fn aP Go.Abs.Pure an aG Yl
set_option maxHeartbeats 1000000 in
theorem w5 (c:Nat) (hmc:c ≤ 4096) (G:Hp) (n0:Nat) (s:AV) (hsR:jg G s []) (hsb:∀ b,bS s=some b→b < n0):Abs.Fn Tryz.prog 106 [.agg [.int .i64 c,s]] G n0 fun r H' nx'=>∃ s',r=.agg [.int .i64 c,s']∧jg H' s' ([])∧n0 ≤ nx'∧(∀ x,x < n0→H' x=G x)∧∀ b,bS s'=some b→n0 ≤ b∧b < nx':=by
 refine fO Dq ?_;simp only [En,aJ];obtain ⟨o1,o2⟩:=hsR.one;refine wnY (zI3 @dQ @o1 @o2) ?_;refine jO rfl ev0 ev0 (hsR.src fun b hb=>by have:=hsb b hb; rw [ab (by omega),ab (by omega)]) yn (by decide) (by decide) ?_;refine wnY @dQ ?_;refine yb (X:=Nat) (fun k=>[(1,.ptr n0 2 0),(2,.ptr (n0 + 1) 2 0),(3,bJ []),(4,.int .i64 0),(5,.int .i64 k)]) (fun k H nx=>k ≤ c∧n0 + 3 ≤ nx∧H n0=some [.int .i64 c,s]∧H (n0 + 1)=some [.int .i64 0,.esl]∧∀ x,x < n0→H x=G x) (fun k=>c - k) 0 ⟨_,_,Fz.one (b:=n0 + 2) (cs:=[]) (by rw [af]; rfl),⟨bB _,aR _,by rw [cQ (by omega),ab (by omega),ab (by omega),af],by rw [cQ (by omega),ab (by omega),af],fun x hx=>by rw [cQ (by omega),ab (by omega),ab (by omega),ab (by omega)]⟩,.inl rfl,.inl rfl,.inr (yN (l:=[]) kJ rfl rfl),.inl rfl,.inl rfl,trivial⟩ ?_;rintro k H nx ⟨h1,h2,g0,g1,gl⟩;by_cases hk:k < c
 ·have zk:decide ((k:Int) < c)=true:=aX (by omega);have hpv:=Bp [] 0 k (by decide) (fun r hr=>(by cases hr)) (by decide);rw [show B4 [] 0 k=-1 from rfl] at hpv;have z0:decide ((-1:Int) < 0)=true:=rfl;refine wnY (zI3 @zk @g0 @z0) ?_;exact ⟨k + 1,by omega,bA,_,Fz.none,⟨by omega,h2,g0,g1,gl⟩,iP ag0⟩
 ·obtain rfl:k=c:=by omega
  have zk:decide ((k:Int) < k)=false:=aS (by omega);have hsl:ig 1 (bJ []) none (some (.int .i64 0)) none=some (bJ []):=rfl;refine wnY (zI4 @g0 @g1 @zk @hsl) ?_;refine jO rfl ev0 ev0 (fx (l:=[])) gA (by decide) (by decide) ?_;refine wnY @g1 ?_;refine ⟨_,rfl,.inr ?_,by omega,fun x hx=>by (repeat rw [ab (by omega)]); exact gl x hx,fun b hb=>?_⟩
  ·exact Row.box (nx + 1) 0 [] (by (repeat rw [ab (by omega)]); rw [af]; rfl) rfl
  ·cases hb; omega
set_option maxHeartbeats 1000000 in
theorem wh (c:Nat) (R:List (List Int)) (hm:sq c R) (G:Hp) (n0:Nat) (s:AV) (hsR:jg G s R) (hsb:∀ b,bS s=some b→b < n0):Abs.Fn Tryz.prog 106 [.agg [.int .i64 c,s]] G n0 fun r H' nx'=>∃ s',r=.agg [.int .i64 c,s']∧jg H' s' (tN R c)∧n0 ≤ nx'∧(∀ x,x < n0→H' x=G x)∧∀ b,bS s'=some b→n0 ≤ b∧b < nx':=by
 have hmc:=hm.2.1;have hml:=hm.2.2.1;by_cases hR0:R=[]
 ·subst hR0;have e:tN [] c=[]:=by unfold tN; rw [x9]; rfl
  rw [e]; exact w5 c (by omega) G n0 s hsR hsb
 have hRn:R.length ≠ 0:=fun e=>hR0 (fh.1 e);refine fO Dq ?_;simp only [En,aJ];have hR:RL c R:=fun r hr=>⟨qM hm r hr,(hm.2.2.2 r hr).1⟩
 have hst:=fun k=>AF hR (k:=k);obtain ⟨o1,o2⟩:=hsR.one;refine wnY (zI3 @dQ @o1 @o2) ?_;refine jO rfl ev0 ev0 (hsR.src fun b hb=>by have:=hsb b hb; rw [ab (by omega),ab (by omega)]) yn (by omega) (by omega) ?_;rw [Nat.mul_one];refine wnY @dQ ?_;refine lpI (X:=Nat) (fun k=>[(1,.ptr n0 2 0),(2,.ptr (n0 + 1) 2 0),(3,.msl (n0 + 2) R.length 1 0 R.length),(4,.int .i64 (stR R k).2),(5,.int .i64 k)]) (fun k H nx=>k ≤ c∧n0 + 3 ≤ nx∧H n0=some [.int .i64 c,s]∧H (n0 + 1)=some [.int .i64 0,.esl]∧H (n0 + 2)=some ((stR R k).1.map az)∧∀ x,x < n0→H x=G x) (fun k=>c - k) 0 ⟨bB _,aR _,by rw [ab (by omega),ab (by omega),af],by rw [ab (by omega),af],af,fun x hx=>by rw [ab (by omega),ab (by omega),ab (by omega)]⟩ ?_;rintro k H nx ⟨h1,h2,g0,g1,g2,gl⟩;obtain ⟨r1,r2,r3⟩:=hst k;by_cases hk:k < c
 rotate_left
 ·obtain rfl:k=c:=by omega
  have hrr:tN R k=(stR R k).1.take (stR R k).2:=rfl;generalize (stR R k).1=rows at *;generalize (stR R k).2=n at *;rw [hrr];have zk:decide ((k:Int) < k)=false:=aS (by omega)
  have hsl:ig 1 (.msl (n0 + 2) R.length 1 0 R.length) none (some (.int .i64 n)) none=some (.msl (n0 + 2) R.length 1 0 n):=by
   simp [ig,bo];exact fun q=>absurd (q r3) hR0
  refine wnY (zI5 @g0 @g1 @g2 @zk @hsl) ?_;refine jO rfl ev0 ev0 (ee (cs:=rows.map az) ?_ (by rw [bF]; omega) (by omega)) (by rw [List.drop_zero,← List.map_take]; exact gA) (by omega) (by omega) ?_
  ·rw [ab (by omega),ab (by omega)]; exact g2
  rw [List.drop_zero,← List.map_take,Nat.mul_one];refine wnY @g1 ?_;refine ⟨_,rfl,.inr ?_,by omega,fun x hx=>by (repeat rw [ab (by omega)]); exact gl x hx,fun b hb=>?_⟩
  ·simpa only [Nat.mul_one] using Row.box (sz:=1) (nx + 1) n ((rows.take n).map az) (by (repeat rw [ab (by omega)]); rw [af]) (by rw [bF,ib]; omega)
  ·cases hb; omega
 have zk:decide ((k:Int) < c)=true:=aX (by omega);have hpv:=Bp (stR R k).1 (stR R k).2 k (by omega) (fun r hr=>by have:=r1.len r hr; omega) (by omega)
 have hss:stR R (k + 1)=match qN (stR R k).1 (stR R k).2 k with
  | none=>stR R k
  | some p=>(elL (swL (stR R k).1 (stR R k).2 p) (stR R k).2 k,(stR R k).2 + 1):=rfl
 unfold B4 at hpv;have hps:=fun p=>tJ (rows:=(stR R k).1) (n:=(stR R k).2) (c:=k) (k:=p);generalize hsk:stR R k=st at *;obtain ⟨rows,n⟩:=st;dsimp only at *;have hrow:Row H 1 (.msl (n0 + 2) R.length 1 0 R.length) (rows.map az):=by simpa only [Nat.mul_one] using Row.box (sz:=1) (n0 + 2) R.length (rows.map az) g2 (by rw [bF,Nat.mul_one,r2])
 refine wnY (aI @zk @g0) ?_;refine fK ev0 ev0 hpv (aH (ai (oZ hrow) (ai (.int _ _) (ai (.int _ _) ao))) rfl) ?_;cases hp:qN rows n k with
 | none =>
  rw [hp] at hss;dsimp only at hss;have z0:decide ((-1:Int) < 0)=true:=rfl;refine wnY @z0 ?_;exact ⟨k + 1,by omega,⟨by omega,h2,g0,g1,by rw [hss]; exact g2,gl⟩,by rw [hss]; simp (disch:=omega) only [agr,ZG,reduceEqDiff,↓reduceIte]⟩
 | some p =>
  rw [hp] at hss;dsimp only at hss;obtain ⟨p1,p2⟩:=hps p hp;have z0:decide ((p:Int) < 0)=false:=aS (by omega);have rl:(rows.map az).length=R.length:=by rw [bF,r2]
  refine wnY (zI4 @z0 @g2 @rl @r2) ?_;rw [wJ (by omega)];have rl2:(rows.set n (rows.getD p default)).length=R.length:=by rw [List.length_set,r2]
  refine wnY @rl2 ?_;rw [wJ (by rw [List.length_set]; omega),EA (by omega) p2];have hSl:=oU (rows:=rows) (n:=n) (k:=p);have hSr:=r1.swL (n:=n) (k:=p) (by omega) p2;generalize swL rows n p=S at *;clear hrow g2 rl rl2 hpv;refine bR (X:=Nat) (fun i=>[(1,.ptr n0 2 0),(2,.ptr (n0 + 1) 2 0),(3,.msl (n0 + 2) R.length 1 0 R.length),(4,.int .i64 n),(5,.int .i64 k),(7,.int .i64 i)]) (fun i H' nx'=>i ≤ R.length∧n0 + 3 ≤ nx'∧H' n0=some [.int .i64 c,s]∧H' (n0 + 1)=some [.int .i64 0,.esl]∧H' (n0 + 2)=some ((elP S n k i).map az)∧∀ x,x < n0→H' x=G x) (fun i=>R.length - i) 0 ⟨bB _,h2,by rw [ab (by omega),ab (by omega)]; exact g0,by rw [ab (by omega),ab (by omega)]; exact g1,by rw [af,GS],fun x hx=>by rw [ab (by omega),ab (by omega)]; exact gl x hx⟩ ag0 ?_;rintro i H' nx' ⟨i1,i2,j0,j1,j2,jl⟩;have hPl:(elP S n k i).length=R.length:=by rw [gu]; omega
  have hPr:=hSr.elP (n:=n) (k:=k) (i:=i) (by omega);have rl3:((elP S n k i).map az).length=R.length:=by rw [bF,hPl]
  by_cases hi:i < R.length
  rotate_left
  ·obtain rfl:i=R.length:=by omega
   have zi:decide ((R.length:Int) < R.length)=false:=aS (by omega);refine wnY @zi ?_;refine ⟨k + 1,by omega,⟨by omega,i2,j0,j1,?_,jl⟩,by rw [hss]; simp (disch:=omega) only [agr,ZG,reduceEqDiff,↓reduceIte]⟩;rw [hss,j2,show R.length=S.length by omega,xK]
  have hPi:(elP S n k i).getD i default=S.getD i default:=by rw [iQ (by omega),if_neg (by omega)]
  have hnn:elF S n k n=S.getD n default:=by unfold elF; rw [if_neg (fun q=>q.1 rfl)]
  have hPn:(elP S n k i).getD n default=S.getD n default:=by rw [iQ (by omega),hnn]; split <;> rfl
  have hPs:=CE (rows:=S) (n:=n) (c:=k) (i:=i);have hPe:=fun e=>BQ (rows:=S) (n:=n) (c:=k) (i:=i) (by omega) e;have hFi:elF S n k i=if i ≠ n∧(k:Int) ∈ S.getD i default then bO (S.getD i default) (S.getD n default) else S.getD i default:=rfl
  have hli:=hSr.len _ (aC (show i < S.length by omega));have hln:=hSr.len _ (aC (show n < S.length by omega));have hh:=AC (S.getD i default) (k:Int) (by omega);have hpl:=CW (S.getD i default) (S.getD n default) (by omega) (by omega);have zi:decide ((i:Int) < R.length)=true:=aX (by omega);generalize hP2:elP S n k (i + 1)=P2 at *;generalize hP1:elP S n k i=P at *;generalize S.getD i default=x at *;generalize S.getD n default=y at *;by_cases hin:i=n
  ·have zn:decide ((i:Int) ≠ n)=false:=aS (by omega);rw [if_neg (fun q=>q.1 hin)] at hFi;refine wnY (zI5 @zi @zn @j2 @rl3 @hPl) ?_;exact ⟨i + 1,by omega,⟨by omega,i2,j0,j1,by rw [hP2,hPe hFi]; exact j2,jl⟩,ag0⟩
  have zn:decide ((i:Int) ≠ n)=true:=aX (by omega);by_cases hx:(k:Int) ∈ x
  ·rw [aX hx] at hh;rw [if_pos ⟨hin,hx⟩] at hFi;rw [← hFi] at hpl;refine wkY (zI7 @zi @zn @j2 @rl3 @hPl @hPi @hPn) ?_;rw [wJ (by omega),hPs]
   skip
   exact ⟨i + 1,by omega,⟨by omega,i2,by rw [ab (by omega)]; exact j0,by rw [ab (by omega)]; exact j1,by rw [hP2]; exact af,fun x hx=>by rw [ab (by omega)]; exact jl x hx⟩,ag0⟩
  ·rw [aS hx] at hh;rw [if_neg (fun q=>hx q.2)] at hFi;refine wnY (zI6 @zi @zn @j2 @rl3 @hPl @hPi) ?_;exact ⟨i + 1,by omega,⟨by omega,i2,j0,j1,by rw [hP2,hPe hFi]; exact j2,jl⟩,ag0⟩
theorem jg.snapM {H:Hp} {s:AV} {l:List (List Int)} {c:Int} (h:jg H s l):Snap H (.agg [.int .i64 c,s]) (ez c l):=kr (ai (.int _ _) (ai h.snap ao))
theorem zS (c:Nat) (R:List (List Int)) (hm:sq c R):pU 106 [ez c R] (ez c (tN R c)) :=
 Pure.of_fn ((wh c R hm bA 0 (bJ R) (.inl rfl) (fun b hb=>(by cases hb))).mono fun r H' nx' ⟨s',e,h,_⟩=>by rw [e]; exact h.snapM)
end Go.Proofs.YtekdaafnjdlenaaGreat
namespace Go.Proofs.YtekdaafnjdlenaaGreat
open Go Go.Abs
structure CmpO {α:Type} (P:Program) (f:α→AV) (K:α→α→Int) (G:α→Prop):Prop where
 cells:∀ x,(f x).cells=[f x]
 one:∀ x,(f x).one=true
 dat:∀ x,Dat (f x)
 run:∀ x y,G x→G y→Go.Abs.Pure P 187 [f x,f y] (.bool (decide (K x y < 0)))
 ord:Ord K
section
variable {α:Type} [Inhabited α] {f:α→AV} {K:α→α→Int} {G:α→Prop}
attribute [local irreducible] aA ag a8 aQ aK aL ar aN aU bd Go.Abs.Fn aP Go.Abs.Pure an aG Yl
end
attribute [local irreducible] aA ag a8 aQ aK aL ar aN aU bd Go.Abs.Fn aP Go.Abs.Pure an aG Yl
def Ak (m:Nat):Prop:=∀ {L:List Int} {H:Hp} {b nx n:Nat},H b=some (L.map fun x=>.int .i64 x)→b < nx→L.length=n→0 < n→n ≤ m →
    Abs.Fn Tryz.prog 147 [.msl b n 1 0 n] H nx fun r H' nx'=>∃ L':List Int,PS H H' nx nx' b (L'.map fun x=>.int .i64 x)∧L'.Perm L∧L'.Pairwise (· ≤ ·)
theorem Ak.le {m k:Nat} (h:Ak m) (hk:k ≤ m):Ak k:=fun a b c d e=>h a b c d (eW e hk)
end Go.Proofs.YtekdaafnjdlenaaGreat
namespace Go.Proofs.YtekdaafnjdlenaaGreat
open Go Go.Abs
theorem BG {H:Hp} {sv:AV} {l:List Int} (h:Row H 1 sv (l.map (AV.int .i64))) (h0:0 < l.length):∃ B,sv=.msl B l.length 1 0 l.length∧H B=some (l.map (AV.int .i64)):=by
 generalize hcs:l.map (AV.int .i64)=cs at h;have hl:cs.length=l.length:=by rw [← hcs,bF]
 cases h with
 | nil=>simp at hl; omega
 | box B len cs h1 h2 =>
  have e:len=l.length:=by omega
  subst e;exact ⟨B,by rw [Nat.mul_one],h1⟩
attribute [local irreducible] aA ag a8 aQ aK aL ar aN aU bd Go.Abs.Fn aP Go.Abs.Pure an aG Yl
end Go.Proofs.YtekdaafnjdlenaaGreat
namespace Go.Proofs.YtekdaafnjdlenaaGreat
open Go Go.Abs
def bdN (c:List Spx) (d:Nat):Nat:=(aZ c ((d:Int) + 1)).length
def bdM (c:List Spx) (d:Nat):List (List Int):=trL (aZ c ((d:Int) + 1 + 1)).length (fy (aZ c ((d:Int) + 1 + 1)) (aZ c ((d:Int) + 1)))
attribute [local irreducible] aA ag a8 aQ aK aL ar aN aU bd Go.Abs.Fn aP Go.Abs.Pure an aG Yl
end Go.Proofs.YtekdaafnjdlenaaGreat
namespace Go.Proofs.YtekdaafnjdlenaaGreat
open Go Go.Abs
theorem jg.same {H H':Hp} {s:AV} {l:List (List Int)} (h:jg H s l) (hs:∀ b,bS s=some b→H' b=H b):jg H' s l:=by
 rcases h with h | h
 ·exact .inl h
 ·exact .inr (h.same hs)
theorem BH {c:List Spx}:b9 c=.agg [aD c]:=rfl
theorem DH {c:Nat} {R:List (List Int)} (h:sq c R):∀ r ∈ R,∀ z ∈ r,0 ≤ z∧z < (c:Int):=fun r hr=>(h.2.2.2 r hr).1
attribute [local irreducible] aA ag a8 aQ aK aL ar aN aU bd Go.Abs.Fn aP Go.Abs.Pure an aG Yl
end Go.Proofs.YtekdaafnjdlenaaGreat
namespace Go.Proofs.YtekdaafnjdlenaaGreat
open Go Go.Abs
theorem tE {c:List Spx}:∀ {k:Nat},k ≤ c.length→∀ i,i < k→((c.getD i default).length:Int) ≤ (iL c k).2
 | 0,_,i,hi=>absurd hi (by omega)
 | k + 1,hk,i,hi=>by
  unfold iL;dsimp only;rcases (by omega:i < k ∨ i=k) with h | rfl
  ·have:=tE (c:=c) (k:=k) (by omega) i h; omega
  ·omega
theorem ub {c:List Spx} {m k:Nat} (hm:eS c=m) (hk:m < k):ft c k=[]:=by
 refine vF.2 fun s hs=>?_;obtain ⟨t,ht,h⟩:=ph.1 hs;obtain ⟨h1,h2⟩:=dp.1 h;have h3:=h1.length_le;obtain ⟨i,hi,e⟩:=jx ht;have h4:=tE (c:=c) (aR _) i hi;rw [show c.getD i default=t by simp [List.getD,hi,e]] at h4;unfold eS at hm;omega
theorem kI {c:List Spx} {n:Nat}:aZ c ((n:Int) + 1)=ft c (n + 1):=by
 have:=uB (c:=c) (k:=n + 1);rw [if_neg (by omega)] at this;exact this
theorem x7 {c:List Spx} {m k:Nat} (hm:eS c=m) (hk:m ≤ k):rkF c k=0:=by
 have:=lH (c:=c) (d:=k);rw [kI,ub hm (by omega)] at this;simpa using this
structure VR (c:Nat) (R:List (List Int)):Prop where
 asc:∀ r ∈ R,bV r
 rng:∀ r ∈ R,∀ z ∈ r,0 ≤ z∧z < (c:Int)
def rk (R:List (List Int)) (c:Nat):Nat:=(mi R c).length
theorem VR.app {c:Nat} {R S:List (List Int)} (h1:VR c R) (h2:VR c S):VR c (R ++ S) :=
 ⟨fun r hr=>(eX.1 hr).elim (h1.asc r) (h2.asc r),fun r hr=>(eX.1 hr).elim (h1.rng r) (h2.rng r)⟩
theorem VR.sub {c:Nat} {R S:List (List Int)} (h:VR c R) (hs:∀ r ∈ S,r ∈ R):VR c S:=⟨fun r hr=>h.asc r (hs r hr),fun r hr=>h.rng r (hs r hr)⟩
theorem VR.one {c:Nat} {v:List Int} (ha:bV v) (hv:∀ z ∈ v,0 ≤ z∧z < (c:Int)):VR c [v]:=⟨fun r hr=>by rw [dY] at hr; rw [hr]; exact ha,fun r hr=>by rw [dY] at hr; rw [hr]; exact hv⟩
theorem VR.nil {c:Nat}:VR c []:=⟨fun _ h=>(by cases h),fun _ h=>(by cases h)⟩
structure KerV (R:List (List Int)) (c:Nat) (x:List Int):Prop where
 asc:bV x
 rng:∀ z ∈ x,0 ≤ z∧z < (c:Int)
 dot:∀ r ∈ R,jB (fun z=>bit z r) x % 2=0
attribute [local irreducible] aA ag a8 aQ aK aL ar aN aU bd Go.Abs.Fn aP Go.Abs.Pure an aG Yl
theorem Ao (c:List Spx) (m:Nat) (hc:ay c=0) (hl:c.length ≤ 50) (hm:eS c=m) (hm8:m ≤ 8) (G:Hp) (n0:Nat):Abs.Fn Tryz.prog 44 [b9 c] G n0 fun r H' nx'=>∃ sv,r=.tup [sv,.int .i64 0]∧Row H' 1 sv ((btL c m).map (AV.int .i64))∧n0 ≤ nx'∧(∀ x,x < n0→H' x=G x)∧∀ b,bS sv=some b→n0 ≤ b∧b < nx':=by
 refine fO Fm ?_;simp only [b44,aJ];have hdi:=mf c hc hl;rw [hm] at hdi;have z0:decide ((0:Int) ≠ 0)=false:=rfl;have hed:=fun d (h:d ≤ 8)=>xC c d hc hl h;have hsz:=fun d (h:d ≤ 8)=>s0 c d hc hl h;have hrl:=fun d:Int=>iM hc hl (d:=d);have hrk:=fun d:Nat=>Bs (aZ c ((d:Int) + 1)).length (fy (aZ c ((d:Int) + 1)) (aZ c d)) (sI (by have:=hrl ((d:Int) + 1); omega) (by have:=hrl d; omega));have hrf:=fun d:Nat=>lH (c:=c) (d:=d);refine wnY (zI3 @z0 @ak @ah) ?_;refine uv ?_;refine wnY and_self ?_;refine lpI (X:=Nat) (fun k=>[(1,.ptr n0 1 0),(4,.int .i64 ((m:Int) - 1)),(7,.mp (n0 + 1)),(26,.int .i64 ((m:Int) - 1 + 2)),(27,.int .i64 k)]) (fun k H nx=>k ≤ m + 1∧n0 + 2 ≤ nx∧H n0=some [aD c]∧H (n0 + 1)=some [.omap ((rkK k).map (AV.int .i64)) (rkV c k)]∧∀ x,x < n0→H x=G x) (fun k=>m + 1 - k) 0 ⟨bB _,aR _,(ab (by omega)).trans af,af,fun x hx=>by rw [ab (by omega),ab (by omega)]⟩ ?_;rintro k H nx ⟨g1,g2,g3,g4,gl⟩;by_cases hk:k < m + 1
 ·have hed1:=hed k (by omega);have hrk1:=hrk k;have hr1:=hrl ((k:Int) + 1);have hd1:Dat (ez (aZ c ((k:Int) + 1)).length (fy (aZ c ((k:Int) + 1)) (aZ c k))):=gM _ _;change pU 97 _ (.tup [.int .i64 (rkF c k),.int .i64 0]) at hrk1;rw [eF] at hed1 hrk1 hd1;generalize fy (aZ c ((k:Int) + 1)) (aZ c k)=R at *;generalize (aZ c ((k:Int) + 1)).length=n at *;have z1:decide ((k:Int) < (m:Int) - 1 + 2)=true:=aX (by omega);refine wnY (zI5 @g3 @z0 @z1 @ak @ah) ?_;have hmf:=hU (k:Int) (rkK k);rw [if_neg (fun q=>by have:=iX.1 q; omega)] at hmf;refine pj ev0 ((ab (by omega)).trans ((ab (by omega)).trans g4)) ev0 ev0 rfl hmf ?_;refine wnY @z0 ?_;refine ⟨k + 1,by omega,⟨by omega,by omega,by rw [ab (by omega),ab (by omega),ab (by omega)]; exact g3,?_,fun x hx=>by rw [ab (by omega),ab (by omega),ab (by omega)]; exact gl x hx⟩,ag0⟩;rw [af,tL,vH,db];rfl
 obtain rfl:k=m + 1:=by omega
 have z1:decide (((m + 1:Nat):Int) < (m:Int) - 1 + 2)=false:=aS (by omega);refine wnY @z1 ?_;refine lpI (X:=AV × Nat) (fun x=>[(1,.ptr n0 1 0),(7,.mp (n0 + 1)),(11,x.1),(51,.int .i64 ((m:Int) - 1 + 1)),(52,.int .i64 x.2)]) (fun x H nx=>x.2 ≤ m∧n0 + 2 ≤ nx∧H n0=some [aD c]∧H (n0 + 1)=some [.omap ((rkK (m + 1)).map (AV.int .i64)) (rkV c (m + 1))]∧Row H 1 x.1 ((btL c x.2).map (AV.int .i64))∧(∀ b,bS x.1=some b→n0 + 2 ≤ b∧b < nx)∧∀ x,x < n0→H x=G x) (fun x=>m - x.2) (.esl,0) ⟨bB _,g2,g3,g4,Row.nil,fun b h=>(by cases h),gl⟩ ?_;clear g1 g2 g3 g4 gl;rintro ⟨sv,k⟩ H nx ⟨g1,g2,g3,g4,g5,g6,gl⟩;dsimp only at g1 g2 g3 g4 g5 g6 gl ⊢;by_cases hk:k < m
 rotate_left
 ·obtain rfl:k=m:=by omega
  have z1:decide ((k:Int) < (k:Int) - 1 + 1)=false:=aS (by omega);refine wnY @z1 ?_;exact ⟨sv,rfl,g5,by omega,gl,fun b hb=>by have:=g6 b hb; omega⟩
 have hsz1:=hsz k (by omega);have hr1:=hrl ((k:Int) + 1);have hr2:=hrl (((k + 1:Nat):Int) + 1);have hf1:=hrf k;have hf2:=hrf (k + 1);have hmf1:=hU (k:Int) (rkK (m + 1));rw [if_pos (iX.2 (by omega)),oW (by omega)] at hmf1;have hmf2:=hU ((k + 1:Nat):Int) (rkK (m + 1));rw [if_pos (iX.2 (by omega)),oW (by omega)] at hmf2;rw [show ((k + 1:Nat):Int)=(k:Int) + 1 by omega] at hmf2;have hv1:Go.Abs.mget (.int .i64 0) false (some k) (rkV c (m + 1))=.int .i64 (rkF c k):=oO (by omega);have hv2:Go.Abs.mget (.int .i64 0) false (some (k + 1)) (rkV c (m + 1))=.int .i64 (rkF c (k + 1)):=oO (by omega);have hsn:=qK (c:=c) (n:=k);have hbl:(btL c k).length=k:=by unfold btL; simp
 have hbf:btF c k=((aZ c ((k:Int) + 1)).length:Int) - (rkF c k:Int) - (rkF c (k + 1):Int):=rfl;rw [hbf] at hsn;generalize rkF c k=f1 at *;generalize rkF c (k + 1)=f2 at *;generalize (aZ c ((k:Int) + 1)).length=n at *;generalize (aZ c (((k + 1:Nat):Int) + 1)).length=n2 at *;have z1:decide ((k:Int) < (m:Int) - 1 + 1)=true:=aX (by omega);refine wnY (zI5 @g3 @z0 @z1 @ak @ah) ?_;refine i9 ev0 g4 ev0 rfl hmf1 ?_;rw [hv1];refine wnY and_self ?_;refine i9 ev0 g4 ev0 rfl hmf2 ?_;rw [hv2];refine wnY and_self ?_;refine eR (g5.same fun b hb=>?_) ?_
 ·have:=g6 b hb;rw [ab (by omega)]
 rintro s2 H2 nx2 hr3 i1 i2 i3 i4;have hdo:∀ b,b < n0 + 2→bS sv ≠ some b:=fun b hb e=>by have:=g6 b e; omega
 have lo2:∀ b,b < n0 + 2→H2 b=H b:=fun b hb=>(i3 b (by omega) (hdo b hb)).trans (by rw [ab (by omega)]);refine wnY and_self ?_;refine ⟨(s2,k + 1),by dsimp only; omega,⟨by dsimp only; omega,by omega,(lo2 n0 (by omega)).trans g3,(lo2 (n0 + 1) (by omega)).trans g4,?_,fun b hb=>?_,fun x hx=>(lo2 x (by omega)).trans (gl x hx)⟩,ag0⟩
 ·dsimp only;rw [hsn,db]; exact hr3
 ·rcases i4 b hb with h | h
  ·have:=g6 b h; omega
  ·omega
end Go.Proofs.YtekdaafnjdlenaaGreat
namespace Go.Proofs.YtekdaafnjdlenaaGreat
open Go Go.Abs
theorem A5 {H:Hp} {b n j:Nat} {l:List Int} (hb:H b=some (l.map (AV.int .i64))) (hn:l.length=n) (hj:j ≤ n):Snap H (.msl b n 1 0 j) (az (l.take j)):=by
 refine gH hb (by simp [hn]) (by omega) (by simp [hn,hj]) (fun y hy=>by simp only [bU] at hy; obtain ⟨n,_,rfl⟩:=hy; rfl) (fun i a c ha hc=>?_);rw [b6] at ha;rw [jt,gy] at hc;rw [jt] at ha;split at hc
 ·rw [ha] at hc;cases hc;obtain ⟨z,_,rfl⟩:=Option.map_eq_some_iff.1 ha;exact .int _ _
 ·cases hc
def C7 (l:List Int) (k:Int):Bool:=match l with
 | []=>false
 | x :: r=>!((((x - 1) :: r).take (min (k + 1) ((r.length + 1:Nat):Int)).toNat).any fun n=>decide (n ≠ 0))
theorem tc {c:List Spx} {m:Nat}:(btL c m).length=m:=by unfold btL; simp
theorem AB {c:List Spx} {m:Nat} (hc:ay c=0) (hl:c.length ≤ 50):∀ x ∈ btL c m,-7000 ≤ x∧x ≤ 7000:=fun x hx=>by
 unfold btL at hx;obtain ⟨d,_,rfl⟩:=bU.1 hx;unfold btF;have h1:=iM hc hl (d:=(d:Int) + 1);have h2:=iM hc hl (d:=((d + 1:Nat):Int) + 1);have h3:=lH (c:=c) (d:=d);have h4:=lH (c:=c) (d:=d + 1);omega
attribute [local irreducible] aA ag a8 aQ aK aL ar aN aU bd Go.Abs.Fn aP Go.Abs.Pure an aG Yl
theorem El (n:Int):pU 49 [.int .i64 n] (.bool (decide (n ≠ 0))):=by
 refine pO H6 ?_;simp only [b49,aJ]
 repeat' (first|refine zW ?_|apply a_n|refine zO ?_|refine vZ ?_|refine b4 rfl ?_|refine r1Z ?_|fail)
 exact .bool _
theorem sK (c:List Spx) (m:Nat) (k:Int) (hc:ay c=0) (hl:c.length ≤ 50) (hm:eS c=m) (hm8:m ≤ 8) (hk:-1 ≤ k∧k < 8):pU 15 [b9 c,.int .i64 k] (.tup [.bool (C7 (btL c m) k),.int .i64 0]):=by
 refine pO FM ?_;simp only [b15,aJ];have hch:=qz c hc hl;have hbt:=fun G n0=>Ao c m hc hl hm hm8 G n0;have hlen:=tc (c:=c) (m:=m);have hbd:=AB (m:=m) hc hl;have z0:decide ((0:Int) ≠ 0)=false:=rfl;have z1:decide (k < (-1:Int))=false:=aS (by omega);have z2:decide ((8:Int) ≤ k)=false:=aS (by omega);generalize btL c m=l at *;have zz:=aI @z0 (aI @z1 (aI @z2 (aI @ak @ah))); repeat' (first|refine zW ?_|apply a_n|refine zO ?_|refine vY ?_|refine cY ?_ (hp:=hch) (hs:=by (first | refine aH ?_ rfl | apply aW); (repeat' (first | exact ao | apply br | apply aY | exact eO _)); first | done | fail)|refine bxY ?_|refine gTY ?_|refine cFY ?_|fail)
 rw [BH] at hbt;refine bg ev0 ev0 (hbt _ _) ?_;rintro _ H1 nx1 ⟨sv,rfl,hrow,h1,h2,h3⟩;have hls:=hrow.lenS (n:=l.length) (by rw [bF,Nat.mul_one]) mV;cases l with
 | nil =>
  have zn:decide ((0:Int)=0)=true:=rfl;have hls0:c6 sv=some (.int .i64 0):=hls;clear zz;have zz:=aI @z0 (aI @hls0 @zn); repeat' (first|refine zW ?_|apply a_n|apply a_r|refine zO ?_|refine vY ?_|refine gTY ?_|(refine zGY ?_ ?_ <;> (intro _hg; try (exfalso; omega)))|refine b4 rfl ?_|refine r2Y ?_|fail)
  exact bD (ai (.bool _) (ai (.int _ _) ao))
 | cons x r =>
  have zn:decide ((((r.length + 1:Nat):Nat):Int)=0)=false:=aS (by omega);obtain ⟨B,rfl,hB⟩:=BG hrow (by simp);have hx:=hbd x (d4 ..);have hB1:H1 B=some (.int .i64 x :: r.map (AV.int .i64)):=hB;have hN:(x :: r).length=r.length + 1:=rfl;rw [hN] at hls h3 ⊢;clear zz;have zz:=aI @z0 (aI @hls @zn); repeat' (first|refine zW ?_|apply a_n|refine zO ?_|refine vY ?_|refine gTY ?_|refine cFY ?_|fail)
  have hlc:(AV.int .i64 x :: r.map (AV.int .i64)).length=r.length + 1:=by simp
  clear zz;have zz:=aI @hB1 (aI @hlc (aI @Int.toNat_zero @sJ)); repeat' (first|refine zW ?_|apply a_n|refine zO ?_|refine vY ?_|refine stY ?_|fail)
  have hcj:C7 (x :: r) k=!((((x - 1) :: r).take (min (k + 1) ((r.length + 1:Nat):Int)).toNat).any fun n=>decide (n ≠ 0)):=rfl;obtain ⟨j,hj,hjl⟩:∃ j:Nat,min (k + 1) ((r.length + 1:Nat):Int)=j∧j ≤ r.length + 1:=⟨(min (k + 1) ((r.length + 1:Nat):Int)).toNat,by omega,by omega⟩
  rw [hj,cm] at hcj;rw [hcj,hj]
  have hsl:ig 1 (.msl B (r.length + 1) 1 0 (r.length + 1)) none (some (.int .i64 j)) none=some (.msl B (r.length + 1) 1 0 j):=by
   simp [ig,bo];omega
  clear zz;have zz:=@hsl; repeat' (first|apply a_n|refine zO ?_|refine vY ?_|fail)
  refine fK ev0 ev0 (mJ (((x - 1) :: r).take j) (fun n=>decide (n ≠ 0)) 49 [] (fun x h=>(by cases h)) (fun x _=>El x) (show _ ≤ _ by rw [ib]; simp; omega)) (aH (ai (A5 (l:=(x - 1) :: r) (n:=r.length + 1) af rfl hjl) (ai (rK ao) ao)) rfl) ?_
  repeat' (first|apply a_n|refine zO ?_|refine vY ?_|refine b4 rfl ?_|refine r2Y ?_|fail)
  exact bD (ai (.bool _) (ai (.int _ _) ao))
end Go.Proofs.YtekdaafnjdlenaaGreat
namespace Go.Proofs.YtekdaafnjdlenaaGreat
open Go Go.Abs
def nf (c:List Spx):Nat→Nat
 | 0=>0
 | k + 1=>nf c k + 2 ^ min (c.getD k default).length 10
theorem sx {c:List Spx}:∀ k,nf c k ≤ 1024 * k
 | 0=>bB _
 | k + 1=>by
  have ih:=sx (c:=c) k;have:2 ^ min (c.getD k default).length 10 ≤ 2 ^ 10:=Nat.pow_le_pow_right (by omega) (by omega);unfold nf;omega
attribute [local irreducible] aA ag a8 aQ aK aL ar aN aU bd Go.Abs.Fn aP Go.Abs.Pure an aG Yl
def szS (c:List Spx):Nat→Int × Bool
 | 0=>(-1,true)
 | k + 1=>(if (szS c k).1 < ((c.getD k default).length:Int) - 1 then ((c.getD k default).length:Int) - 1 else (szS c k).1,(szS c k).2 && (decide (k=0) || decide (((c.getD k default).length:Int) - 1=(szS c k).1)))
theorem D4 (c:List Spx) (hc:Shn c) (hs:∀ s ∈ c,Shn s):pU 46 [b9 c] (.tup [.int .i64 (szS c c.length).1,.bool (szS c c.length).2]):=by
 refine pO HB ?_;simp only [b46,aJ];have hc':c.length ≤ 17592186044416:=hc;refine wnY (aI @ak @ah) ?_;refine lpI (X:=Nat) (fun k=>[(1,.ptr 0 1 0),(4,.int .i64 (szS c k).1),(5,.bool (szS c k).2),(6,.int .i64 k)]) (fun k H nx=>k ≤ c.length∧H 0=some [aD c]) (fun k=>c.length - k) 0 ⟨bB _,af⟩ ?_;rintro k H nx ⟨h1,g0⟩;by_cases hk:k < c.length
 rotate_left
 ·obtain rfl:k=c.length:=by omega
  refine wnY (aI @g0 @ae) ?_;exact bD (ai (.int _ _) (ai (.bool _) ao))
 have ix:=eI hk;have hsl:(c.getD k default).length ≤ 17592186044416:=hs _ (aC hk);have e:szS c (k + 1)=(if (szS c k).1 < ((c.getD k default).length:Int) - 1 then ((c.getD k default).length:Int) - 1 else (szS c k).1,(szS c k).2 && (decide (k=0) || decide (((c.getD k default).length:Int) - 1=(szS c k).1))):=rfl;generalize c.getD k default=s at *;generalize szS c k=P at *;obtain ⟨m,p⟩:=P;dsimp only at e ⊢;by_cases hm:m < (s.length:Int) - 1
 ·have zm:decide (m < (s.length:Int) - 1)=true:=aX hm;rw [if_pos hm] at e;cases p
  ·rw [Bool.false_and] at e;refine wnY (zI5 @g0 @ix @ae @am @zm) ?_;exact ⟨k + 1,by omega,⟨by omega,g0⟩,by rw [e]; (iterate 4 refine And.intro rfl ?_); trivial⟩
  ·rw [Bool.true_and] at e;by_cases hk0:k=0
   ·have zk:decide ((k:Int)=0)=true:=aX (by omega);rw [aX hk0,Bool.true_or] at e;refine wnY (zI6 @g0 @ix @ae @am @zm @zk) ?_;exact ⟨k + 1,by omega,⟨by omega,g0⟩,by rw [e]; (iterate 4 refine And.intro rfl ?_); trivial⟩
   ·have zk:decide ((k:Int)=0)=false:=aS (by omega);rw [aS hk0,Bool.false_or] at e;refine wnY (zI6 @g0 @ix @ae @am @zm @zk) ?_;exact ⟨k + 1,by omega,⟨by omega,g0⟩,by rw [e]; (iterate 4 refine And.intro rfl ?_); trivial⟩
 ·have zm:decide (m < (s.length:Int) - 1)=false:=aS hm;rw [if_neg hm] at e;cases p
  ·rw [Bool.false_and] at e;refine wnY (zI5 @g0 @ix @ae @am @zm) ?_;exact ⟨k + 1,by omega,⟨by omega,g0⟩,by rw [e]; (iterate 4 refine And.intro rfl ?_); trivial⟩
  ·rw [Bool.true_and] at e;by_cases hk0:k=0
   ·have zk:decide ((k:Int)=0)=true:=aX (by omega);rw [aX hk0,Bool.true_or] at e;refine wnY (zI6 @g0 @ix @ae @am @zm @zk) ?_;exact ⟨k + 1,by omega,⟨by omega,g0⟩,by rw [e]; (iterate 4 refine And.intro rfl ?_); trivial⟩
   ·have zk:decide ((k:Int)=0)=false:=aS (by omega);rw [aS hk0,Bool.false_or] at e;refine wnY (zI6 @g0 @ix @ae @am @zm @zk) ?_;exact ⟨k + 1,by omega,⟨by omega,g0⟩,by rw [e]; (iterate 4 refine And.intro rfl ?_); trivial⟩
end Go.Proofs.YtekdaafnjdlenaaGreat
namespace Go.Proofs.YtekdaafnjdlenaaGreat
open Go Go.Abs
theorem xS {c:List Spx}:∀ k,(szS c k).1=(iL c k).2 - 1
 | 0=>rfl
 | k + 1=>by
  have:=xS (c:=c) k;unfold szS iL;dsimp only;split <;> omega
attribute [local irreducible] aA ag a8 aQ aK aL ar aN aU bd Go.Abs.Fn aP Go.Abs.Pure an aG Yl
theorem gX (c:List Spx) (hl:c.length ≤ 50) (hs:∀ s ∈ c,Shn s):pU 45 [b9 c] (.int .i64 (ay c)):=by
 refine pO Hz ?_;simp only [b45,aJ];have hcc:=xQ c (show _ ≤ _ by omega) hs;by_cases hc:ay c=0
 rotate_left
 ·have z0:decide (ay c ≠ 0)=true:=aX hc;refine wnY (zI3 @ak @ah @z0) ?_;exact .int _ _
 have hsm:=fun k=>tt c k hl hs;unfold c8 at hsm;rw [hc] at hcc ⊢;have z0:decide ((0:Int) ≠ 0)=false:=rfl;refine wnY (zI3 @ak @ah @z0) ?_;refine lpI (X:=Nat) (fun k=>[(1,.ptr 0 1 0),(4,.int .i64 ((k:Int) + 1))]) (fun k H nx=>k ≤ 8∧H 0=some [aD c]) (fun k=>8 - k) 0 ⟨bB _,rfl⟩ ?_;rintro k H nx ⟨h1,h2⟩;by_cases hk:k < 8
 ·have hk1:=hsm ((k:Int) + 1);rw [if_neg (fun q=>q hc),if_neg (by omega)] at hk1;generalize ft c ((k:Int) + 1).toNat=X at *;have z1:decide ((k:Int) + 1 ≤ 8)=true:=aX (by omega);refine wnY (zI5 @h2 @ak @ah @z0 @z1) ?_;exact ⟨k + 1,by omega,⟨by omega,h2⟩,ag0⟩
 ·obtain rfl:k=8:=by omega
  have z1:decide (((8:Nat):Int) + 1 ≤ 8)=false:=rfl;refine wnY @z1 ?_;exact .int _ _
theorem Af (c:List Spx) (d:Nat) (hc:ay c=0) (hl:c.length ≤ 50) (hd:d ≤ 20):pU 53 [b9 c,.int .i64 d] (ez (aZ c ((d:Int) + 1)).length (fy (aZ c ((d:Int) + 1)) (aZ c d))):=by
 refine pO H9 ?_;simp only [b53,aJ];obtain ⟨p1,p2,p3,p4⟩:=ce hc;have h8:∀ s ∈ c,s.length ≤ 8:=fun s h=>(cC (p2 s h)).2.1;have hX:=s7 c (d + 1) hl h8 (by omega);rw [show ((d + 1:Nat):Int)=(d:Int) + 1 by omega,← kI] at hX;have hXl:=eT (d:=(d:Int) + 1) hl hc;have hYl:=eT (d:=(d:Int)) hl hc;have hXs:=jp (d:=(d:Int) + 1) hc;have hYs:=jp (d:=(d:Int)) hc;rw [eF];by_cases hd0:d=0
 ·have eY:aZ c (d:Int)=[]:=by unfold aZ; rw [if_pos (by omega)]
  have z3:decide ((d:Int)=0)=true:=aX (by omega);rw [eY];generalize aZ c ((d:Int) + 1)=X at *;refine wnY (zI4 @ak @ah @ae @z3) ?_;exact kr (ai (.int _ _) (ai (.eslsl 1) ao))
 have z3:decide ((d:Int)=0)=false:=aS (by omega);have hY:=s7 c d hl h8 (by omega);have eY:=uB (c:=c) (k:=d);rw [if_neg hd0] at eY;rw [← eY] at hY
 have hb:=y9 (aZ c ((d:Int) + 1)) (aZ c d) (by omega) (by omega) (pH hXs) (pH hYs) fun i k hi hk=>by
  have m1:=aC hk;have m2:=aC hi;exact uk (uq hXs _ m1) (uq hYs _ m2) (n:=d) (by rw [(mU.1 m1).2.1]; omega) (by rw [(mU.1 m2).2.1]; omega) (by omega)
 rw [eF] at hb;generalize fy (aZ c ((d:Int) + 1)) (aZ c d)=M at *;generalize aZ c ((d:Int) + 1)=X at *;generalize aZ c (d:Int)=Y at *;have dM:Dat (.agg [.int .i64 X.length,bJ M]):=Dat.agg (DatL.cons .int (DatL.cons (ij _) DatL.nil));refine wnY (zI4 @ak @ah @ae @z3) ?_;exact dM _
theorem DW {R:List (List Int)} {c:Nat} (h:sq c R):tN R c=mi R c:=AK (qM h) (DH h)
theorem xO (c:List Spx) (d:Nat) (hc:ay c=0) (hl:c.length ≤ 50) (hd:d ≤ 20):pU 100 [b9 c,.int .i64 d] (.int .i64 (rkF c d)):=by
 refine pO F1 ?_;simp only [F5,aJ];have he:=Af c d hc hl hd;have hXl:=eT (d:=(d:Int) + 1) hl hc;have hYl:=eT (d:=(d:Int)) hl hc;have hM:=sI (X:=aZ c ((d:Int) + 1)) (Y:=aZ c d) (by omega) (by omega);have hr:=zS _ _ hM;rw [DW hM] at hr;have hq:rkF c d=(mi (fy (aZ c ((d:Int) + 1)) (aZ c d)) (aZ c ((d:Int) + 1)).length).length:=rfl;rw [hq];generalize fy (aZ c ((d:Int) + 1)) (aZ c d)=M at *;generalize (aZ c ((d:Int) + 1)).length=n at *;generalize mi M n=E at *;have d1:Dat (.agg [.int .i64 n,bJ M]):=gM n M;rw [eF] at he hr;rw [eF] at hr;refine wnY (zI3 @ak @ah @dQ) ?_;exact .int _ _
theorem rF (c:List Spx) (d:Nat) (hc:ay c=0) (hl:c.length ≤ 50) (hd:d ≤ 15):pU 47 [b9 c,.int .i64 d] (.int .i64 (btF c d)):=by
 refine pO Ic ?_;simp only [b47,aJ];obtain ⟨p1,p2,p3,p4⟩:=ce hc;have h8:∀ s ∈ c,s.length ≤ 8:=fun s h=>(cC (p2 s h)).2.1;have hX:=s7 c (d + 1) hl h8 (by omega);rw [show ((d + 1:Nat):Int)=(d:Int) + 1 by omega,← kI] at hX;have h1:=xO c d hc hl (by omega);have h2:=xO c (d + 1) hc hl (by omega);rw [show ((d + 1:Nat):Int)=(d:Int) + 1 by omega] at h2;have hXl:=eT (d:=(d:Int) + 1) hl hc;have l1:=lH (c:=c) (d:=d);have l2:=lH (c:=c) (d:=d + 1);have hYl:=eT (d:=((d + 1:Nat):Int) + 1) hl hc;unfold btF;generalize aZ c ((d:Int) + 1)=X at *;generalize aZ c (((d + 1:Nat):Int) + 1)=Y at *;generalize rkF c d=a at *;generalize rkF c (d + 1)=b at *;refine wkY (zI3 @ak @ah @ae) ?_;exact .int _ _
theorem Bf (c:List Spx) (m:Nat) (hc:ay c=0) (hl:c.length ≤ 50) (hm:eS c=m) (hm8:m ≤ 8):pU 14 [b9 c] (.tup [az (btL c m),.int .i64 0]):=by
 refine pO Gb ?_;simp only [b14,aJ];obtain ⟨p1,p2,p3,p4⟩:=ce hc;have hs:∀ s ∈ c,Shn s:=lP hc;have hli:=gX c hl hs;rw [hc] at hli;have hsz:=D4 c (show _ ≤ _ by omega) hs;rw [xS,show (iL c c.length).2=(m:Int) from hm] at hsz;have hnu:=fun d hd=>rF c d hc hl hd;have hbd:=AB (m:=m) hc hl;generalize (szS c c.length).2=bb at *;have z0:decide ((0:Int) ≠ 0)=false:=rfl;refine wnY (zI3 @ak @ah @z0) ?_;refine lpI (X:=AV × Nat) (fun x=>[(1,.ptr 0 1 0),(5,.int .i64 ((m:Int) - 1)),(7,x.1),(8,.int .i64 x.2)]) (fun x H nx=>x.2 ≤ m∧H 0=some [aD c]∧1 ≤ nx∧Row H 1 x.1 ((btL c x.2).map (AV.int .i64))∧∀ b,bS x.1=some b→1 ≤ b∧b < nx) (fun x=>m - x.2) (.esl,0) ⟨bB _,rfl,aR _,Row.nil,fun b hb=>(by cases hb)⟩ ?_;rintro ⟨sv,k⟩ H nx ⟨h1,h2,h3,h4,h5⟩;dsimp only at h1 h2 h3 h4 h5 ⊢;by_cases hk:k < m
 rotate_left
 ·obtain rfl:k=m:=by omega
  have z1:decide ((k:Int) ≤ (k:Int) - 1)=false:=aS (by omega);refine wnY @z1 ?_;exact bD (ai h4.snapI (ai (.int _ _) ao))
 have z1:decide ((k:Int) ≤ (m:Int) - 1)=true:=aX (by omega);have hnk:=hnu k (by omega);have hsn:=qK (c:=c) (n:=k);have hbl:=tc (c:=c) (m:=k);generalize btF c k=v at *;refine wnY (zI4 @h2 @z1 @ak @ah) ?_;refine eR (h4.same fun b hb=>?_) ?_
 ·have:=h5 b hb;rw [ab (by omega)]
 rintro s2 H2 nx2 hr3 i1 i2 i3 i4;have l0:H2 0=H 0:=(i3 0 (by omega) (fun e=>by have:=h5 0 e; omega)).trans (by rw [ab (by omega)]);refine wnY and_self ?_;refine ⟨(s2,k + 1),by dsimp only; omega,⟨by dsimp only; omega,l0.trans h2,by omega,?_,fun b hb=>?_⟩,ag0⟩
 ·dsimp only;rw [hsn,db]; exact hr3
 ·rcases i4 b hb with h | h
  ·have:=h5 b h; omega
  ·omega
theorem An (c:List Spx) (hc:ay c ≠ 0) (hl:c.length ≤ 50) (hs:∀ s ∈ c,Shn s):pU 37 [b9 c] (.tup [.int .i64 0,.int .i64 (ay c)]):=by
 refine pO FD ?_;simp only [b37,aJ];have hcc:=kf c (show _ ≤ _ by omega) hs;generalize ay c=e at *;have z0:decide (e ≠ (0:Int))=true:=aX hc;refine wnY (zI3 @z0 @ak @ah) ?_;exact bD (ai (.int _ _) (ai (.int _ _) ao))
theorem pW (c:List Spx) (hl:c.length ≤ 50) (hs:∀ s ∈ c,Shn s):pU 43 [b9 c] (.int .i64 (ay c)):=by
 by_cases hc:ay c=0
 ·rw [hc]; exact qz c hc hl
 refine pO DS ?_;simp only [b43,aJ];have he:=An c hc hl hs;refine wnY (aI @ak @ah) ?_;exact .int _ _
end Go.Proofs.YtekdaafnjdlenaaGreat
namespace Go.Proofs.YtekdaafnjdlenaaGreat
open Go Go.Abs
open Nat (reduceEqDiff reduceAdd reduceLeDiff)
attribute [local irreducible] aA ag a8 aQ aK aL ar aN aU bd Go.Abs.Fn aP Go.Abs.Pure an aG Yl
def C8 (c:List Spx) (k:Int):Bool:=decide (c ≠ []) && (decide (k < 0) || decide (btF c 0=1)) && (List.range k.toNat).all fun d=>decide (btF c (d + 1)=0)
theorem th (c:List Spx) (k:Int) (hc:ay c=0) (hl:c.length ≤ 50) (hk:-1 ≤ k∧k < 8):pU 16 [b9 c,.int .i64 k] (.tup [.bool (C8 c k),.int .i64 0]):=by
 refine pO FN ?_;simp only [b16,aJ];have hli:=gX c hl (lP hc);rw [hc] at hli;have hnu:=fun d hd=>rF c d hc hl hd;have z0:decide ((0:Int) ≠ 0)=false:=rfl;have z1:decide (k < (-1:Int))=false:=aS (by omega);have z2:decide ((8:Int) ≤ k)=false:=aS (by omega);have fin:∀ {H:Hp} {b:Bool},Snap H (.tup [.bool b,.int .i64 0]) (.tup [.bool b,.int .i64 0]):=bD (ai (.bool _) (ai (.int _ _) ao));unfold C8;by_cases h1:c=[]
 ·have z3:decide ((c.length:Int)=0)=true:=by rw [h1]; rfl
  rw [aS (fun q=>q h1),Bool.false_and,Bool.false_and];refine wnY (zI7 @z0 @z1 @z2 @z3 @ak @ah @ae) ?_;exact fin
 have z3:decide ((c.length:Int)=0)=false:=aS (by have:=zd.2 h1; omega);rw [aX h1,Bool.true_and];have hn0:=hnu 0 (by omega);have main:∀ (T:Tm) (H:Hp) (nx:Nat),True:=fun _ _ _=>trivial;by_cases h2:k < 0
 ·obtain rfl:k=-1:=by omega
  have z4:decide ((0:Int) ≤ -1)=false:=rfl;have z5:decide ((1:Int) ≤ -1)=false:=rfl;rw [aX h2,Bool.true_or,Bool.true_and];refine wnY (zI8 @z0 @z1 @z2 @z3 @z4 @ak @ah @ae) ?_;refine lpI (X:=Nat) (fun _=>[(1,.int .i64 (-1)),(7,.int .i64 1)]) (fun _ H nx=>True) (fun k=>k) 0 trivial ?_;rintro j H nx -;refine wnY @z5 ?_;exact fin
 obtain ⟨n,rfl⟩:∃ n:Nat,k=n:=⟨k.toNat,by omega⟩
 have z4:decide ((0:Int) ≤ (n:Int))=true:=aX (by omega);rw [aS h2,Bool.false_or,cm];by_cases h3:btF c 0=1
 rotate_left
 ·have z5:decide (btF c 0 ≠ 1)=true:=aX h3;rw [aS h3,Bool.false_and];generalize btF c 0=b0 at *;refine wnY (zI9 @z0 @z1 @z2 @z3 @z4 @z5 @ak @ah @ae) ?_;exact fin
 have z5:decide (btF c 0 ≠ 1)=false:=aS (fun q=>q h3);rw [aX h3,Bool.true_and];generalize btF c 0=b0 at *;refine wnY (zI9 @z0 @z1 @z2 @z3 @z4 @z5 @ak @ah @ae) ?_;refine lpI (X:=Nat) (fun j=>[(1,.int .i64 n),(2,.ptr 0 1 0),(7,.int .i64 ((j:Int) + 1))]) (fun j H nx=>j ≤ n∧H 0=some [aD c]∧∀ i,i < j→btF c (i + 1)=0) (fun j=>n - j) 0 ⟨bB _,rfl,fun i h=>absurd h (by omega)⟩ ?_;rintro j H nx ⟨j1,g0,j2⟩;by_cases hj:j < n
 rotate_left
 ·obtain rfl:j=n:=by omega
  have z6:decide ((j:Int) + 1 ≤ (j:Int))=false:=aS (by omega);rw [qu fun i hi=>aX (j2 i hi)];refine wnY @z6 ?_;exact fin
 have z6:decide ((j:Int) + 1 ≤ (n:Int))=true:=aX (by omega);have hnj:=hnu (j + 1) (by omega);rw [show ((j + 1:Nat):Int)=(j:Int) + 1 by omega] at hnj;by_cases h6:btF c (j + 1)=0
 ·have z7:decide (btF c (j + 1) ≠ 0)=false:=aS (fun q=>q h6)
  have j3:∀ i,i < j + 1→btF c (i + 1)=0:=fun i hi=>by
   rcases (by omega:i < j ∨ i=j) with h | rfl
   ·exact j2 i h
   ·exact h6
  refine wnY (zI5 @z6 @z7 @g0 @ak @ah) ?_;exact ⟨j + 1,by omega,⟨by omega,g0,j3⟩,ag0⟩
 ·have z7:decide (btF c (j + 1) ≠ 0)=true:=aX h6;rw [oL hj (aS h6)];refine wnY (zI5 @z6 @z7 @g0 @ak @ah) ?_;exact fin
end Go.Proofs.YtekdaafnjdlenaaGreat
namespace Go.Proofs.YtekdaafnjdlenaaGreat
open Go Go.Abs
open Nat (reduceEqDiff reduceAdd reduceLeDiff)
attribute [local irreducible] aA ag a8 aQ aK aL ar aN aU bd Go.Abs.Fn aP Go.Abs.Pure an aG Yl
end Go.Proofs.YtekdaafnjdlenaaGreat
namespace Go.Proofs.YtekdaafnjdlenaaGreat
open Go Go.Abs
attribute [local irreducible] aA ag a8 aQ aK aL ar aN aU bd Go.Abs.Fn aP Go.Abs.Pure an aG Yl
end Go.Proofs.YtekdaafnjdlenaaGreat
namespace Go.Proofs.YtekdaafnjdlenaaGreat
open Go Go.Abs
theorem jg.lenS {H:Hp} {s:AV} {l:List (List Int)} (h:jg H s l):c6 s=some (.int .i64 l.length):=by
 rcases h with rfl | h
 ·exact dQ
 ·exact h.lenS (by rw [bF,Nat.mul_one]) mV
def yj (c:List Spx) (d:Nat) (l:List (List Int)):Bool:=decide (rk (bdM c d ++ l) (bdN c d)=rk (bdM c d) (bdN c d) + l.length)
attribute [local irreducible] aA ag a8 aQ aK aL ar aN aU bd Go.Abs.Fn aP Go.Abs.Pure an aG Yl
end Go.Proofs.YtekdaafnjdlenaaGreat
namespace Go.Proofs.YtekdaafnjdlenaaGreat
open Go Go.Abs
open Nat (reduceEqDiff reduceAdd reduceLeDiff)
attribute [local irreducible] aA ag a8 aQ aK aL ar aN aU bd Go.Abs.Fn aP Go.Abs.Pure an aG Yl
theorem Aj (c:List Spx) (hc:ay c ≠ 0) (hl:c.length ≤ 50) (hs:∀ s ∈ c,Shn s):pU 13 [b9 c] (.tup [az [],.int .i64 (ay c)]):=by
 refine pO FO ?_;simp only [b13,aJ];have h:=pW c hl hs;have z:decide (ay c ≠ (0:Int))=true:=aX hc;refine wnY (zI3 @z @ak @ah) ?_;exact sy (.eslsl 1) rfl
theorem zT (c:List Spx) (hc:ay c ≠ 0) (hl:c.length ≤ 50) (hs:∀ s ∈ c,Shn s):pU 14 [b9 c] (.tup [az [],.int .i64 (ay c)]):=by
 refine pO Gb ?_;simp only [b14,aJ];have h:=gX c hl hs;have z:decide (ay c ≠ (0:Int))=true:=aX hc;refine wnY (zI3 @z @ak @ah) ?_;exact sy (.eslsl 1) rfl
def dE (c:List Spx) (lo:Int) (d:Int):Int:=if ay c ≠ 0 then ay c else if d < lo ∨ 8 ≤ d then 2 else 0
theorem HP {c:List Spx} {lo d:Int} (h:dE c lo d=0):ay c=0∧lo ≤ d∧d < 8:=by
 unfold dE at h;split at h
 ·rename_i q; exact absurd h q
 ·rename_i q;split at h
  ·exact absurd h (by decide)
  ·exact ⟨by simpa using q,by omega,by omega⟩
theorem sV (c:List Spx) (k:Int) (he:dE c (-1) k ≠ 0) (hl:c.length ≤ 50) (hs:∀ s ∈ c,Shn s):pU 15 [b9 c,.int .i64 k] (.tup [.bool false,.int .i64 (dE c (-1) k)]):=by
 refine pO FM ?_;simp only [b15,aJ];have h:=pW c hl hs;unfold dE at *;by_cases hc:ay c=0
 ·have z:decide (ay c ≠ (0:Int))=false:=aS (fun q=>q hc);rw [if_neg (fun q=>q hc)] at he ⊢;have hd:k < -1 ∨ 8 ≤ k:=Classical.byContradiction fun q=>he (if_neg q);rw [if_pos hd];have zz:=aI @z (aI @ak @ah); repeat' (first|refine zW ?_|apply a_n|apply a_r|refine zO ?_|refine vY ?_|refine cY ?_ (hp:=h) (hs:=by (first | refine aH ?_ rfl | apply aW); (repeat' (first | exact ao | apply br | apply aY | exact eO _)); first | done | fail)|refine bxY ?_|refine gTY ?_|refine gFY ?_|refine cTY ?_|refine cFY ?_|(refine zGY ?_ ?_ <;> (intro _hg; try (exfalso; omega)))|refine b4 rfl ?_|refine r2Y ?_|fail)
  all_goals first | exact bD (ai (.bool _) (ai (.int _ _) ao)) | (exfalso; omega)
 ·have z:decide (ay c ≠ (0:Int))=true:=aX hc;rw [if_pos hc];refine wnY (zI3 @z @ak @ah) ?_;exact bD (ai (.bool _) (ai (.int _ _) ao))
theorem qZ (c:List Spx) (k:Int) (he:dE c (-1) k ≠ 0) (hl:c.length ≤ 50) (hs:∀ s ∈ c,Shn s):pU 16 [b9 c,.int .i64 k] (.tup [.bool false,.int .i64 (dE c (-1) k)]):=by
 refine pO FN ?_;simp only [b16,aJ];have h:=gX c hl hs;unfold dE at *;by_cases hc:ay c=0
 ·have z:decide (ay c ≠ (0:Int))=false:=aS (fun q=>q hc);rw [if_neg (fun q=>q hc)] at he ⊢;have hd:k < -1 ∨ 8 ≤ k:=Classical.byContradiction fun q=>he (if_neg q);rw [if_pos hd];have zz:=aI @z (aI @ak @ah); repeat' (first|refine zW ?_|apply a_n|apply a_r|refine zO ?_|refine vY ?_|refine cY ?_ (hp:=h) (hs:=by (first | refine aH ?_ rfl | apply aW); (repeat' (first | exact ao | apply br | apply aY | exact eO _)); first | done | fail)|refine bxY ?_|refine gTY ?_|refine gFY ?_|refine cTY ?_|refine cFY ?_|(refine zGY ?_ ?_ <;> (intro _hg; try (exfalso; omega)))|refine b4 rfl ?_|refine r2Y ?_|fail)
  all_goals first | exact bD (ai (.bool _) (ai (.int _ _) ao)) | (exfalso; omega)
 ·have z:decide (ay c ≠ (0:Int))=true:=aX hc;rw [if_pos hc];refine wnY (zI3 @z @ak @ah) ?_;exact bD (ai (.bool _) (ai (.int _ _) ao))
def qe (c:List Spx) (l:List (List Spx)):Bool:=l.all qW && (iY c && decide (nf c c.length ≤ 400))
theorem CS (c:List Spx) (l:List (List Spx)) (hc:Shn c) (hs:∀ s ∈ c,Shn s) (hl:Shn l) (ha:∀ a ∈ l,ShC a):pU 11 [b9 c,jn l] (.bool (qe c l)):=by
 refine pO HN ?_;simp only [b11,aJ];have hc':c.length ≤ 17592186044416:=hc;have hl':l.length ≤ 17592186044416:=hl;have f1:=Ca c hc hs;unfold qe;refine wnY (zI3 @ak @ah @qT) ?_;refine lpI (X:=Nat) (fun k=>[(2,.ptr 0 1 0),(10,jn l),(11,.int .i64 l.length),(12,.int .i64 k)]) (fun k H nx=>k ≤ l.length∧H 0=some [aD c]∧∀ i,i < k→qW (l.getD i default)=true) (fun k=>l.length - k) 0 ⟨bB _,rfl,fun i h=>absurd h (by omega)⟩ ?_;rintro k H nx ⟨k1,g0,k2⟩;by_cases hk:k < l.length
 ·have ix:=HK hk;have hf:=DC (l.getD k default) (ha _ (aC hk));cases hv:qW (l.getD k default)
  ·rw [iu hk hv,Bool.false_and];rw [hv] at hf;generalize l.getD k default=a at *;refine wnY @ix ?_;exact .bool _
  ·rw [hv] at hf
   have k3:∀ i,i < k + 1→qW (l.getD i default)=true:=fun i hi=>by
    rcases (by omega:i < k ∨ i=k) with h | rfl
    ·exact k2 i h
    ·exact hv
   generalize l.getD k default=a at *;refine wnY @ix ?_;exact ⟨k + 1,by omega,⟨by omega,g0,k3⟩,ag0⟩
 obtain rfl:k=l.length:=by omega
 rw [jN k2,Bool.true_and];refine wnY (aI @g0 @ae) ?_;clear k2 k1 hk;refine lpI (X:=Nat) (fun k=>[(2,.ptr 0 1 0),(7,.int .i64 (nf c k)),(21,aD c),(22,.int .i64 c.length),(23,.int .i64 k)]) (fun k H nx=>k ≤ c.length∧H 0=some [aD c]) (fun k=>c.length - k) 0 ⟨bB _,g0⟩ ?_;clear g0;rintro k H nx ⟨g1,g2⟩;have hb:=sx (c:=c) k;by_cases hk:k < c.length
 ·have ix:=eI hk;have hsl:(c.getD k default).length ≤ 17592186044416:=hs _ (aC hk);have hb2:=sx (c:=c) (k + 1);have hfs:nf c (k + 1)=nf c k + 2 ^ min (c.getD k default).length 10:=rfl
  have hsh:∀ tb tf,bc .shl tb tf (.int .i64 1) (.int .i64 (min ((c.getD k default).length:Int) 10))=some (.int .i64 ((2 ^ min (c.getD k default).length 10:Nat):Int)):=fun tb tf=>by
   have h1:min ((c.getD k default).length:Int) 10=((min (c.getD k default).length 10:Nat):Int):=by omega
   have h2:2 ^ min (c.getD k default).length 10 ≤ 2 ^ 10:=Nat.pow_le_pow_right (by omega) (by omega);rw [h1];have:=xY (k:=.i64) (k':=.i64) (a:=1) (b:=min (c.getD k default).length 10) (tb:=tb) (tf:=tf) (by show _ ≤ 64; omega) (by show 1 * _ < 2 ^ 63; omega);rw [Nat.one_mul] at this;exact this
  rw [hfs] at hb2;generalize 2 ^ min (c.getD k default).length 10=P at *;generalize c.getD k default=s at *;have hce:((nf c (k + 1):Nat):Int)=(nf c k:Int) + (P:Int):=by rw [hfs]; omega
  refine wnY (zI3 @ix @am @hsh) ?_;exact ⟨k + 1,by omega,⟨by omega,g2⟩,by rw [hce]; simp (disch:=omega) only [agr,ZG,reduceEqDiff,↓reduceIte]⟩
 obtain rfl:k=c.length:=by omega
 cases e1:iY c
 ·rw [e1] at f1;rw [Bool.false_and];refine wnY (zI3 @g2 @ak @ah) ?_;exact .bool _
 rw [e1] at f1;rw [Bool.true_and];by_cases h3:nf c c.length ≤ 400
 ·have z:decide ((nf c c.length:Int) ≤ 400)=true:=aX (by omega);rw [aX h3];refine wnY (zI4 @g2 @z @ak @ah) ?_;exact .bool _
 ·have z:decide ((nf c c.length:Int) ≤ 400)=false:=aS (by omega);rw [aS h3];refine wnY (zI4 @g2 @z @ak @ah) ?_;exact .bool _
theorem y5 {c:List Spx} {l:List (List Spx)} (h:qe c l=true):(∀ a ∈ l,qW a=true)∧c.length ≤ 30∧nf c c.length ≤ 400:=by
 unfold qe at h;simp only [cT,eZ] at h;exact ⟨fun a ha=>du.1 h.1 a ha,(wC.1 h.2.1).1,h.2.2⟩
end Go.Proofs.YtekdaafnjdlenaaGreat
namespace Go.Proofs.YtekdaafnjdlenaaGreat
open Go Go.Abs
theorem CX {c:List Spx} {m d:Nat} (hm:eS c=m) (hd:m ≤ d):btF c d=0:=by
 unfold btF;rw [x7 hm hd,x7 hm (by omega),kI,ub hm (by omega)];rfl
theorem Er {c:List Spx} {m:Nat} (hc:ay c=0) (hm:eS c=m):m=0 ↔ c=[]:=by
 constructor
 ·intro h;refine Classical.byContradiction fun h0=>?_;have hp:=zd.2 h0;have h1:=tE (c:=c) (aR _) 0 hp;have h2:=(cC ((ce hc).2.1 _ (aC hp))).1;unfold eS at hm;omega
 ·intro h;subst h;have:eS []=0:=rfl;omega
theorem B9 {c:List Spx} {m:Nat}:btL c (m + 1)=btF c 0 :: (List.range m).map fun d=>btF c (d + 1):=by
 unfold btL;rw [List.range_succ_eq_map,fk,List.map_map];rfl
theorem Eb {c:List Spx} {m:Nat} {k:Int} (hc:ay c=0) (hm:eS c=m) (hk:-1 ≤ k):C7 (btL c m) k=C8 c k:=by
 have h0:=Er hc hm;unfold C8;cases m with
 | zero =>
  rw [aS (show ¬ (c ≠ []) from fun q=>q (h0.1 rfl))];rfl
 | succ m =>
  rw [aX (show c ≠ [] from fun q=>by have:=h0.2 q; omega),Bool.true_and,B9];unfold C7;rw [Bool.eq_iff_iff];simp only [bF,List.length_range,Bool.not_eq_true',cT,iG,eZ,du,dB,List.any_eq_false,List.mem_iff_getElem];by_cases hn:k < 0
  ·obtain rfl:k=-1:=by omega
   constructor
   ·intro _
    exact ⟨.inl hn,fun d hd=>by
     obtain ⟨i,hi,-⟩:=hd;simp at hi⟩
   ·rintro - x ⟨i,hi,-⟩;simp at hi;omega
  ·obtain ⟨n,rfl⟩:∃ n:Nat,k=n:=⟨k.toNat,by omega⟩
   have hr:∀ d:Nat,(∃ i,∃ h:i < ((n:Nat):Int).toNat,(List.range ((n:Nat):Int).toNat)[i]'(by rw [List.length_range]; exact h)=d) ↔ d < n:=fun d=>by
    simp only [List.getElem_range,cm];exact ⟨fun ⟨i,h,e⟩=>e ▸ h,fun h=>⟨d,h,rfl⟩⟩
   obtain ⟨N,e,hN1,hN2,hN3⟩:∃ N:Nat,(min ((n:Int) + 1) ((m + 1:Nat):Int)).toNat=N + 1∧N ≤ n∧N ≤ m∧(N=n ∨ N=m):=⟨min n m,by omega,by omega,by omega,by omega⟩
   rw [e,List.take_succ_cons,← List.map_take,List.take_range,Nat.min_eq_left hN2];constructor
   ·intro h;refine ⟨.inr ?_,fun d hd=>?_⟩
    ·have:=h (btF c 0 - 1) ⟨0,by simp,rfl⟩;omega
    ·have hd2:d < n:=(hr d).1 hd;by_cases hdm:d < m
     ·have hdN:d < N:=by
        rcases hN3 with rfl | rfl
        ·exact hd2
        ·exact hdm
      have:=h (btF c (d + 1)) ⟨d + 1,by simp only [dh,bF,List.length_range]; exact Nat.succ_lt_succ hdN,by simp⟩;omega
     ·exact CX hm (by omega)
   ·rintro ⟨h1,h2⟩ x ⟨i,hi,rfl⟩;cases i with
    | zero =>
     rw [List.getElem_cons_zero];rcases h1 with h1 | h1
     ·omega
     ·omega
    | succ i =>
     simp only [dh,bF,List.length_range] at hi;simp only [List.getElem_cons_succ,List.getElem_map,List.getElem_range];have hiN:i < N:=Nat.lt_of_succ_lt_succ hi;have:=h2 i ((hr i).2 (uE hiN hN1));exact fun q=>q this
theorem wI (c:List Spx) (hl:c.length ≤ 50) (hs:∀ s ∈ c,Shn s):∃ L e,L.length ≤ 1000∧pU 13 [b9 c] (.tup [az L,.int .i64 e])∧pU 14 [b9 c] (.tup [az L,.int .i64 e]):=by
 by_cases hc:ay c=0
 ·obtain ⟨m,hm,hm8⟩:=um hc;exact ⟨_,_,by rw [tc]; omega,B1 c m hc hl hm hm8,Bf c m hc hl hm hm8⟩
 ·exact ⟨_,_,bB _,Aj c hc hl hs,zT c hc hl hs⟩
theorem AG (c:List Spx) (k:Int) (hl:c.length ≤ 50) (hs:∀ s ∈ c,Shn s):∃ b e,pU 15 [b9 c,.int .i64 k] (.tup [.bool b,.int .i64 e])∧pU 16 [b9 c,.int .i64 k] (.tup [.bool b,.int .i64 e]):=by
 by_cases he:dE c (-1) k=0
 ·obtain ⟨hc,h1,h2⟩:=HP he;obtain ⟨m,hm,hm8⟩:=um hc;have a:=sK c m k hc hl hm hm8 ⟨h1,h2⟩;rw [Eb hc hm h1] at a;exact ⟨_,_,a,th c k hc hl ⟨h1,h2⟩⟩
 ·exact ⟨_,_,sV c k he hl hs,qZ c k he hl hs⟩
attribute [local irreducible] aA ag a8 aQ aK aL ar aN aU bd Go.Abs.Fn aP Go.Abs.Pure an aG Yl
set_option maxHeartbeats 1000000 in
theorem xq (c:List Spx) (k:Int) (hc:Shn c∧∀ s ∈ c,Shn s):pU 3 [b9 c,.int .i64 k] (.bool true):=by
 refine pO is3 ?_;simp only [b3,aJ];have f1:=CS c [] hc.1 hc.2 (bB _) (fun a h=>(by cases h));refine wnY (aI @ak @ah) ?_;refine fK ev0 ev0 f1 (aH (ai (eO _).snap (ai (.eslsl 1) ao)) rfl) ?_;cases e1:qe c []
 ·refine wnY and_self ?_;exact .bool _
 obtain ⟨-,l1,l2⟩:=y5 e1;obtain ⟨L,e,hL,s1,s2⟩:=wI c (by omega) hc.2;obtain ⟨b,f,s3,s4⟩:=AG c k (by omega) hc.2;have s5:=BO L L (by omega) (by omega);rw [aX rfl] at s5;have z1:decide (e=e)=true:=aX rfl;have z2:decide (f=f)=true:=aX rfl;have z3:bc .eql true false (.bool b) (.bool b)=some (.bool true):=by cases b <;> rfl
 refine wnY (zI5 @ak @ah @z1 @z2 @z3) ?_;exact .bool _
end Go.Proofs.YtekdaafnjdlenaaGreat
namespace Go.Proofs.YtekdaafnjdlenaaGreat
open Go Go.Abs Go.RowKit
section
variable {H:Type} {enc:TypeId × Value→H} {W:World}
theorem oi:d8 enc Tryz.prog W 3 (AV.int .i64) (fun n=>(Lit.int .i64 n).wf=true):=zL Tryz.underlying3
set_option maxRecDepth 100000 in
theorem HD:d8 enc Tryz.prog W 69 cL (fun _=>True) :=
 (lU Tryz.underlying69 (by kernel_rfl) (kj (off:=0) (off':=1) rfl (by kernel_rfl) oi (kj (off:=1) (off':=2) rfl (by kernel_rfl) oi qP))).map
  (fun a=>(⟨a.1,a.2.1⟩:Vtx)) (fun _ _=>trivial) (fun _ _=>rfl)
theorem oXs:d8 enc Tryz.prog W 70 aB Shn :=
 (od Tryz.underlying70 (sz:=2) (by_:=16) (by kernel_rfl) (by kernel_rfl) (by omega) (fun _=>rfl) HD).mono fun l h=>by have:=h.2.2; show _ ≤ _; omega
theorem HF:d8 enc Tryz.prog W 22 aD (fun l=>Shn l∧∀ x ∈ l,Shn x) :=
 (od Tryz.underlying22 (sz:=1) (by_:=24) (by kernel_rfl) (by kernel_rfl) mV (fun _=>rfl) oXs).mono fun l h=>⟨by have:=h.2.2; show _ ≤ _; omega,h.1⟩
set_option maxRecDepth 100000 in
theorem oCx:d8 enc Tryz.prog W 24 b9 (fun l=>Shn l∧∀ x ∈ l,Shn x) :=
 (lU Tryz.underlying24 (by kernel_rfl) (kj (off:=0) (off':=1) rfl (by kernel_rfl) HF qP)).map
  (fun a=>a.1) (by rintro ⟨n,u⟩ ⟨h1,_⟩; exact h1) (fun _ _=>rfl)
end
theorem pb {f:FuncId} {xs:List AV} {vs:List Value} (h:pU f xs (.bool true)) (w:World) (hv:cP (E0 (re w)) w xs vs) :
    Calls Tryz.prog f vs.toArray w fun e w'=>e=.returned (.bool true)∧Below w.heap.size w w':=by
 refine (h.2 (re w) w vs (fun _ h=>h) hv).mono ?_;rintro e w' ⟨v,imm',rfl,hb,_,_,_,hr⟩;cases hr;exact ⟨rfl,hb⟩
theorem Hx:laidOutB Tryz.prog=true:=by kernel_rfl
end Go.Proofs.YtekdaafnjdlenaaGreat
namespace Go.Proofs.YtekdaafnjdlenaaGreat
open Go Go.Abs Go.RowKit Go.ChangeShapes Go.WideShapes Go.ChangeAt
theorem qV {H:Type} {enc:TypeId × Value→H} {P:Program} {f:Func} {s:ChangeSpec} {apart fresh handsOn again:Bool} {W W':World} {args:Array Value} {v:Value} {ds gs:List (DataW H)} {before pa pv:List MemPlace}
    (hW:DataW.Whole enc P f.params.toList s.vars apart W args.toList ds gs before)
    (hres:∀ (b:Nat) (sp:Nat→Bool) (hd:Bool),DataW.TrodAll enc P W' b sp hd f.resultTypes.toList (v.resultList f.resultTypes.size) (s.fn H (ds ++ gs)).results [])
    (hargs:∀ sp:Nat→Bool,(∀ p ∈ before,sp p.block=true)→DataW.TrodAll enc P W' 0 sp true f.params.toList args.toList (s.fn H (ds ++ gs)).args pa)
    (hvars:∀ sp:Nat→Bool,(∀ p ∈ before,sp p.block=true)→DataW.TrodVars enc P W' sp s.vars (s.fn H (ds ++ gs)).vars pv)
    (hps:before=pa ++ pv) (hb:Below W.heap.size W W')
    (hok:∀ (j:Nat) (t:TypeId) (r:Value),f.resultTypes[j]?=some t→(v.resultList f.resultTypes.size)[j]?=some r→Value.okWide P W' .any 0 t r) :
    s.post enc P f apart fresh handsOn again W args v W':=by
 have hold:∀ p ∈ before,(fun b=>decide (b < W.heap.size)) p.block=true:=fun p hp=>by simpa using hW.lt p hp
 have hlt:=fun p hp=>hW.lt p hp;refine ⟨ds,gs,before,[],pa,pv,hW,hres _ _ _,hargs _ hold,hvars _ hold,World.keptBut_mono (fun p hp=>⟨hp,?_⟩) (hb.frame _),fun _=>?_⟩
 ·rw [hps,eX] at hp;exact Or.inr hp
 ·obtain ⟨_,_,_,_,_,hz,hn⟩:=hW;refine ⟨hok,_,_,([] ++ pa) ++ pv,⟨[] ++ pa,pv,trodAll_append (hargs _ (fun _ _=>rfl)) (hres _ _ _),hvars _ (fun _ _=>rfl),rfl,?_,?_⟩,?_⟩
  ·intro b off hp;have hp':MemPlace.cell b off ∈ before:=by rw [hps]; simpa using hp
   rw [hb.frozen (hlt _ hp')];exact hz b off hp'
  ·intro ha;have:=hn ha;rw [hps] at this;simpa using this
  ·intro p hp _;rw [hps];simpa using hp
theorem Am {E:Env} {w:World}:cP E w [] []:=⟨rfl,fun i x y h=>(by cases h)⟩
theorem rW {E:Env} {w:World} {x:AV} {y:Value} {xs:List AV} {ys:List Value} (h:Rel E w x y) (hs:cP E w xs ys):cP E w (x :: xs) (y :: ys):=by
 refine ⟨by simp [hs.1],fun i a b ha hb=>?_⟩;cases i with
 | zero=>simp at ha hb; subst ha hb; exact h
 | succ i=>simp at ha hb; exact hs.2 i a b ha hb
theorem own:ownKnob Tryz.prog.godebug=none:=by kernel_rfl
end Go.Proofs.YtekdaafnjdlenaaGreat