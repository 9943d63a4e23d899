/- Texts of this claim, one after the other: T174, T175, T176, T177, T179, T143, T178, T180, T181, A33, T122, T133, T144, T147, T148, T182, T183, T118, T184, T121. -/
import Derived.Test.YtfcenbapjhecfaaXG5
import Derived.Test.YtfcenbapjhecfaaXG4
import Derived.Test.YtfcenbapjhecfaaXG3
import Derived.Test.YtfcenbapjhecfaaRows
import Derived.WalkKit
import Derived.ProofKit
import Derived.OpenShut

set_option linter.unusedSimpArgs false
set_option linter.unusedVariables false
namespace Go.Proofs.Ytfcenbapjhecfaa
open Go Go.Abs
open Nat (reduceEqDiff reduceAdd reduceLeDiff)
theorem yk {P:Program} {T:Tm} {H:Hp} {nx:Nat} {dm:DM} {K:SP} {l:List Op2} {d:Option Nat} {sz bytes b N len n:Nat} {s x:Opd} {v:AV} {new C:List AV} (hd:dm2 dm T (.app sz bytes s x)=true) (hs:ov T s=.msl b N sz 0 len) (hb:H b=some C) (hN:C.length=N) (hx:ov T x=v) (hsrc:dr sz H v=some (n,new)) (ho:AV.ones new=true) (hnl:new.length=n * sz) (hz:0 < sz) (h0:0 < N) (hle:(len + n) * sz ≤ N) (h1:(len + n) * bytes ≤ 140737488355328) (h2:len + n ≤ 9223372036854775807)
    (next:∀ C':List AV,C'.length=N→C'.take ((len + n) * sz)=C.take (len * sz) ++ new→aj P dm l (aC T d (.msl b N sz 0 (len + n))) (ar H b C') nx K) :
    aj P dm (⟨d,none,.app sz bytes s x⟩ :: l) T H nx K:=by
 by_cases e:N=len * sz
 ·have hn:n=0:=by
    rcases Nat.eq_zero_or_pos n with h | h
    ·exact h
    ·have:len * sz + 1 * 1 ≤ len * sz + n * sz:=Nat.add_le_add_left (Nat.mul_le_mul h hz) _
     rw [Nat.add_mul] at hle; omega
  subst hn
  obtain rfl:new=[]:=List.eq_nil_of_length_eq_zero (by rw [hnl,Nat.zero_mul])
  refine xM hd hs hb hx hsrc ho hN e h1 h2 ?_
  rw [Nat.add_zero] at next ⊢
  rw [← e]
  exact next _ (by rw [List.append_nil]; exact hN) (by rw [List.append_nil,List.append_nil])
 ·refine vG hd hs hb hx hsrc ho hN (fun _=>e) h0 (by rw [Nat.zero_add]; exact hle) ?_
  have hlen:len * sz + new.length ≤ N:=by rw [hnl,← Nat.add_mul]; exact hle
  refine next _ ?_ ?_
  ·rw [e5 (by rw [hN]; omega)]; exact hN
  ·simp only [bl,Nat.zero_add]
   rw [List.take_append_of_le_length (by rw [List.length_append,List.length_take,hN,hnl,Nat.add_mul]; omega),List.take_of_length_le (by rw [List.length_append,List.length_take,hN,hnl,Nat.add_mul]; omega)]
attribute [local irreducible] aD aj aX aP aG aL az aM aR bd Go.Abs.Fn aO Go.Abs.Pure aw aF Yl
theorem uk (c:List Spx) (hpos:0 < c.flatten.length) (hl:c.flatten.length ≤ 1000000) (hc:c.length ≤ 1000000) (H:Hp) (nx:Nat) :
    Abs.Fn Try.prog 79 [aq c] H nx fun r H' nx'=>r=.msl nx (c.flatten.length * 2) 2 0 c.flatten.length∧H'=ar H nx (cX c.flatten)∧nx'=nx + 1:=by
 refine Abs.Fn.of_c2 follows As (Nat.le_of_ble_eq_true rfl) ?_
 simp only [b79,cO,cG,cN,cM,cD,cF,cB,aB,aQ]
 have hle:∀ k,(c.take k).flatten.length ≤ c.flatten.length:=fun k=>by
  have:c.flatten=(c.take k).flatten ++ (c.drop k).flatten:=by rw [← List.flatten_append,List.take_append_drop]
  rw [this,List.length_append]; omega
 refine ed ?_
 (have zz:=and_self; repeat' (first|apply a_n|refine zO ?_|refine vY ?_|fail)) <;> (try clear zz)
 refine ed ?_
 (have zz:=and_self; repeat' (first|apply a_n|refine zO ?_|refine vY ?_|fail)) <;> (try clear zz)
 refine br (fun T H' nx'=>T 0=aq c∧T 3=.int .i64 (c.flatten.length:Nat)∧H=H'∧nx=nx') ?_ ?_
 ·(have zz:=@ac; repeat' (first|refine zW ?_|apply a_n|refine zO ?_|refine vY ?_|fail)) <;> (try clear zz)
  refine mM (X:=Nat) (fun k=>[(0,aq c),(3,.int .i64 ((c.take k).flatten.length:Nat)),(9,aq c),(10,.int .i64 c.length),(11,.int .i64 (k:Nat))]) (fun k=>k ≤ c.length) (fun k=>c.length - k) 0 (by omega) (by simp (disch:=omega) only [agr,ZG,reduceEqDiff,↓reduceIte,List.take_zero,List.flatten_nil,List.length_nil] <;> simp) ?_
  intro k hk
  by_cases hk2:k < c.length
  rotate_left
  ·rw [List.take_of_length_le (by omega)]
   (have zz:=and_self; repeat' (first|refine zW ?_|apply a_n|apply a_x|refine zO ?_|refine vY ?_|(refine zGY ?_ ?_ <;> (intro _hg; try (exfalso; omega)))|fail)) <;> (try clear zz)
   exact ⟨rfl,rfl,rfl,rfl⟩
  have ix:=cT hk2
  have hle2:=hle (k + 1)
  have e:(((c.take (k + 1)).flatten.length:Nat):Int)=((c.take k).flatten.length:Nat) + ((c.getD k default).length:Nat):=by rw [o9 hk2,List.length_append]; omega
  rw [o9 hk2,List.length_append] at hle2
  have z:decide ((((c.take k).flatten.length:Nat):Int) + ((c.getD k default).length:Nat) < 0)=false:=decide_eq_false (by omega)
  generalize c.getD k default=s at *
  (have zz:=aI @ix (aI @ap @z); repeat' (first|refine zW ?_|apply a_n|refine zO ?_|refine vY ?_|refine cFY ?_|(refine zGY ?_ ?_ <;> (intro _hg; try (exfalso; omega)))|fail)) <;> (try clear zz)
  exact ⟨k + 1,by omega,by omega,(have zz:=@e; agZ),rfl,rfl⟩
 rintro T _ _ ⟨t0,t3,rfl,rfl⟩
 (have zz:=@t3; repeat' (first|refine zW ?_|apply a_n|refine zO ?_|refine vY ?_|fail)) <;> (try clear zz)
 refine aU ev0 (have zz:=@t3; evY) (wr c.flatten.length (by omega) (by omega) H nx) ?_
 rintro _ _ _ ⟨rfl,rfl,rfl⟩
 (have zz:=aI @t0 @ac; repeat' (first|refine zW ?_|apply a_n|refine zO ?_|refine vY ?_|fail)) <;> (try clear zz)
 refine bb (X:=Nat) (fun k=>[(6,.msl nx (c.flatten.length * 2) 2 0 (c.take k).flatten.length),(25,aq c),(26,.int .i64 c.length),(27,.int .i64 (k:Nat))]) (fun k H' nx'=>k ≤ c.length∧(∃ C,H'=ar H nx C∧C.length=c.flatten.length * 2∧C.take ((c.take k).flatten.length * 2)=cX (c.take k).flatten)∧nx'=nx + 1) (fun k=>c.length - k) 0 ⟨by omega,⟨_,rfl,wC _,rfl⟩,rfl⟩ (by simp (disch:=omega) only [agr,ZG,reduceEqDiff,↓reduceIte,List.take_zero,List.flatten_nil,List.length_nil]) ?_
 rintro k _ _ ⟨hk,⟨C,rfl,h1,h2⟩,rfl⟩
 by_cases hk2:k < c.length
 rotate_left
 ·have ek:c.take k=c:=List.take_of_length_le (by omega)
  rw [ek] at h2 ⊢
  rw [List.take_of_length_le (by omega)] at h2
  subst h2
  (have zz:=and_self; repeat' (first|refine zW ?_|apply a_n|apply a_x|refine zO ?_|refine vY ?_|(refine zGY ?_ ?_ <;> (intro _hg; try (exfalso; omega)))|refine ak rfl ?_|refine r1Y ?_|fail)) <;> (try clear zz)
  exact ⟨rfl,rfl,rfl⟩
 have ix:=cT hk2
 have hle2:=hle (k + 1)
 have e:=o9 hk2
 rw [e,List.length_append] at hle2
 have hcl:=dP (c.getD k default)
 have hcp:=dP (c.take k).flatten
 generalize c.getD k default=s at *
 (have zz:=@ix; repeat' (first|refine zW ?_|apply a_n|refine zO ?_|refine vY ?_|(refine zGY ?_ ?_ <;> (intro _hg; try (exfalso; omega)))|fail)) <;> (try clear zz)
 refine yk (b:=nx) (N:=c.flatten.length * 2) (len:=(c.take k).flatten.length) (n:=s.length) (C:=C) rfl ev0 ah h1 ev0 nN (fH _) (by rw [hcl]) (by omega) (by omega) (by omega) (by omega) (by omega) fun C2 c1 c2=>?_
 (have zz:=and_self; repeat' (first|apply a_n|refine zO ?_|refine vY ?_|fail)) <;> (try clear zz)
 refine ⟨k + 1,by omega,⟨by omega,⟨_,aJ _ _ _ _,c1,?_⟩,rfl⟩,by simp (disch:=omega) only [agr,ZG,reduceEqDiff,↓reduceIte,e,List.length_append]⟩
 rw [e,gO,List.length_append,← h2]
 exact c2
theorem AZ {P:Program} {T:Tm} {H S:Hp} {nx n:Nat} {K:SP} {l:List (Op2 × Nat)} {d:Option Nat} {i:Ins} {t:Nat} {w:Bool} (h:T t=.bool w) (k:a5 P S ((⟨d,none,i⟩,n) :: l) T H nx K):a5 P S ((⟨d,some (t,w),i⟩,n) :: l) T H nx K:=by
 have e:g2 T (some (t,w))=some true:=by simp [g2,h]
 cases n with
 | zero=>show aM (g2 T (some (t,w))) _ _; rw [e]; exact k
 | succ n=>show aM (g2 T (some (t,w))) _ _; rw [e]; exact k
theorem tE (x y:Spx) (h:0 < (x ++ y).length) (hl:(x ++ y).length ≤ 1000000):dg Try.prog 79 [aq [x,y]] (au (x ++ y)):=by
 refine dg.of_fn ?_
 have e:[x,y].flatten=x ++ y:=by simp
 have hc:=uk [x,y] (by rw [e]; exact h) (by rw [e]; exact hl) (by simp) be 0
 rw [e] at hc
 refine Abs.Fn.mono hc ?_
 rintro _ _ _ ⟨rfl,rfl,rfl⟩
 exact lf (Row.box _ (x ++ y).length (cX (x ++ y)) ah (dP _))
theorem nS (s:Spx) (H:Hp) (nx:Nat):Abs.Fn Try.prog 51 [au s] H nx fun r H' nx'=>r=.func 78 [.ptr nx 1 0]∧H'=ar H nx [au s]∧nx'=nx + 1:=by
 refine Abs.Fn.of_c2 follows Ah (Nat.le_of_ble_eq_true rfl) ?_
 simp only [b51,cO,cG,cN,cM,cD,cF,cB,aB,aQ]
 (have zz:=aI @ay @av; repeat' (first|refine zW ?_|apply a_n|refine zO ?_|refine vY ?_|refine bxY ?_|refine ak rfl ?_|refine r1Y ?_|fail)) <;> (try clear zz)
 exact ⟨rfl,rfl,rfl⟩
theorem uC {H:Hp} {b:Nat} {x y:Spx} (h:H b=some [au x,au y]):aF H [.msl b 2 1 0 2] [aq [x,y]] :=
 an (nH (l:=[au x,au y]) h rfl rfl (by
  intro z hz
  simp only [List.mem_cons,List.not_mem_nil,or_false] at hz
  rcases hz with rfl | rfl
  ·exact ⟨rfl,ax _⟩
  ·exact ⟨rfl,ax _⟩)) aa
theorem oA {s:Spx} (h:2 ≤ s.length):(fcs s).length=s.length:=by
 unfold fcs; rw [if_neg (by omega),oT]
theorem sq {s:Spx} {i:Nat} (h:2 ≤ s.length) (hi:i < s.length):(fcs s).getD i default=s.take i ++ s.drop (i + 1):=by
 unfold fcs; rw [if_neg (by omega),sx hi]
theorem nI {y sb:Nat} {s:Spx} {H:Hp} {nx:Nat} (hs:s.length ≤ 1000) (I:List Spx→Hp→Nat→Prop)
    (hp:∀ D H nx,I D H nx→H sb=some [au s])
    (stab:∀ D H H' nx1 nx',I D H nx1→nx1 ≤ nx'→(∀ i,i < nx1→H' i=H i)→I D H' nx')
    (rnd:∀ D f H nx1,I D H nx1→D.length < (fcs s).length→f=(fcs s).getD D.length default→D=(fcs s).take D.length→Yl Try.prog y [au f] H nx1 fun r H' nx'=>r=.bool true∧I (D ++ [f]) H' nx')
    (h0:I [] H nx) :
    Abs.Fn Try.prog 78 [.yld y,.ptr sb 1 0] H nx fun _ H' nx'=>I (fcs s) H' nx':=by
 refine Abs.Fn.of_c2 follows A7 (Nat.le_of_ble_eq_true rfl) ?_
 simp only [b78,cO,cG,cN,cM,cD,cF,cB,aB,aQ]
 have g1:=hp _ _ _ h0
 (have zz:=aI @g1 (aI @ay (aI @av @ap)); repeat' (first|refine zW ?_|apply a_n|refine zO ?_|refine vY ?_|fail)) <;> (try clear zz)
 by_cases h2:2 ≤ s.length
 rotate_left
 ·have e:fcs s=[]:=by unfold fcs; rw [if_pos (by omega)]
  rw [e]
  refine bb (X:=Nat) (fun k=>[(0,.yld y),(1,.ptr sb 1 0),(5,.int .i64 s.length),(6,.int .i64 k)]) (fun k H' nx'=>k ≤ s.length∧I [] H' nx') (fun k=>s.length - k) 0 ⟨Nat.zero_le _,h0⟩ ag0 ?_
  rintro k H1 nx1 ⟨h1,hI⟩
  have q1:=hp _ _ _ hI
  by_cases hk:k < s.length
  rotate_left
  ·(have zz:=and_self; repeat' (first|refine zW ?_|apply a_n|apply a_x|refine zO ?_|refine vY ?_|(refine zGY ?_ ?_ <;> (intro _hg; try (exfalso; omega)))|refine ak rfl ?_|fail)) <;> (try clear zz)
   exact hI
  have z:decide ((1:Int) < s.length)=false:=decide_eq_false (by omega)
  (have zz:=aI @q1 (aI @ay (aI @av (aI @ap @z))); repeat' (first|refine zW ?_|refine zM ?_|apply a_n|refine zO ?_|refine vY ?_|refine gFY ?_|refine cFY ?_|(refine zGY ?_ ?_ <;> (intro _hg; try (exfalso; omega)))|fail)) <;> (try clear zz)
  exact ⟨k + 1,by omega,⟨by omega,hI⟩,ag0⟩
 have z:decide ((1:Int) < s.length)=true:=decide_eq_true (by omega)
 have hfl:=oA h2
 have hfg:=fun {i:Nat} (hi:i < s.length)=>sq (i:=i) h2 hi
 refine bb (X:=Nat) (fun k=>[(0,.yld y),(1,.ptr sb 1 0),(5,.int .i64 s.length),(6,.int .i64 k)]) (fun k H' nx'=>k ≤ s.length∧I ((fcs s).take k) H' nx') (fun k=>s.length - k) 0 ⟨Nat.zero_le _,h0⟩ ag0 ?_
 rintro k H1 nx1 ⟨h1,hI⟩
 have q1:=hp _ _ _ hI
 by_cases hk:k < s.length
 rotate_left
 ·rw [List.take_of_length_le (by omega)] at hI
  (have zz:=and_self; repeat' (first|refine zW ?_|apply a_n|apply a_x|refine zO ?_|refine vY ?_|(refine zGY ?_ ?_ <;> (intro _hg; try (exfalso; omega)))|refine ak rfl ?_|fail)) <;> (try clear zz)
  exact hI
 have a1:ir 2 (au s) none (some (.int .i64 (k:Int))) none=some (au (s.take k)):=ph (by omega)
 have a2:ir 2 (au s) (some (.int .i64 ((k:Int) + 1))) none none=some (au (s.drop (k + 1))):=mh (k:=k + 1) (by omega)
 have hc:=tE (s.take k) (s.drop (k + 1)) (by rw [List.length_append,List.length_take,List.length_drop]; omega) (by rw [List.length_append,List.length_take,List.length_drop]; omega)
 have hr:=rnd ((fcs s).take k) ((fcs s).getD k default) (ar H1 nx1 [au (s.take k),au (s.drop (k + 1))]) (nx1 + 1) (stab _ _ _ _ _ hI (by omega) fun i hi=>ag (by omega)) (by rw [List.length_take]; omega) (by rw [List.length_take,Nat.min_eq_left (by omega)]) (by rw [List.length_take,Nat.min_eq_left (by omega)])
 rw [← b6 (by omega),hfg hk] at hr
 (have zz:=aI @q1 (aI @ay (aI @av (aI @ap (aI @z (aI @a1 @a2))))); repeat' (first|refine zW ?_|apply a_n|refine zO ?_|refine vY ?_|(refine zGY ?_ ?_ <;> (intro _hg; try (exfalso; omega)))|fail)) <;> (try clear zz)
 refine me sb q1 fun S0 hS1 hsub=>?_
 simp only [List.map_cons,List.map_nil,List.getD_cons_succ,List.getD_cons_zero]
 (have zz:=aI @hS1 (aI @ay (aI @av (aI @ap (aI @z (aI @a1 @a2))))); repeat' (first|apply a_n|refine zO ?_|refine nvY ?_|apply ia|refine blY ?_|fail)) <;> (try clear zz)
 repeat (refine AZ ev0 ?_; skip)
 refine bV ev0 ev0 hc (uC (by rw [ah])) ?_
 (have zz:=and_self; repeat' (first|apply a_n|refine zO ?_|apply ia|fail)) <;> (try clear zz)
 refine sO ev0 ev0 (Yl.mono hr ?_)
 rintro v H3 nx3 ⟨rfl,e1⟩
 (have zz:=and_self; repeat' (first|apply a_n|refine zO ?_|refine vY ?_|refine nvY ?_|refine cFY ?_|fail)) <;> (try clear zz)
 exact ⟨k + 1,by omega,⟨by omega,e1⟩,ag0⟩
end Go.Proofs.Ytfcenbapjhecfaa
namespace Go.Proofs.Ytfcenbapjhecfaa
open Go Go.Abs
open Nat (reduceEqDiff reduceAdd reduceLeDiff)
def dV:Nat→Spx→List Int
 | 0,_=>[]
 | n + 1,[]=>0 :: 0 :: dV n []
 | n + 1,v :: l=>v.color :: v.label :: dV n l
theorem jv:∀ {n:Nat} {s:Spx},(dV n s).length=2 * n
 | 0,_=>rfl
 | n + 1,[]=>by show (dV n []).length + 1 + 1=_; rw [jv]; omega
 | n + 1,v :: l=>by show (dV n l).length + 1 + 1=_; rw [jv]; omega
theorem qZ:∀ {n:Nat} {s t:Spx},s.length=t.length→t.length ≤ n→dV n s=dV n t→s=t
 | _,[],[],_,_,_=>rfl
 | _,[],w :: m,h,_,_=>absurd h (by simp)
 | _,v :: l,[],h,_,_=>absurd h (by simp)
 | 0,v :: l,w :: m,_,h,_=>absurd h (by simp)
 | n + 1,v :: l,w :: m,hl,hm,e=>by
  obtain ⟨e1,e2⟩:=List.cons.inj e
  obtain ⟨e2,e3⟩:=List.cons.inj e2
  have:=qZ (n:=n) (by simpa using hl) (by simpa using hm) e3
  rw [this,iR.2 ⟨e1,e2⟩]
abbrev z16:List AV:=[.int .i64 0,.int .i64 0,.int .i64 0,.int .i64 0,.int .i64 0,.int .i64 0,.int .i64 0,.int .i64 0,.int .i64 0,.int .i64 0,.int .i64 0,.int .i64 0,.int .i64 0,.int .i64 0,.int .i64 0,.int .i64 0]
theorem x9:z16=(dV 8 []).map (AV.int .i64):=rfl
theorem pQ:∀ {n:Nat} {s:Spx},s.length ≤ n→cX s ++ ((dV n []).map (AV.int .i64)).drop (s.length * 2)=(dV n s).map (AV.int .i64)
 | n,[],_=>by simp [cX]
 | 0,_ :: _,h=>absurd h (by simp)
 | n + 1,v :: l,h=>by
  have:=pQ (n:=n) (s:=l) (by simp at h; omega)
  show [AV.int .i64 v.color,AV.int .i64 v.label] ++ cX l ++ _=AV.int .i64 v.color :: AV.int .i64 v.label :: (dV n l).map (AV.int .i64)
  rw [← this,List.length_cons,show (l.length + 1) * 2=l.length * 2 + 1 + 1 by omega]
  rfl
def kZ (s:Spx):K16:=⟨dV 8 s,by rw [jv]⟩
theorem uN {s t:Spx} (h:s.length=t.length) (h8:t.length ≤ 8) (e:kZ s=kZ t):s=t:=qZ h h8 (congrArg Subtype.val e)
theorem vX {O:List Spx} {f:Spx} {n:Nat} (hn:n ≤ 8) (hO:∀ s ∈ O,s.length=n) (hf:f.length=n):kZ f ∈ O.map kZ ↔ f ∈ O:=by
 rw [List.mem_map]
 exact ⟨fun ⟨s,h1,h2⟩=>by rw [← uN (by rw [hO s h1,hf]) (by omega) h2]; exact h1,fun h=>⟨f,h,rfl⟩⟩
theorem u0 {f:Spx} {n:Nat} (hn:n ≤ 8) (hf:f.length=n):∀ {O:List Spx},(∀ s ∈ O,s.length=n)→(O.map kZ).idxOf (kZ f)=O.idxOf f
 | [],_=>rfl
 | g :: O,hO=>by
  have ih:=u0 hn hf (O:=O) fun s hs=>hO s (List.mem_cons_of_mem _ hs)
  have hg:=hO g List.mem_cons_self
  rw [List.map_cons,List.idxOf_cons,List.idxOf_cons,ih]
  have e:(kZ g == kZ f)=(g == f):=by
   rw [Bool.eq_iff_iff,beq_iff_eq,beq_iff_eq]
   exact ⟨fun h=>uN (by rw [hg,hf]) (by omega) h,fun h=>by rw [h]⟩
  rw [e]
structure BOk (H:Hp) (n:Nat) (c:Spx→Nat) (O:List Spx) (bs:List Nat) (ck:Nat):Prop where
 box:H 0=some [.bmap ((O.map kZ).map eK) (O.map au) bs ck]
 len:bs.length=O.length
 asc:bs.Pairwise (· < ·)
 below:∀ s ∈ bs,s < ck
 nd:O.Nodup
 all:∀ f ∈ O,f.length=n
 odd:∀ f,f ∈ O ↔ c f % 2=1
theorem BOk.same {H H':Hp} {n:Nat} {c c':Spx→Nat} {O:List Spx} {bs:List Nat} {ck:Nat} (h:BOk H n c O bs ck) (hs:H' 0=H 0) (hc:∀ f,c' f % 2=c f % 2):BOk H' n c' O bs ck :=
 ⟨hs.trans h.box,h.len,h.asc,h.below,h.nd,h.all,fun f=>by rw [hc]; exact h.odd f⟩
theorem BOk.put {H H':Hp} {n:Nat} {c c':Spx→Nat} {O:List Spx} {bs:List Nat} {ck:Nat} {f:Spx} (h:BOk H n c O bs ck) (hf:f ∉ O) (hl:f.length=n) (hH:H' 0=some [.bmap ((O.map kZ).map eK ++ [eK (kZ f)]) (O.map au ++ [au f]) (bs ++ [ck]) (ck + 1)]) (hc:∀ g,c' g=c g + if g=f then 1 else 0):BOk H' n c' (O ++ [f]) (bs ++ [ck]) (ck + 1):=by
 refine ⟨by rw [hH]; simp,by rw [List.length_append,List.length_append,h.len]; rfl,?_,fun s hs=>?_,?_,fun g hg=>?_,fun g=>?_⟩
 ·exact List.pairwise_append.2 ⟨h.asc,List.pairwise_singleton _ _,fun a ha b hb=>by rw [List.mem_singleton.1 hb]; exact h.below a ha⟩
 ·rcases List.mem_append.1 hs with q | q
  ·have:=h.below s q; omega
  ·rw [List.mem_singleton.1 q]; omega
 ·exact List.nodup_append.2 ⟨h.nd,by simp,fun a ha b hb e=>by rw [e,List.mem_singleton.1 hb] at ha; exact hf ha⟩
 ·rcases List.mem_append.1 hg with q | q
  ·exact h.all g q
  ·rw [List.mem_singleton.1 q]; exact hl
 ·rw [List.mem_append,List.mem_singleton,h.odd,hc]
  by_cases e:g=f
  ·subst e
   have:¬ c g % 2=1:=fun q=>hf ((h.odd g).2 q)
   rw [if_pos rfl]
   exact ⟨fun _=>by omega,fun _=>.inr rfl⟩
  ·rw [if_neg e]; simp [e]
theorem dX {α β:Type} {f:α→β}:∀ {l:List α} {i:Nat},(l.map f).eraseIdx i=(l.eraseIdx i).map f
 | [],_=>rfl
 | a :: l,0=>rfl
 | a :: l,i + 1=>by show f a :: (l.map f).eraseIdx i=f a :: (l.eraseIdx i).map f; rw [dX]
theorem BOk.del {H H':Hp} {n:Nat} {c c':Spx→Nat} {O:List Spx} {bs:List Nat} {ck i:Nat} {f:Spx} (h:BOk H n c O bs ck) (hf:f ∈ O) (hi:O.idxOf f=i) (hH:H' 0=some [.bmap (((O.map kZ).map eK).eraseIdx i) ((O.map au).eraseIdx i) (bs.eraseIdx i) ck]) (hc:∀ g,c' g=c g + if g=f then 1 else 0):BOk H' n c' (O.erase f) (bs.eraseIdx i) ck:=by
 have hil:i < O.length:=by rw [← hi]; exact List.idxOf_lt_length_iff.2 hf
 have he:O.erase f=O.eraseIdx i:=List.erase_eq_eraseIdx_of_idxOf hi
 refine ⟨?_,?_,h.asc.sublist (List.eraseIdx_sublist _ _),fun s hs=>h.below s ((List.eraseIdx_sublist _ _).subset hs),h.nd.erase _,fun g hg=>h.all g (List.mem_of_mem_erase hg),fun g=>?_⟩
 ·rw [hH,he]
  rw [dX,dX,dX]
 ·rw [he,List.length_eraseIdx_of_lt hil,List.length_eraseIdx_of_lt (by rw [h.len]; exact hil),h.len]
 ·rw [h.nd.mem_erase_iff,h.odd,hc]
  by_cases e:g=f
  ·subst e
   have:=(h.odd g).1 hf
   rw [if_pos rfl]
   constructor
   ·exact fun q=>absurd rfl q.1
   ·intro q; omega
  ·rw [if_neg e]; simp [e]
theorem gy {α:Type} [DecidableEq α] {a b:List α} (h:a.Nodup) (hs:∀ x ∈ a,x ∈ b):a.length ≤ b.length:=List.Nodup.length_le_of_subset h hs
theorem ud {l:List Spx} {s f:Spx}:iG (l ++ [s]) f=iG l f + (bw s).count f:=by unfold iG; simp
theorem rG {D:List Spx} {f g:Spx} {m:Nat}:m + (D ++ [f]).count g=m + D.count g + if g=f then 1 else 0:=by
 rw [List.count_append,List.count_singleton,Nat.add_assoc]
 congr 2
 by_cases e:g=f
 ·subst e; simp
 ·rw [if_neg e,if_neg]; simp only [beq_iff_eq]; exact fun h=>e h.symm
theorem nU {O:List Spx} {i:Nat} (h:i < O.length):(O.map au).getD i .undef=au (O.getD i default):=by simp [List.getD,h]
attribute [local irreducible] aD aj aX aP aG aL az aM aR bd Go.Abs.Fn aO Go.Abs.Pure aw aF Yl
theorem v5 {n:Nat} {c:Spx→Nat} {O:List Spx} {bs:List Nat} {ck:Nat} {f:Spx} {H:Hp} (hn:n ≤ 8) (h:BOk H n c O bs ck) (hf:f.length=n) :
    bA (.st [.int,.int,.int,.int,.int,.int,.int,.int,.int,.int,.int,.int,.int,.int,.int,.int]) (eK (kZ f)) ((O.map kZ).map eK)=some (if f ∈ O then some (O.idxOf f) else none):=by
 rw [wq,u0 hn hf h.all]
 by_cases e:f ∈ O
 ·rw [if_pos e,if_pos ((vX hn h.all hf).2 e)]
 ·rw [if_neg e,if_neg fun q=>e ((vX hn h.all hf).1 q)]
set_option maxHeartbeats 1000000 in
theorem lF (a:List Spx) (n:Nat) (hn:n ≤ 8) (ha:a.length ≤ 4096) (hv:∀ s ∈ a,bk bt s) (hl:∀ s ∈ a,s.length=n + 1 ∨ s.length < 2) (h8:∀ s ∈ a,s.length ≤ 8):Pure Try.prog 46 [aq a] (aq (cb a)):=by
 refine Pure.of_c2 follows Aj (Nat.le_of_ble_eq_true rfl) ?_
 simp only [b46,cO,cG,cN,cM,cD,cF,cB,aB,aQ]
 refine ed ?_
 (have zz:=and_self; repeat' (first|apply a_n|refine zO ?_|refine vY ?_|fail)) <;> (try clear zz)
 refine ed ?_
 (have zz:=and_self; repeat' (first|apply a_n|refine zO ?_|fail)) <;> (try clear zz)
 refine xV ?_
 refine oL (cs:=[.nilm]) rfl rfl rfl ?_
 (have zz:=and_self; repeat' (first|apply a_n|refine zO ?_|refine stY ?_|fail)) <;> (try clear zz)
 refine br (fun T H nx=>T 3=.ptr 1 1 0∧2 ≤ nx∧H 1=some [.mp 0]∧∃ O bs ck,BOk H n (iG a) O bs ck) ?_ ?_
 ·(have zz:=@ac; repeat' (first|refine zW ?_|apply a_n|refine zO ?_|refine vY ?_|fail)) <;> (try clear zz)
  refine bb (X:=Nat) (fun k=>[(3,.ptr 1 1 0),(14,aq a),(15,.int .i64 a.length),(16,.int .i64 k)]) (fun k H nx=>k ≤ a.length∧2 ≤ nx∧H 1=some [.mp 0]∧∃ O bs ck,BOk H n (iG (a.take k)) O bs ck) (fun k=>a.length - k) 0 ⟨Nat.zero_le _,Nat.le_refl _,by rw [ah]; rfl,[],[],0,⟨by rw [ag (by omega),ag (by omega),ah]; rfl,rfl,List.Pairwise.nil,fun s h=>(by cases h),List.nodup_nil,fun s h=>(by cases h),fun f=>⟨fun h=>(by cases h),fun h=>absurd h (by rw [List.take_zero]; exact (by decide:¬ (0:Nat) % 2=1))⟩⟩⟩ (by (iterate 4 refine And.intro rfl ?_); trivial) ?_
  rintro k H nx ⟨h1,h2,h3,O,bs,ck,h4⟩
  by_cases hk:k < a.length
  rotate_left
  ·rw [List.take_of_length_le (by omega)] at h4
   (have zz:=and_self; repeat' (first|refine zW ?_|apply a_n|apply a_x|refine zO ?_|refine vY ?_|(refine zGY ?_ ?_ <;> (intro _hg; try (exfalso; omega)))|fail)) <;> (try clear zz)
   exact ⟨rfl,h2,h3,O,bs,ck,h4⟩
  have ix:=cT hk
  have hts:=b6 hk
  have hvs:=hv _ (aH hk)
  have hls:=hl _ (aH hk)
  have h8s:=h8 _ (aH hk)
  generalize a.getD k default=s at *
  (have zz:=@ix; repeat' (first|refine zW ?_|apply a_n|refine zO ?_|refine vY ?_|(refine zGY ?_ ?_ <;> (intro _hg; try (exfalso; omega)))|fail)) <;> (try clear zz)
  refine aU ev0 ev0 (nS s H nx) ?_
  rintro _ H1 nx1 ⟨rfl,rfl,rfl⟩
  (have zz:=and_self; repeat' (first|refine zW ?_|apply a_n|refine zO ?_|fail)) <;> (try clear zz)
  refine jT (nx + 1) (nx + 2) rfl rfl ev0 (fun c0 cj hy=>?_)
  refine Abs.Fn.mono (nI (nx:=nx + 2) (y:=nx + 1) (sb:=nx) (s:=s) (by omega) (fun D H' nx'=>nx + 2 ≤ nx'∧H' nx=some [au s]∧H' (nx + 1)=some [c0]∧H' 1=some [.mp 0]∧∃ O bs ck,BOk H' n (fun f=>iG (a.take k) f + D.count f) O bs ck) ?_ ?_ ?_ ?_) ?_
  ·rintro D H' nx' ⟨g1,g2,g3,g4⟩
   exact g2
  ·rintro D H' H'' n1 n2 ⟨g1,g2,g3,g4,O,bs,ck,g5⟩ hle hsm
   exact ⟨by omega,(hsm _ (by omega)).trans g2,(hsm _ (by omega)).trans g3,(hsm _ (by omega)).trans g4,O,bs,ck,g5.same (hsm _ (by omega)) fun _=>rfl⟩
  ·rintro D f H' nx' ⟨g1,g2,g3,g4,O,bs,ck,g5⟩ hlt hfe hDe
   refine hy _ _ _ _ g3 rfl ?_
   clear hy
   have h2s:2 ≤ s.length:=Nat.le_of_not_lt fun h=>by
    have:fcs s=[]:=by unfold fcs; rw [if_pos h]
    rw [this] at hlt; simp at hlt
   have hfl:f.length=n:=by
    rw [hfe,sq h2s (by rw [oA h2s] at hlt; exact hlt),List.length_append,List.length_take,List.length_drop]
    rw [oA h2s] at hlt
    omega
   clear hfe hDe
   (have zz:=and_self; repeat' (first|apply a_n|refine zO ?_|refine vY ?_|fail)) <;> (try clear zz)
   refine ⟨g3,?_⟩
   have hmf:=v5 hn g5 hfl
   have q0:=(bU (H:=H') (b:=nx + 1) (x:=0) (by omega)).trans g5.box
   have q1:=(bU (H:=H') (b:=nx + 1) (x:=1) (by omega)).trans g4
   have q2:=(bU (H:=H') (b:=nx + 1) (x:=nx) (by omega)).trans g2
   generalize bO H' (nx + 1)=H2 at *
   (have zz:=and_self; repeat' (first|refine zW ?_|apply a_n|refine zO ?_|refine alY ?_|fail)) <;> (try clear zz)
   generalize hH3:ar H2 nx' z16=H3
   have p0:H3 0=H2 0:=by rw [← hH3]; exact ag (by omega)
   have p1:H3 1=H2 1:=by rw [← hH3]; exact ag (by omega)
   have p2:H3 nx=H2 nx:=by rw [← hH3]; exact ag (by omega)
   have p3:H3 nx'=some z16:=by rw [← hH3]; exact ah
   clear hH3
   refine xN rfl p3 rfl rfl ?_
   (have zz:=and_self; repeat' (first|apply a_n|refine zO ?_|refine vY ?_|fail)) <;> (try clear zz)
   refine xF (n:=f.length) (H':=ar H3 nx' ((dV 8 f).map (AV.int .i64))) ?_ ?_
   ·((try simp only [bQ,ZA,reduceEqDiff,↓reduceIte,reduceAdd,reduceLeDiff]); (try with_reducible rfl))
    have hnn:dH (au f)=some f.length:=by unfold au eW; simp [dH]
    have htr:nL f.length (au f)=au f:=by unfold au eW; simp [nL]; exact List.take_of_length_le (by simp)
    have hmin:min f.length 8=f.length:=Nat.min_eq_left (by omega)
    have hal:dH (.msl nx' 16 2 0 8)=some 8:=rfl
    have hlp:bl z16 0 (cX f)=(dV 8 f).map (AV.int .i64):=by
     rw [← pQ (n:=8) (s:=f) (by omega),x9]
     simp only [bl,List.take_zero,List.nil_append,Nat.zero_add,dP]
    by_cases hf0:f.length=0
    ·obtain rfl:=List.length_eq_zero_iff.1 hf0
     have e0:(dV 8 []).map (AV.int .i64)=z16:=rfl
     rw [e0,← s9 p3]
     simp only [kB,hal,hnn,hmin]
     rfl
    ·simp only [kB,hal,hnn,hmin,if_neg hf0,p3,htr,nN]
     rw [if_pos (by refine ⟨?_,?_,?_,?_⟩ <;> first | rfl | trivial | omega | exact fH f),hlp]
   have hl16:((dV 8 f).map (AV.int .i64)).length=16:=by rw [List.length_map,jv]
   have ht:((dV 8 f).map (AV.int .i64)).take 16=(dV 8 f).map (AV.int .i64):=List.take_of_length_le (by omega)
   have r0:=(ag (H:=H3) (b:=nx') (x:=0) (cs:=(dV 8 f).map (AV.int .i64)) (by omega)).trans (p0.trans q0)
   have r1:=(ag (H:=H3) (b:=nx') (x:=1) (cs:=(dV 8 f).map (AV.int .i64)) (by omega)).trans (p1.trans q1)
   have r2:=(ag (H:=H3) (b:=nx') (x:=nx) (cs:=(dV 8 f).map (AV.int .i64)) (by omega)).trans (p2.trans q2)
   have r3:ar H3 nx' ((dV 8 f).map (AV.int .i64)) nx'=some ((dV 8 f).map (AV.int .i64)):=ah
   generalize ar H3 nx' ((dV 8 f).map (AV.int .i64))=H4 at *
   have hek:eK (kZ f)=.agg ((dV 8 f).map (AV.int .i64)):=rfl
   have hkf:=sP (kZ f)
   rw [hek] at hmf hkf
   have hcnt:∀ g,iG (a.take k) g + (D ++ [f]).count g=iG (a.take k) g + D.count g + if g=f then 1 else 0:=fun g=>rG
   by_cases hf:f ∈ O
   ·rw [if_pos hf] at hmf
    have hil:O.idxOf f < O.length:=List.idxOf_lt_length_iff.2 hf
    have hgv:mget .esl true (some (O.idxOf f)) (O.map au)=.tup [au (O.getD (O.idxOf f) default),.bool true]:=by
     rw [← nU hil]; rfl
    generalize hKK:(dV 8 f).map (AV.int .i64)=KK at *
    (have zz:=aI @r1 (aI @r3 (aI @hl16 @ht)); repeat' (first|refine zW ?_|apply a_n|refine zO ?_|refine vY ?_|fail)) <;> (try clear zz)
    refine sw ev0 r0 ev0 hkf hmf ?_
    rw [hgv]
    (have zz:=aI @r1 (aI @r3 (aI @hl16 @ht)); repeat' (first|refine zW ?_|apply a_n|refine zO ?_|refine vY ?_|refine cTY ?_|fail)) <;> (try clear zz)
    refine yi ev0 r0 ev0 hkf hmf ?_
    (have zz:=and_self; repeat' (first|apply a_n|refine zO ?_|fail)) <;> (try clear zz)
    exact ⟨rfl,by omega,by rw [ag (by omega),ag (by omega)]; exact r2,ah,by rw [ag (by omega),ag (by omega)]; exact r1,O.erase f,bs.eraseIdx (O.idxOf f),ck,g5.del hf rfl (by rw [ag (by omega),ah]; rfl) hcnt⟩
   ·rw [if_neg hf] at hmf
    have hgv:mget .esl true none (O.map au)=.tup [.esl,.bool false]:=rfl
    generalize hKK:(dV 8 f).map (AV.int .i64)=KK at *
    (have zz:=aI @r1 (aI @r3 (aI @hl16 @ht)); repeat' (first|refine zW ?_|apply a_n|refine zO ?_|refine vY ?_|fail)) <;> (try clear zz)
    refine sw ev0 r0 ev0 hkf hmf ?_
    rw [hgv]
    (have zz:=aI @r1 (aI @r3 (aI @hl16 @ht)); repeat' (first|refine zW ?_|apply a_n|refine zO ?_|refine vY ?_|refine cFY ?_|fail)) <;> (try clear zz)
    refine xk ev0 r0 ev0 ev0 hkf hmf ?_
    (have zz:=and_self; repeat' (first|apply a_n|refine zO ?_|fail)) <;> (try clear zz)
    exact ⟨rfl,by omega,by rw [ag (by omega),ag (by omega)]; exact r2,ah,by rw [ag (by omega),ag (by omega)]; exact r1,O ++ [f],bs ++ [ck],ck + 1,g5.put hf hfl (by rw [ag (by omega),ah,hek]; rfl) hcnt⟩
  ·exact ⟨Nat.le_refl _,by rw [ag (by omega),ah],ah,by rw [ag (by omega),ag (by omega)]; exact h3,O,bs,ck,h4.same (by rw [ag (by omega),ag (by omega)]) fun f=>by simp⟩
  ·rintro r H' nx' ⟨g1,g2,g3,g4,O,bs,ck,g5⟩
   refine .inl ⟨g3,?_⟩
   (have zz:=and_self; repeat' (first|apply a_n|refine zO ?_|refine vY ?_|fail)) <;> (try clear zz)
   exact ⟨k + 1,by omega,⟨by omega,by omega,by rw [bU (by omega)]; exact g4,O,bs,ck,g5.same (bU (by omega)) fun f=>by rw [hts,ud,lQ.count_eq]⟩,ag0⟩
 rintro T H nx ⟨t3,h2,h3,O,bs,ck,h4⟩
 have hO70:O.length ≤ 300000:=by
  have he:=fJ hv
  have h5:O.length ≤ (cb a).length:=gy h4.nd fun f hf=>(he.2 f).2 ((h4.odd f).1 hf)
  have:=oq h8
  omega
 (have zz:=aI @t3 @h3; repeat' (first|refine zW ?_|apply a_n|refine zO ?_|refine vY ?_|fail)) <;> (try clear zz)
 refine wU ev0 h4.box ?_
 (have zz:=and_self; repeat' (first|refine zW ?_|apply a_n|refine zO ?_|fail)) <;> (try clear zz)
 have hbn:bs.Nodup:=List.Pairwise.imp (fun {x y} (h:x < y) e=>by omega) h4.asc
 refine bb (X:=List Nat × List Spx × AV) (fun x=>[(10,x.2.2),(40,.itr nx)]) (fun x H' nx'=>H' nx=some [.biter 0 ck x.1]∧nx < nx'∧BOk H' n (iG a) O bs ck∧x.1.Nodup∧(∀ s ∈ x.1,s ∈ bs)∧x.2.1=x.1.map (fun s=>O.getD (bs.idxOf s) default)∧Row H' 1 x.2.2 (x.2.1.map au)∧∀ b,bH x.2.2=some b→nx < b∧b < nx') (fun x=>bs.length - x.1.length) ([],[],.esl) ⟨ah,Nat.lt_succ_self _,h4.same (ag (by omega)) fun _=>rfl,List.nodup_nil,fun s h=>(by cases h),rfl,Row.nil,fun b h=>(by cases h)⟩ (by (iterate 2 refine And.intro rfl ?_); trivial) ?_
 rintro ⟨seen,D,sv⟩ H1 nx1 ⟨hit,hnx,k4,hsn,hsb,hD,hrow,hbd⟩
 dsimp only at hit hsn hsb hD hrow hbd ⊢
 have hsl:seen.length ≤ bs.length:=gy hsn hsb
 have hDl:D.length=seen.length:=by rw [hD,List.length_map]
 have hbl:=k4.len
 (have zz:=and_self; repeat' (first|refine zW ?_|apply a_n|refine zO ?_|fail)) <;> (try clear zz)
 refine wO ev0 hit k4.box (fun i s hi hns=>?_) (fun hall=>?_)
 ·(have zz:=and_self; repeat' (first|refine zW ?_|apply a_n|refine zO ?_|refine vY ?_|refine cTY ?_|fail)) <;> (try clear zz)
  refine wx (i:=i) (s:=s) ev0 ah (by rw [ag (by omega)]; exact k4.box) (by simp) hi ?_
  obtain ⟨hil,his⟩:=List.getElem?_eq_some_iff.1 hi
  have hgx:=nU (O:=O) (i:=i) (by omega)
  have hidx:bs.idxOf s=i:=by
   have h5:=List.idxOf_lt_length_iff.2 (show s ∈ bs by rw [← his]; exact List.getElem_mem hil)
   have h6:bs[bs.idxOf s]=bs[i]:=by rw [List.getElem_idxOf h5,his]
   exact (List.getElem_inj hbn).1 h6
  have hsnd:(seen ++ [s]).Nodup:=List.nodup_append.2 ⟨hsn,by simp,fun x hx y hy e=>by rw [e,List.mem_singleton.1 hy] at hx; exact hns hx⟩
  have hssb:∀ x ∈ seen ++ [s],x ∈ bs:=fun x hx=>by
   rcases List.mem_append.1 hx with q | q
   ·exact hsb x q
   ·rw [List.mem_singleton.1 q,← his]; exact List.getElem_mem hil
  have hsl2:=gy hsnd hssb
  rw [List.length_append,List.length_singleton] at hsl2
  (have zz:=aI @hgx (aI @ay @av); repeat' (first|apply a_n|refine zO ?_|refine vY ?_|refine blY ?_|fail)) <;> (try clear zz)
  refine dC rfl ev0 (hrow.same fun b hb=>?_) ev0 bF rfl rfl Nat.one_pos (by rw [List.length_map]; omega) (by rw [List.length_map]; omega) ?_
  ·have:=hbd b hb
   rw [ag (by omega),ag (by omega)]
  rintro s2 H2 nx2 hr2 i1 i2 i3 i4
  have lo:∀ x,x ≤ nx→H2 x=ar H1 nx [.biter 0 ck (seen ++ [s])] x:=fun x hx=>(i3 x (by omega) (fun h=>by have:=hbd x h; omega)).trans (ag (by omega))
  (have zz:=and_self; repeat' (first|apply a_n|refine zO ?_|refine vY ?_|fail)) <;> (try clear zz)
  refine ⟨(seen ++ [s],D ++ [O.getD i default],s2),by dsimp only; rw [List.length_append,List.length_singleton]; omega,⟨(lo nx (Nat.le_refl _)).trans ah,by omega,k4.same ((lo 0 (by omega)).trans (ag (by omega))) fun _=>rfl,hsnd,hssb,?_,?_,fun b hb=>?_⟩,ag0⟩
  ·dsimp only
   rw [hD,List.map_append,List.map_singleton,hidx]
  ·dsimp only
   rw [List.map_append]; exact hr2
  ·rcases i4 b hb with h | h
   ·have:=hbd b h; omega
   ·omega
 ·have hperm:seen.Perm bs:=(List.perm_ext_iff_of_nodup hsn hbn).2 fun x=>⟨hsb x,hall x⟩
  have hDO:D.Perm O:=by
   rw [hD]
   refine (hperm.map _).trans (List.Perm.of_eq ?_)
   refine List.ext_getElem (by rw [List.length_map]; exact hbl) fun j g1 g2=>?_
   rw [List.length_map] at g1
   have h5:bs.idxOf bs[j]=j:=by
    have h5:=List.idxOf_lt_length_iff.2 (List.getElem_mem g1)
    have h6:bs[bs.idxOf bs[j]]=bs[j]:=List.getElem_idxOf h5
    exact (List.getElem_inj hbn).1 h6
   rw [List.getElem_map,h5]
   simp [List.getD,g2]
  have hDn:D.Nodup:=hDO.nodup_iff.2 k4.nd
  have hDm:∀ s,s ∈ D ↔ s ∈ cb a:=fun s=>by rw [hDO.mem_iff,k4.odd,(fJ hv).2]
  have hfin:=wB gH (uh hv)
  have hsort:Abs.Fn Try.prog 73 [sv,.func 40 []] H1 nx1 fun _ H' nx'=>Row H' 1 sv ((cb a).map au):=by
   generalize hcs:D.map au=cs at hrow
   cases hrow with
   | nil =>
    have hD0:D=[]:=List.map_eq_nil_iff.1 hcs
    refine Abs.Fn.mono (jh rfl) ?_
    rintro _ _ _ ⟨rfl,rfl⟩
    have:cb a=[]:=by
     rw [List.eq_nil_iff_forall_not_mem]
     intro s h
     have:=(hDm s).2 h
     rw [hD0] at this; cases this
    rw [this]; exact Row.nil
   | box b len cs k1 k2 =>
    obtain rfl:len=D.length:=by rw [← hcs,List.length_map] at k2; omega
    have hb:=hbd b rfl
    subst hcs
    by_cases h0:D.length=0
    ·have hD0:D=[]:=List.length_eq_zero_iff.1 h0
     have he:cb a=[]:=by
      rw [List.eq_nil_iff_forall_not_mem]
      intro s h
      have:=(hDm s).2 h
      rw [hD0] at this; cases this
     have hrw:Row H1 1 (.msl b (D.length * 1) 1 0 D.length) ((cb a).map au):=by
      have:=Row.box (H:=H1) (sz:=1) b D.length _ k1 (by rw [List.length_map,Nat.mul_one])
      rw [he]; rwa [hD0] at this ⊢
     refine Abs.Fn.mono (jh (by rw [h0]; rfl)) ?_
     rintro _ _ _ ⟨_,e⟩
     rw [e]; exact hrw
    ·have hg:∀ s ∈ D,Shn s:=fun s h=>show s.length ≤ _ by have:=k4.all s (hDO.mem_iff.1 h); omega
     have hsf:=ss yP (L:=D) (b:=b) (nx:=nx1) (n:=D.length) k1 hb.2 rfl (by omega) hg (by omega)
     rw [Nat.mul_one]
     refine Abs.Fn.mono hsf ?_
     rintro _ H' nx' ⟨L',ps,p1,p2⟩
     have hlen:=p1.length_eq
     have:=kN p1 (by rw [hlen]; exact p2) hDn hDm
     rw [hfin] at this
     rw [← this,← hlen]
     have:=Row.box (H:=H') (sz:=1) b L'.length (L'.map au) ps.at_ (by simp)
     rwa [Nat.mul_one] at this
  (have zz:=and_self; repeat' (first|refine zW ?_|apply a_n|apply a_x|refine zO ?_|refine vY ?_|refine cFY ?_|fail)) <;> (try clear zz)
  refine aU ev0 ev0 hsort ?_
  rintro r H' nx' hr
  (have zz:=and_self; repeat' (first|refine zW ?_|apply a_n|refine zO ?_|refine vY ?_|refine ak rfl ?_|refine r1Y ?_|fail)) <;> (try clear zz)
  exact ey hr
end Go.Proofs.Ytfcenbapjhecfaa
namespace Go.Proofs.Ytfcenbapjhecfaa
open Go Go.Abs
theorem tC {s f:Spx} (hs:bg s=0) (hf:f ∈ bw s):bg f=0:=by
 obtain ⟨h1,h2,h3⟩:=iw.1 hf
 obtain ⟨p1,p2,p3,p4⟩:=cr hs
 exact qa ⟨by omega,by omega⟩ (p3.sublist h2) fun v hv=>p4 v (h2.subset hv)
theorem tB {a:List Spx} (ha:∀ s ∈ a,bg s=0):∀ f ∈ cb a,bg f=0:=fun f hf=>by
 obtain ⟨s,h1,h2⟩:=rL (iW ha) hf
 exact tC (ha s h1) h2
theorem vo {a:List Spx} (h:∀ s ∈ a,bg s=0):∀ s ∈ a,s.length ≤ 8:=fun s hs=>(cr (h s hs)).2.1
def mZ (a:List Spx):List Spx × Int:=if cu a ≠ 0 then ([],cu a) else if 4096 < (cb a).length then ([],5) else (cb a,0)
def xg (a:List Spx):Bool × Int:=if cu a ≠ 0 then (false,cu a) else (decide (cb a=[]),0)
attribute [local irreducible] aD aj aX aP aG aL az aM aR bd Go.Abs.Fn aO Go.Abs.Pure aw aF Yl
theorem nC {a:List Spx} (h:cu a=0):Pure Try.prog 46 [aq a] (aq (cb a)):=by
 obtain ⟨h1,h2,h3,h4⟩:=eS h
 by_cases h0:a=[]
 ·subst h0
  exact lF [] 0 (by omega) (by simp) (by simp) (by simp) (by simp)
 ·have hm:a.getD 0 default ∈ a:=aH (List.length_pos_iff.2 h0)
  have h5:=cr (h2 _ hm)
  exact lF a ((a.getD 0 default).length - 1) (by omega) h1 (iW h2) (fun s hs=>.inl (by rw [h4 s hs]; omega)) (vo h2)
theorem qF {a:List Spx} (h:cu a=0):Shn (cb a)∧∀ s ∈ cb a,s.length ≤ 1000000:=by
 obtain ⟨h1,h2,h3,h4⟩:=eS h
 have:=oq (vo h2)
 exact ⟨show _ ≤ _ by omega,qK (tB h2)⟩
theorem sH (a:List Spx) (ha:ShC a):Pure Try.prog 17 [aq a] (.tup [aq (mZ a).1,.int .i64 (mZ a).2]):=by
 refine Pure.of_c2 follows AL (Nat.le_of_ble_eq_true rfl) ?_
 simp only [b17,cO,cG,cN,cM,cD,cF,cB,aB,aQ]
 have f1:=ju a ha
 unfold mZ
 by_cases h:cu a=0
 rotate_left
 ·have z:decide (cu a ≠ 0)=true:=decide_eq_true h
  rw [if_pos h]
  (have zz:=@z; repeat' (first|refine zW ?_|apply a_n|apply a_r|refine zO ?_|refine vY ?_|refine cY ?_ (hp:=f1) (hs:=by (first | refine ab ?_ rfl | apply ae); (repeat' (first | exact aa | apply am | apply af | exact aA _)); first | done | fail)|refine cTY ?_|refine ak rfl ?_|refine r2Y ?_|fail)) <;> (try clear zz)
  exact bX (.eslsl _) rfl
 rw [if_neg (fun q=>q h)]
 have f2:=nC h
 have f3:=n4 (cb a) (qF h).1 (qF h).2
 have z:decide ((0:Int) ≠ 0)=false:=rfl
 rw [h] at f1
 have hfin:(if 4096 < (cb a).length then (([]:List Spx),(5:Int)) else (cb a,0))=(if 4096 < (cb a).length then [] else cb a,if 4096 < (cb a).length then 5 else 0):=by
  split <;> rfl
 rw [hfin]
 (have zz:=@z; repeat' (first|refine zW ?_|apply a_n|refine zO ?_|refine vY ?_|refine cY ?_ (hp:=by first | exact f1 | exact f2 | exact f3) (hs:=by (first | refine ab ?_ rfl | apply ae); (repeat' (first | exact aa | apply am | apply af | exact aA _)); first | done | fail)|refine cFY ?_|refine ak rfl ?_|refine r2Y ?_|fail)) <;> (try clear zz)
 exact bX (aA _).snap rfl
theorem yU (a:List Spx) (ha:ShC a):Pure Try.prog 19 [aq a] (.tup [.bool (xg a).1,.int .i64 (xg a).2]):=by
 refine Pure.of_c2 follows AE (Nat.le_of_ble_eq_true rfl) ?_
 simp only [b19,cO,cG,cN,cM,cD,cF,cB,aB,aQ]
 have f1:=ju a ha
 unfold xg
 by_cases h:cu a=0
 rotate_left
 ·have z:decide (cu a ≠ 0)=true:=decide_eq_true h
  rw [if_pos h]
  (have zz:=@z; repeat' (first|refine zW ?_|apply a_n|apply a_r|refine zO ?_|refine vY ?_|refine cY ?_ (hp:=f1) (hs:=by (first | refine ab ?_ rfl | apply ae); (repeat' (first | exact aa | apply am | apply af | exact aA _)); first | done | fail)|refine cTY ?_|refine ak rfl ?_|refine r2Y ?_|fail)) <;> (try clear zz)
  exact vw rfl rfl
 rw [if_neg (fun q=>q h)]
 have f2:=nC h
 have z:decide ((0:Int) ≠ 0)=false:=rfl
 have z2:decide ((((cb a).length:Nat):Int)=0)=decide (cb a=[]):=decide_eq_decide.2 (by rw [← List.length_eq_zero_iff]; omega)
 rw [h] at f1
 (have zz:=aI @z (aI @z2 @ac); repeat' (first|refine zW ?_|apply a_n|refine zO ?_|refine vY ?_|refine cY ?_ (hp:=by first | exact f1 | exact f2) (hs:=by (first | refine ab ?_ rfl | apply ae); (repeat' (first | exact aa | apply am | apply af | exact aA _)); first | done | fail)|refine cFY ?_|refine ak rfl ?_|refine r2Y ?_|fail)) <;> (try clear zz)
 exact vw rfl rfl
end Go.Proofs.Ytfcenbapjhecfaa
namespace Go.Proofs.Ytfcenbapjhecfaa
open Go Go.Abs
def on3 (b1:Nat) (c1:List AV) (b2:Nat) (c2:List AV) (b3:Nat) (c3:List AV):Hp:=fun x=>if x=b1 then some c1 else if x=b2 then some c2 else if x=b3 then some c3 else none
theorem yF {P:Program} {T:Tm} {H:Hp} {nx:Nat} (b1 b2 b3:Nat) {c1 c2 c3:List AV} {K:CP} {m:Nat} {l:List Op2} {C:List (Nat × Nat)} (h1:H b1=some c1) (h2:H b2=some c2) (h3:H b3=some c3) (n1:b2 ≠ b1) (n2:b3 ≠ b1) (n3:b3 ≠ b2) (k:∀ S:Hp,S b1=some c1→S b2=some c2→S b3=some c3→(∀ H':Hp,H' b1=some c1→H' b2=some c2→H' b3=some c3→Sub S H')→a5 P S (C.map fun k=>(l.getD k.1 ⟨none,none,.dead⟩,k.2)) T H nx fun T H nx=>K .normal T H nx):aD P (.mixS m l C) T H nx K:=by
 have hsub:∀ H':Hp,H' b1=some c1→H' b2=some c2→H' b3=some c3→Sub (on3 b1 c1 b2 c2 b3 c3) H':=fun H' a b c x cs h=>by
  unfold on3 at h
  split at h
  ·rename_i e; rw [e,a]; exact h
  split at h
  ·rename_i e; rw [e,b]; exact h
  split at h
  ·rename_i e; rw [e,c]; exact h
  ·cases h
 refine oZ (on3 b1 c1 b2 c2 b3 c3) rfl (hsub H h1 h2 h3) (k _ ?_ ?_ ?_ hsub)
 ·unfold on3; rw [if_pos rfl]
 ·unfold on3; rw [if_neg n1,if_pos rfl]
 ·unfold on3; rw [if_neg n2,if_neg n3,if_pos rfl]
theorem rO {α:Type} {p q:Prop} [Decidable p] [Decidable q] (h:p ↔ q) {a b:α}:(if p then a else b)=if q then a else b:=by
 by_cases hq:q
 ·rw [if_pos hq,if_pos (h.2 hq)]
 ·rw [if_neg hq,if_neg fun x=>hq (h.1 x)]
def uE (c:List Spx) (d:Int):List Spx × Int:=if d < 0 then ([],0) else bR c (d + 1)
def bD (c:List Spx) (d:Int):List Spx:=if d ≤ 0 then [] else fK c d.toNat
def dI (c:List Spx) (d:Int):(Int × List (List Int)) × Int:=if a8 c ≠ 0 then ((0,[]),a8 c) else if d < 0 ∨ 8 ≤ d then ((0,[]),2) else ((((bD c (d + 1)).length:Nat),pi (bD c (d + 1)) (bD c d)),0)
theorem xh {c:List Spx} {d:Int} (hc:a8 c=0) (h1:-1 ≤ d) (h2:d < 8):uE c d=(bD c (d + 1),0):=by
 unfold uE bD bR
 by_cases h:d < 0
 ·rw [if_pos h,if_pos (by omega)]
 ·rw [if_neg h,if_neg (fun q=>q hc),if_neg (by omega),if_neg (by omega)]
theorem n8 {c:List Spx} {d:Int}:bk aK (bD c d):=by
 unfold bD; split
 ·exact bk.nil
 ·exact vh
theorem dN {c:List Spx} {d:Int} (hc:c.length ≤ 50) (h:a8 c=0):(bD c d).length ≤ 3500:=by
 unfold bD; split
 ·exact Nat.zero_le _
 ·exact uD hc (vo (fG h).2.1)
theorem jF {c:List Spx} {d:Int} {s:Spx}:s ∈ bD c d ↔ 0 < d∧s.length=d.toNat∧∃ t ∈ c,s.Sublist t:=by
 unfold bD; split
 ·exact ⟨fun h=>(by cases h),fun h=>absurd h.1 (by omega)⟩
 ·rw [uI]
  constructor
  ·rintro ⟨t,t1,t2⟩
   exact ⟨by omega,(cE.1 t2).2,t,t1,(cE.1 t2).1⟩
  ·rintro ⟨_,h1,t,t1,t2⟩
   exact ⟨t,t1,cE.2 ⟨t2,h1⟩⟩
theorem eU {c:List Spx} {d:Int} (h:a8 c=0):∀ s ∈ bD c d,bg s=0:=fun s hs=>by
 obtain ⟨h1,h2,t,t1,t2⟩:=jF.1 hs
 obtain ⟨p1,p2,p3,p4⟩:=cr ((fG h).2.1 t t1)
 have:=t2.length_le
 exact qa ⟨by omega,by omega⟩ (p3.sublist t2) fun v hv=>p4 v (t2.subset hv)
attribute [local irreducible] aD aj aX aP aG aL az aM aR bd Go.Abs.Fn aO Go.Abs.Pure aw aF Yl
theorem qq (l:List Spx) (v:Spx) (hl:Shn l) (hs:∀ c ∈ l,Shn c) (hv:Shn v) (ha:bk aK l):∃ b:Nat,Pure Try.prog 52 [aq l,au v] (.tup [.int .i64 b,.bool (decide (v ∈ l))])∧(v ∈ l→b < l.length∧l.getD b default=v):=by
 obtain ⟨b,hb,h1,h2⟩:=mz (fun i=>aK (l.getD i default) v) l.length (fun i j hij hj h=>gH.trans (cA ha hij hj) h)
 have hc:=rm l v hl hs hv hb h1 h2
 have he:(decide (b < l.length) && decide (aK (l.getD b default) v=0))=decide (v ∈ l)∧(v ∈ l→b < l.length∧l.getD b default=v):=by
  by_cases hm:v ∈ l
  ·obtain ⟨i,hi,e⟩:=List.getElem_of_mem hm
   have e':l.getD i default=v:=by simp [List.getD,hi,e]
   have hbi:b=i:=by
    rcases Nat.lt_trichotomy b i with h | h | h
    ·have h3:=h2 b (Nat.le_refl _) (by omega)
     have h4:=cA ha h hi
     rw [e'] at h4; omega
    ·exact h
    ·have h3:=h1 i h
     rw [e',dK] at h3; omega
   subst hbi
   rw [decide_eq_true hi,decide_eq_true hm,e',decide_eq_true (dK v)]
   exact ⟨rfl,fun _=>⟨hi,rfl⟩⟩
  ·rw [decide_eq_false hm]
   refine ⟨?_,fun h=>absurd h hm⟩
   by_cases hlt:b < l.length
   ·rw [decide_eq_true hlt,Bool.true_and,decide_eq_false]
    intro h
    exact hm (by rw [← lm h]; exact aH hlt)
   ·rw [decide_eq_false hlt,Bool.false_and]
 rw [he.1] at hc
 refine ⟨b,?_,he.2⟩
 refine Pure.of_c2 follows Bi (Nat.le_of_ble_eq_true rfl) ?_
 simp only [b52,cO,cG,cN,cM,cD,cF,cB,aB,aQ]
 (have zz:=aI @ay (aI @av (aI @ao @ai)); repeat' (first|refine zW ?_|apply a_n|refine zO ?_|refine vZ ?_|refine cZ ?_ (hp:=hc) (hs:=by (first | refine ab ?_ rfl | apply ae); (repeat' (first | exact aa | apply am | apply af | exact aA _ | exact ax _ | exact Dat.func DatL.nil)); first | done | fail)|refine ak rfl ?_|refine r2Z ?_|fail)) <;> (try clear zz)
 exact d7 (an (.int _ _) (an (.bool _) aa))
theorem xu (c:List Spx) (d:Int) (hd:d ≤ 1000) (hc:c.length ≤ 50) (hs:∀ s ∈ c,Shn s):Pure Try.prog 50 [d9 c,.int .i64 d] (.tup [aq (uE c d).1,.int .i64 (uE c d).2]):=by
 refine Pure.of_c2 follows AK (Nat.le_of_ble_eq_true rfl) ?_
 simp only [b50,cO,cG,cN,cM,cD,cF,cB,aB,aQ]
 unfold uE
 by_cases h:d < 0
 ·have z:decide (d < 0)=true:=decide_eq_true h
  rw [if_pos h]
  (have zz:=aI @z (aI @ao @ai); repeat' (first|refine zW ?_|apply a_n|apply a_r|refine zO ?_|refine vY ?_|refine bxY ?_|refine cTY ?_|refine ak rfl ?_|refine r2Y ?_|fail)) <;> (try clear zz)
  exact bX (.eslsl _) rfl
 ·have z:decide (d < 0)=false:=decide_eq_false h
  rw [if_neg h]
  have hS:=jb c (d + 1) hc hs
  (have zz:=aI @z (aI @ao @ai); repeat' (first|refine zW ?_|apply a_n|refine zO ?_|refine vY ?_|refine cY ?_ (hp:=hS) (hs:=by (first | refine ab ?_ rfl | apply ae); (repeat' (first | exact aa | apply am | apply af | exact bf _)); first | done | fail)|refine bxY ?_|refine cFY ?_|refine ak rfl ?_|refine r2Y ?_|fail)) <;> (try clear zz)
  exact bX (aA _).snap rfl
set_option maxHeartbeats 2000000 in
theorem rZ (c:List Spx) (d:Int) (hc:c.length ≤ 50) (hs:∀ s ∈ c,Shn s):Pure Try.prog 22 [d9 c,.int .i64 d] (.tup [fl (dI c d).1.1 (dI c d).1.2,.int .i64 (dI c d).2]):=by
 refine Pure.of_c2 follows AP (Nat.le_of_ble_eq_true rfl) ?_
 simp only [b22,cO,cG,cN,cM,cD,cF,cB,aB,aQ]
 have hcc:=mU c (show _ ≤ _ by omega) hs
 unfold dI
 by_cases he:a8 c=0
 rotate_left
 ·rw [if_pos he]
  have z:decide (a8 c ≠ 0)=true:=decide_eq_true he
  (have zz:=aI @ao (aI @ai @z); repeat' (first|refine zW ?_|apply a_n|apply a_r|refine zO ?_|refine vY ?_|refine cY ?_ (hp:=hcc) (hs:=by (first | refine ab ?_ rfl | apply ae); (repeat' (first | exact aa | apply am | apply af | exact bf _)); first | done | fail)|refine alY ?_|refine bxY ?_|refine stY ?_|refine cTY ?_|refine ak rfl ?_|refine r2Y ?_|fail)) <;> (try clear zz)
  exact g8 (.eslsl _) rfl
 rw [if_neg (fun h=>h he)]
 rw [he] at hcc
 have z0:decide ((0:Int) ≠ 0)=false:=rfl
 by_cases hd:d < 0 ∨ 8 ≤ d
 ·rw [if_pos hd]
  (have zz:=aI @ao (aI @ai @z0); repeat' (first|refine zW ?_|apply a_n|apply a_r|refine zO ?_|refine vY ?_|refine cY ?_ (hp:=hcc) (hs:=by (first | refine ab ?_ rfl | apply ae); (repeat' (first | exact aa | apply am | apply af | exact bf _)); first | done | fail)|refine alY ?_|refine bxY ?_|refine stY ?_|refine gTY ?_|refine gFY ?_|refine cTY ?_|refine cFY ?_|(refine zGY ?_ ?_ <;> (intro _hg; try (exfalso; omega)))|refine ak rfl ?_|refine r2Y ?_|fail)) <;> (try clear zz)
  all_goals first | exact g8 (.eslsl _) rfl | (exfalso; omega)
 rw [if_neg hd]
 have hX:=xu c d (by omega) hc hs
 have hY:=xu c (d - 1) (by omega) hc hs
 rw [xh he (by omega) (by omega)] at hX hY
 rw [show d - 1 + 1=d by omega] at hY
 have hXl:=dN (d:=d + 1) hc he
 have hYl:=dN (d:=d) hc he
 have hXm:=eU (d:=d + 1) he
 have hYm:=gm (eU (d:=d) he)
 have hYa:=n8 (c:=c) (d:=d)
 generalize bD c (d + 1)=X at *
 generalize bD c d=Y at *
 have z1:decide (d < 0)=false:=decide_eq_false (by omega)
 have z2:decide (8 ≤ d)=false:=decide_eq_false (by omega)
 have hzc:aY (AV.agg [AV.esl]) Y.length=List.replicate Y.length .esl:=by simp [aY,AV.cells]
 (have zz:=aI @ao (aI @ai (aI @ac (aI @z0 (aI @z1 @z2)))); repeat' (first|refine zW ?_|apply a_n|refine zO ?_|refine vY ?_|refine cY ?_ (hp:=by first | exact hcc | exact hX | exact hY) (hs:=by (first | refine ab ?_ rfl | apply ae); (repeat' (first | exact aa | apply am | apply af | exact bf _)); first | done | fail)|refine alY ?_|refine bxY ?_|refine stY ?_|refine gTY ?_|refine cFY ?_|fail)) <;> (try clear zz)
 refine xq (k1:=.i64) (k2:=.i64) (n:=Y.length) (m:=Y.length) rfl ev0 ev0 (by omega) (Int.le_refl _) (by omega) (by omega) ?_
 rw [Int.toNat_natCast,hzc,Nat.mul_one]
 (have zz:=@ac; repeat' (first|refine zW ?_|apply a_n|refine zO ?_|refine vY ?_|refine alY ?_|refine stY ?_|fail)) <;> (try clear zz)
 refine bb (X:=Nat × List AV) (fun x=>[(4,.ptr 1 2 0),(9,.ptr 2 1 0),(10,.ptr 4 2 0),(56,aq X),(57,.int .i64 X.length),(58,.int .i64 x.1)]) (fun x H' nx'=>x.1 ≤ X.length∧5 ≤ nx'∧H' 1=some [.int .i64 0,.esl]∧H' 2=some [aq Y]∧H' 4=some [.int .i64 X.length,.msl 3 Y.length 1 0 Y.length]∧MatOk H' 3 5 nx' Y.length (eV X Y x.1) x.2) (fun x=>X.length - x.1) (0,List.replicate Y.length .esl) ⟨Nat.zero_le _,Nat.le_refl _,by (repeat rw [ag (by omega)]); rw [ah],by (repeat rw [ag (by omega)]); rw [ah]; rfl,by rw [ah]; rfl,MatOk.new (by (repeat rw [ag (by omega)]); rw [ah]) (fun j _=>rfl)⟩ (by (iterate 6 refine And.intro rfl ?_); trivial) ?_
 rintro ⟨k,vs⟩ H nx ⟨h1,h2,g1,g2,g4,hmat⟩
 dsimp only at h1 h2 g1 g2 g4 hmat ⊢
 by_cases hk:k < X.length
 rotate_left
 ·obtain rfl:k=X.length:=by omega
  have hst:Snap (ar H 1 [.int .i64 X.length,.msl 3 Y.length 1 0 Y.length]) (.msl 3 Y.length 1 0 Y.length) (cC (pi X Y)):=(hmat.same (hi':=nx) (G:=eV X Y X.length) (ag (by omega)) (fun x x1 x2 x3=>ag (by omega)) (Nat.le_refl _) (fun j _=>rfl)).snap
  (have zz:=aI @g4 @g1; repeat' (first|refine zW ?_|apply a_n|apply a_x|refine zO ?_|refine vY ?_|refine stY ?_|(refine zGY ?_ ?_ <;> (intro _hg; try (exfalso; omega)))|refine ak rfl ?_|refine r2Y ?_|fail)) <;> (try clear zz)
  exact g8 hst rfl
 have ix:=cT hk
 have hsim:=hXm _ (aH hk)
 have hF:∀ i,eV X Y (k + 1) i=eV X Y k i ++ if Y.getD i default ∈ bw (X.getD k default) then [k] else []:=fun i=>nV
 generalize X.getD k default=s at *
 obtain ⟨p1,p2,p3,p4⟩:=cr hsim
 (have zz:=@ix; repeat' (first|refine zW ?_|apply a_n|refine zO ?_|refine vY ?_|refine alY ?_|refine stY ?_|(refine zGY ?_ ?_ <;> (intro _hg; try (exfalso; omega)))|fail)) <;> (try clear zz)
 refine aU ev0 ev0 (nS s _ _) ?_
 rintro _ H1 nx1 ⟨rfl,rfl,rfl⟩
 (have zz:=and_self; repeat' (first|refine zW ?_|apply a_n|refine zO ?_|fail)) <;> (try clear zz)
 refine jT (nx + 2) (nx + 3) rfl rfl ev0 (fun c0 cj hy=>?_)
 refine Abs.Fn.mono (nI (nx:=nx + 3) (y:=nx + 2) (sb:=nx + 1) (s:=s) (by omega) (fun D H' nx'=>nx + 3 ≤ nx'∧H' (nx + 1)=some [au s]∧H' (nx + 2)=some [c0]∧H' nx=some [.int .i64 (k:Int)]∧H' 1=some [.int .i64 0,.esl]∧H' 2=some [aq Y]∧H' 4=some [.int .i64 X.length,.msl 3 Y.length 1 0 Y.length]∧∃ vs,MatOk H' 3 5 nx' Y.length (fun i=>eV X Y k i ++ if Y.getD i default ∈ D then [k] else []) vs∧∀ j B,j < Y.length→bH (vs.getD j .undef)=some B→B < nx ∨ nx + 3 ≤ B) ?_ ?_ ?_ ?_) ?_
 ·rintro D H' nx' ⟨j1,j2,_⟩
  exact j2
 ·rintro D H' H'' n1 n2 ⟨j1,j2,j3,j4,j5,j6,j7,vs,j8,j9⟩ hle hsm
  exact ⟨by omega,(hsm _ (by omega)).trans j2,(hsm _ (by omega)).trans j3,(hsm _ (by omega)).trans j4,(hsm _ (by omega)).trans j5,(hsm _ (by omega)).trans j6,(hsm _ (by omega)).trans j7,vs,j8.same (hsm _ (by omega)) (fun x x1 x2 x3=>hsm x x2) hle (fun _ _=>rfl),j9⟩
 ·rintro D f H' nx' ⟨j1,j2,j3,j4,j5,j6,j7,vs,j8,j9⟩ hlt hfe hDe
  refine hy _ _ _ _ j3 rfl ?_
  clear hy
  have hfm:f ∈ fcs s:=by rw [hfe]; exact aH hlt
  have hfD:f ∉ D:=fun h=>by
   rw [hDe] at h
   have hnd:=um p3
   have e:=b6 hlt
   have h5:=(List.nodup_append.1 (by rw [← e]; exact hnd.sublist (List.take_sublist _ _):((fcs s).take D.length ++ [(fcs s).getD D.length default]).Nodup)).2.2 _ h _ (List.mem_singleton.2 rfl)
   exact h5 hfe
  have hfs:=iw.1 (sU.1 hfm)
  have hfn:Shn f:=by show _ ≤ _; omega
  clear hfe hDe hlt hfm
  (have zz:=and_self; repeat' (first|apply a_n|refine zO ?_|refine vY ?_|fail)) <;> (try clear zz)
  refine ⟨j3,?_⟩
  have hd:∀ x,x ≠ nx + 2→bO H' (nx + 2) x=H' x:=fun x hx=>bU hx
  generalize bO H' (nx + 2)=H2 at *
  have q2:=(hd 2 (by omega)).trans j6
  have q3:=(hd 3 (by omega)).trans j8.box
  have q4:=(hd 4 (by omega)).trans j7
  have qk:=(hd nx (by omega)).trans j4
  obtain ⟨p,hpl,hpm⟩:=qq Y f (show _ ≤ _ by omega) hYm hfn hYa
  by_cases hin:f ∈ Y
  rotate_left
  ·rw [decide_eq_false hin] at hpl
   (have zz:=aI @q2 (aI @ao @ai); repeat' (first|refine zW ?_|apply a_n|refine zO ?_|refine vY ?_|refine cY ?_ (hp:=hpl) (hs:=by (first | refine ab ?_ rfl | apply ae); (repeat' (first | exact aa | apply am | apply af | exact aA _ | exact ax _)); first | done | fail)|refine cFY ?_|fail)) <;> (try clear zz)
   refine ⟨rfl,j1,(ag (by omega)).trans ((hd _ (by omega)).trans j2),ah,(ag (by omega)).trans qk,(ag (by omega)).trans ((hd _ (by omega)).trans j5),(ag (by omega)).trans q2,(ag (by omega)).trans q4,vs,j8.same ((ag (by omega)).trans (hd _ (by omega))) (fun x x1 x2 x3=>?_) (Nat.le_refl _) (fun j hj=>?_),j9⟩
   ·by_cases e:x=nx + 2
    ·rw [e,ah,j3]
    ·rw [ag e,hd x e]
   ·have hne:Y.getD j default ≠ f:=fun e=>hin (by rw [← e]; exact aH hj)
    congr 1
    exact rO (by rw [List.mem_append,List.mem_singleton]; exact ⟨fun h=>h.resolve_right hne,.inl⟩)
  rw [decide_eq_true hin] at hpl
  obtain ⟨pl1,pl2⟩:=hpm hin
  have hFD:eV X Y k p ++ (if Y.getD p default ∈ D then [k] else [])=eV X Y k p:=by rw [pl2,if_neg hfD,List.append_nil]
  have hrow:Row H2 1 (vs.getD p .undef) ((eV X Y k p).map l5):=by
   have:=j8.row p pl1
   rw [hFD] at this
   exact this.same fun b hb=>hd b (by have:=j9 p b pl1 hb; omega)
  have hvs:vs[p]?=some (vs.getD p .undef):=by
   have:=j8.len
   simp [List.getD,show p < vs.length by omega]
  have hlen:=j8.len
  have hb3:∀ b,bH (vs.getD p .undef)=some b→5 ≤ b∧b < nx'∧b ≠ 3∧(b < nx ∨ nx + 3 ≤ b):=fun b hb=>by
   have h5:=j8.bnd p b pl1 hb
   have h6:=j9 p b pl1 hb
   exact ⟨h5.1,h5.2.1,h5.2.2,h6⟩
  generalize hrv:vs.getD p .undef=rv at *
  (have zz:=aI @q2 (aI @ao @ai); repeat' (first|refine zW ?_|apply a_n|refine zO ?_|refine vY ?_|refine cY ?_ (hp:=hpl) (hs:=by (first | refine ab ?_ rfl | apply ae); (repeat' (first | exact aa | apply am | apply af | exact aA _ | exact ax _)); first | done | fail)|refine cTY ?_|fail)) <;> (try clear zz)
  refine yF 4 3 nx q4 q3 qk (by omega) (by omega) (by omega) fun S0 hS1 hS2 hS3 hsub=>?_
  have hFl:=lD (X:=X) (Y:=Y) (n:=k) (i:=p)
  (have zz:=aI @hS1 (aI @hS2 (aI @hS3 (aI @hvs @hlen))); repeat' (first|apply a_n|refine zO ?_|refine nvY ?_|fail)) <;> (try clear zz)
  refine gn ?_
  (have zz:=and_self; repeat' (first|apply a_n|refine zO ?_|refine blY ?_|fail)) <;> (try clear zz)
  refine ⟨hsub _ (by rw [ag (by omega)]; exact q4) (by rw [ag (by omega)]; exact q3) (by rw [ag (by omega)]; exact qk),?_⟩
  refine gn ?_
  refine dC rfl ev0 (hrow.same fun b hb=>?_) ev0 bF rfl rfl Nat.one_pos (by rw [List.length_map]; omega) (by rw [List.length_map]; omega) ?_
  ·have:=hb3 b hb; rw [ag (by omega)]
  rintro s2 H4 nx4 hr2 i1 i2 i3 i4
  have lo:∀ x,x < nx'→bH rv ≠ some x→H4 x=H2 x:=fun x x1 x2=>(i3 x (by omega) x2).trans (ag (by omega))
  have l3:H4 3=H2 3:=lo 3 (by omega) (fun h=>by have:=hb3 _ h; omega)
  have l4:H4 4=H2 4:=lo 4 (by omega) (fun h=>by have:=hb3 _ h; omega)
  have lk:H4 nx=H2 nx:=lo nx (by omega) (fun h=>by have:=hb3 _ h; omega)
  have lo2:∀ x,x < nx + 3→5 ≤ x→nx ≤ x→H4 x=H2 x:=fun x x1 x2 x3=>lo x (by omega) (fun h=>by have:=hb3 _ h; omega)
  have lo5:∀ x,x < 5→H4 x=H2 x:=fun x x1=>lo x (by omega) (fun h=>by have:=hb3 _ h; omega)
  obtain ⟨o1,o2⟩:=hr2.one
  have m3:=l3.trans q3
  refine my ⟨hsub _ (l4.trans q4) m3 (lk.trans qk),?_⟩
  have hlp:bl vs p [s2]=vs.set p s2:=by
   simp only [bl,List.length_cons,List.length_nil,Nat.zero_add]
   rw [List.set_eq_take_append_cons_drop,if_pos (by omega)]; simp
  (have zz:=aI @m3 (aI @o1 (aI @o2 (aI @hlen @hlp))); repeat' (first|apply a_n|refine zO ?_|refine nvY ?_|apply ia|refine stY ?_|fail)) <;> (try clear zz)
  have hB2:∀ b,bH s2=some b→(bH rv=some b ∨ nx' ≤ b)∧b < nx4:=fun b hb=>by
   rcases i4 b hb with h | h
   ·exact ⟨.inl h,by have:=hb3 b h; omega⟩
   ·exact ⟨.inr (by omega),by omega⟩
  have hwd:∀ x,x ≠ 3→x ≠ nx + 2→ar (ar H4 3 (vs.set p s2)) (nx + 2) [c0] x=H4 x:=fun x x1 x2=>by rw [ag x2,ag x1]
  rw [hlp]
  refine ⟨rfl,by omega,?_,ah,?_,?_,?_,?_,vs.set p s2,?_,?_⟩
  ·rw [hwd _ (by omega) (by omega),lo2 _ (by omega) (by omega) (by omega),hd _ (by omega)]; exact j2
  ·rw [hwd _ (by omega) (by omega),lk]; exact qk
  ·rw [hwd _ (by omega) (by omega),lo5 _ (by omega),hd _ (by omega)]; exact j5
  ·rw [hwd _ (by omega) (by omega),lo5 _ (by omega)]; exact q2
  ·rw [hwd _ (by omega) (by omega),l4]; exact q4
  ·refine j8.put (sv:=s2) (x:=k) (i:=p) pl1 (fun j hj=>?_) ?_ (fun b hb=>?_) (by rw [ag (by omega),ah]) (fun x x1 x2 x3 x4=>?_) (by omega) (by omega)
   ·by_cases e:j=p
    ·subst e
     rw [if_pos rfl,pl2,if_neg hfD,if_pos (List.mem_append_right _ (List.mem_singleton.2 rfl)),List.append_nil]
    ·rw [if_neg e]
     have hne:Y.getD j default ≠ f:=fun h=>e (by
      rcases Nat.lt_trichotomy j p with h' | h' | h'
      ·have:=cA hYa h' pl1
       rw [h,pl2,dK] at this; omega
      ·exact h'
      ·have:=cA hYa h' hj
       rw [h,pl2,dK] at this; omega)
     congr 1
     exact rO (by rw [List.mem_append,List.mem_singleton]; exact ⟨fun h=>h.resolve_right hne,.inl⟩)
   ·rw [hFD,List.map_append]
    refine hr2.same fun b hb=>hwd b ?_ ?_
    ·have:=hB2 b hb
     rcases this.1 with h | h
     ·have:=hb3 b h; omega
     ·omega
    ·have:=hB2 b hb
     rcases this.1 with h | h
     ·have:=hb3 b h; omega
     ·omega
   ·rw [hrv]
    have:=hB2 b hb
    rcases this.1 with h | h
    ·exact .inl h
    ·exact .inr ⟨h,this.2,by omega⟩
   ·rw [hrv] at x4
    by_cases e:x=nx + 2
    ·rw [e,ah,j3]
    ·rw [hwd x x3 e,lo x x2 x4,hd x e]
  ·intro j B hj hB
   rw [kg (by omega)] at hB
   by_cases e:p=j
   ·rw [if_pos e] at hB
    have:=hB2 B hB
    rcases this.1 with h | h
    ·have:=hb3 B h; omega
    ·omega
   ·rw [if_neg e] at hB
    exact j9 j B hj hB
 ·have hlk:bl [AV.int .i64 0] 0 [.int .i64 (k:Int)]=[.int .i64 (k:Int)]:=rfl
  have hw:∀ x,x ≠ nx→x ≠ nx + 1→x ≠ nx + 2→ar (ar (ar (ar H nx [.int .i64 0]) nx (bl [.int .i64 0] 0 [.int .i64 (k:Int)])) (nx + 1) [au s]) (nx + 2) [c0] x=H x:=fun x x1 x2 x3=>by rw [ag x3,ag x2,ag x1,ag x1]
  refine ⟨Nat.le_refl _,by rw [ag (by omega),ah],ah,by rw [ag (by omega),ag (by omega),ah]; rfl,(hw _ (by omega) (by omega) (by omega)).trans g1,(hw _ (by omega) (by omega) (by omega)).trans g2,(hw _ (by omega) (by omega) (by omega)).trans g4,vs,hmat.same (hw _ (by omega) (by omega) (by omega)) (fun x x1 x2 x3=>hw x (by omega) (by omega) (by omega)) (by omega) (fun j _=>by simp),fun j B hj hB=>by have:=hmat.bnd j B hj hB; omega⟩
 ·rintro r H' nx' ⟨j1,j2,j3,j4,j5,j6,j7,vs2,j8,j9⟩
  refine .inl ⟨j3,?_⟩
  (have zz:=and_self; repeat' (first|apply a_n|refine zO ?_|refine vY ?_|fail)) <;> (try clear zz)
  refine ⟨(k + 1,vs2),by dsimp only; omega,⟨by dsimp only; omega,by omega,(bU (by omega)).trans j5,(bU (by omega)).trans j6,(bU (by omega)).trans j7,?_⟩,ag0⟩
  dsimp only
  have hrows:∀ j,j < Y.length→eV X Y (k + 1) j=eV X Y k j ++ if Y.getD j default ∈ fcs s then [k] else []:=fun j _=>by
   rw [hF]; congr 1; exact rO sU.symm
  exact ⟨(bU (by omega)).trans j8.box,j8.len,fun j hj=>by rw [hrows j hj]; exact (j8.row j hj).same fun b hb=>bU (by have:=j9 j b hj hb; omega),fun j B hj hB=>by have:=j8.bnd j B hj hB; exact this,j8.apart⟩
end Go.Proofs.Ytfcenbapjhecfaa
namespace Go.Proofs.Ytfcenbapjhecfaa
open Go Go.Abs
def rS (L a:List Spx):List Nat:=a.map fun s=>L.idxOf s
abbrev kX (a:List Spx):Nat:=(a.getD 0 default).length
def wR (c a:List Spx):List Int × Int:=if a8 c ≠ 0 then ([],a8 c) else if cu a ≠ 0 then ([],cu a) else if a=[] then ([],0) else if (a.all fun s=>decide (s ∈ bD c (kX a)))=true then (d3 (rS (bD c (kX a)) a),0) else ([],6)
theorem qf {l:List Nat} {n:Nat}:d3 (l ++ [n])=d3 l ++ [(n:Int)]:=by unfold d3; rw [List.map_append]; rfl
theorem ut {L a:List Spx} {k:Nat} (h:k < a.length):rS L (a.take (k + 1))=rS L (a.take k) ++ [L.idxOf (a.getD k default)]:=by
 unfold rS; rw [b6 h,List.map_append]; rfl
theorem wL {l:List Spx} (hn:l.Nodup) {v:Spx} {k:Nat} (hk:k < l.length) (hv:l.getD k default=v):l.idxOf v=k:=by
 have hm:v ∈ l:=by rw [← hv]; exact aH hk
 have h1:=List.idxOf_lt_length_iff.2 hm
 have h2:l[l.idxOf v]=v:=List.getElem_idxOf h1
 have h3:l[k]=v:=by simpa [List.getD,hk] using hv
 exact (List.getElem_inj hn).1 (h2.trans h3.symm)
theorem md {H:Hp} {s:AV} {l:List Int} {e f:Int} (h:Snap H s (bq l)) (he:e=f):Snap H (.tup [s,.int .i64 e]) (.tup [bq l,.int .i64 f]):=by
 subst he; exact d7 (an h (an (.int _ _) aa))
attribute [local irreducible] aD aj aX aP aG aL az aM aR bd Go.Abs.Fn aO Go.Abs.Pure aw aF Yl
theorem ya (c a:List Spx) (hc:c.length ≤ 50) (hs:∀ s ∈ c,Shn s) (ha:ShC a):Pure Try.prog 25 [d9 c,aq a] (.tup [bq (wR c a).1,.int .i64 (wR c a).2]):=by
 refine Pure.of_c2 follows AO (Nat.le_of_ble_eq_true rfl) ?_
 simp only [b25,cO,cG,cN,cM,cD,cF,cB,aB,aQ]
 have hcc:=mU c (show _ ≤ _ by omega) hs
 have hca:=ju a ha
 have z0:decide ((0:Int) ≠ 0)=false:=rfl
 unfold wR
 by_cases he:a8 c=0
 rotate_left
 ·rw [if_pos he]
  have z:decide (a8 c ≠ 0)=true:=decide_eq_true he
  (have zz:=aI @ao (aI @ai @z); repeat' (first|refine zW ?_|apply a_n|apply a_r|refine zO ?_|refine vY ?_|refine cY ?_ (hp:=hcc) (hs:=by (first | refine ab ?_ rfl | apply ae); (repeat' (first | exact aa | apply am | apply af | exact bf _)); first | done | fail)|refine bxY ?_|refine cTY ?_|refine ak rfl ?_|refine r2Y ?_|fail)) <;> (try clear zz)
  exact md (.eslsl _) rfl
 rw [if_neg (fun h=>h he)]
 rw [he] at hcc
 by_cases h2:cu a=0
 rotate_left
 ·rw [if_pos h2]
  have z:decide (cu a ≠ 0)=true:=decide_eq_true h2
  (have zz:=aI @ao (aI @ai (aI @z @z0)); repeat' (first|refine zW ?_|apply a_n|apply a_r|refine zO ?_|refine vY ?_|refine cY ?_ (hp:=by first | exact hcc | exact hca) (hs:=by (first | refine ab ?_ rfl | apply ae); (repeat' (first | exact aa | apply am | apply af | exact bf _ | exact aA _)); first | done | fail)|refine bxY ?_|refine cTY ?_|refine cFY ?_|refine ak rfl ?_|refine r2Y ?_|fail)) <;> (try clear zz)
  exact md (.eslsl _) rfl
 rw [if_neg (fun h=>h h2)]
 rw [h2] at hca
 by_cases h3:a=[]
 ·rw [if_pos h3]
  subst h3
  have al:bE (aq [])=some (.int .i64 0):=rfl
  (have zz:=aI @ao (aI @ai (aI @al @z0)); repeat' (first|refine zW ?_|apply a_n|apply a_r|refine zO ?_|refine vY ?_|refine cY ?_ (hp:=by first | exact hcc | exact hca) (hs:=by (first | refine ab ?_ rfl | apply ae); (repeat' (first | exact aa | apply am | apply af | exact bf _ | exact aA _)); first | done | fail)|refine bxY ?_|refine cFY ?_|(refine zGY ?_ ?_ <;> (intro _hg; try (exfalso; omega)))|refine ak rfl ?_|refine r2Y ?_|fail)) <;> (try clear zz)
  exact md (.eslsl _) rfl
 rw [if_neg h3]
 have hpos:=List.length_pos_iff.2 h3
 have z3:decide ((a.length:Int)=0)=false:=decide_eq_false (by omega)
 obtain ⟨p1,p2,p3,p4⟩:=eS h2
 have p5:=cr (p2 _ (aH hpos))
 have i0:=r6 hpos
 have hS:=jb c (kX a) hc hs
 unfold bR at hS
 rw [if_neg (fun h=>h he),if_neg (by unfold kX; omega),Int.toNat_natCast] at hS
 have eL:fK c (kX a)=bD c (kX a):=by unfold bD; rw [if_neg (by unfold kX; omega),Int.toNat_natCast]
 rw [eL] at hS
 have hLs:=gm (eU (d:=(kX a:Nat)) he)
 have hLl:=dN (d:=(kX a:Nat)) hc he
 have hLa:=n8 (c:=c) (d:=(kX a:Nat))
 generalize bD c (kX a)=L at *
 unfold kX at hS
 (have zz:=aI @ao (aI @ai (aI @ac (aI @ap (aI @i0 (aI @z0 @z3))))); repeat' (first|refine zW ?_|refine zM ?_|apply a_n|refine zO ?_|refine vY ?_|refine cY ?_ (hp:=by first | exact hcc | exact hca | exact hS) (hs:=by (first | refine ab ?_ rfl | apply ae); (repeat' (first | exact aa | apply am | apply af | exact bf _ | exact aA _)); first | done | fail)|refine bxY ?_|refine cFY ?_|fail)) <;> (try clear zz)
 refine bb (X:=AV × Nat) (fun x=>[(8,aq L),(10,x.1),(40,aq a),(41,.int .i64 a.length),(42,.int .i64 x.2)]) (fun x H nx=>x.2 ≤ a.length∧(∀ i,i < x.2→decide (a.getD i default ∈ L)=true)∧Row H 1 x.1 ((d3 (rS L (a.take x.2))).map (AV.int .i64))∧∀ b,bH x.1=some b→b < nx) (fun x=>a.length - x.2) (.esl,0) ⟨Nat.zero_le _,fun i h=>absurd h (by omega),Row.nil,fun b hb=>(by cases hb)⟩ ag0 ?_
 rintro ⟨sv,k⟩ H nx ⟨k1,k2,k3,k4⟩
 dsimp only at k1 k2 k3 k4 ⊢
 by_cases hk:k < a.length
 rotate_left
 ·rw [List.take_of_length_le (by omega)] at k3
  rw [if_pos (i8 fun i hi=>k2 i (by omega))]
  (have zz:=and_self; repeat' (first|refine zW ?_|apply a_n|apply a_x|refine zO ?_|refine vY ?_|(refine zGY ?_ ?_ <;> (intro _hg; try (exfalso; omega)))|refine ak rfl ?_|refine r2Y ?_|fail)) <;> (try clear zz)
  exact md k3.snapI rfl
 have ix:=cT hk
 have hsx:=ha.2 _ (aH hk)
 obtain ⟨p,hpl,hpm⟩:=qq L (a.getD k default) (show _ ≤ _ by omega) hLs hsx hLa
 by_cases hin:a.getD k default ∈ L
 rotate_left
 ·rw [decide_eq_false hin] at hpl
  have hall:¬ (a.all fun s=>decide (s ∈ L))=true:=by
   rw [gS hk (decide_eq_false hin)]; decide
  rw [if_neg hall]
  (have zz:=@ix; repeat' (first|refine zW ?_|apply a_n|apply a_r|refine zO ?_|refine vY ?_|refine cY ?_ (hp:=hpl) (hs:=by (first | refine ab ?_ rfl | apply ae); (repeat' (first | exact aa | apply am | apply af | exact aA _ | exact ax _)); first | done | fail)|refine cTY ?_|(refine zGY ?_ ?_ <;> (intro _hg; try (exfalso; omega)))|refine ak rfl ?_|refine r2Y ?_|fail)) <;> (try clear zz)
  exact md (.eslsl _) rfl
 rw [decide_eq_true hin] at hpl
 obtain ⟨p1',p2'⟩:=hpm hin
 have hidx:=wL (hLa.nodup gH) p1' p2'
 have hpt:=ut (L:=L) hk
 rw [hidx] at hpt
 have hnl:(d3 (rS L (a.take k))).length=k:=by unfold d3 rS; rw [List.length_map,List.length_map,List.length_take]; omega
 (have zz:=@ix; repeat' (first|refine zW ?_|apply a_n|refine zO ?_|refine vY ?_|refine cY ?_ (hp:=hpl) (hs:=by (first | refine ab ?_ rfl | apply ae); (repeat' (first | exact aa | apply am | apply af | exact aA _ | exact ax _)); first | done | fail)|refine blY ?_|refine cFY ?_|(refine zGY ?_ ?_ <;> (intro _hg; try (exfalso; omega)))|fail)) <;> (try clear zz)
 refine dC rfl ev0 (k3.same fun b hb=>?_) ev0 bF rfl rfl Nat.one_pos (by rw [List.length_map]; omega) (by rw [List.length_map]; omega) ?_
 ·have:=k4 b hb; rw [ag (by omega)]
 rintro s2 E e hrow hle1 hle2 hsame hb2
 (have zz:=and_self; repeat' (first|apply a_n|refine zO ?_|refine vY ?_|fail)) <;> (try clear zz)
 refine ⟨(s2,k + 1),by dsimp only; omega,⟨by dsimp only; omega,fun i hi=>?_,?_,fun b hb=>?_⟩,ag0⟩
 ·rcases Nat.lt_succ_iff_lt_or_eq.1 hi with h' | rfl
  ·exact k2 i h'
  ·exact decide_eq_true hin
 ·dsimp only
  rw [hpt,qf,List.map_append]; exact hrow
 ·rcases hb2 b hb with h | h
  ·have:=k4 b h; omega
  ·omega
end Go.Proofs.Ytfcenbapjhecfaa
namespace Go.Proofs.Ytfcenbapjhecfaa
open Go Go.Abs
theorem pg {H:Hp} {t x:AV} {cs:List AV} {l:List Nat} (hrow:Row H 1 t (cs ++ [x])) (hx:Row H 1 x (l.map l5)) (hne:∀ b,bH x=some b→bH t ≠ some b):∃ Hf H',Fz Hf H H'∧Row H' 1 t (cs ++ [bq (d3 l)])∧∀ y,bH x ≠ some y→bH t ≠ some y→H' y=H y:=by
 generalize hds:l.map l5=ds at hx
 cases hx with
 | nil =>
  have hl:l=[]:=List.map_eq_nil_iff.1 hds
  generalize hcs:cs ++ [AV.esl]=es at hrow
  cases hrow with
  | nil=>exact absurd (congrArg List.length hcs) (by simp)
  | box b len es g1 g2 =>
   refine ⟨be,ar H b (cs ++ [bq (d3 l)]),⟨fun y d h=>(by cases h),fun y d h=>?_⟩,Row.box b len _ ah (by rw [← g2,← hcs]; simp),fun y h1 h2=>?_⟩
   ·by_cases e:y=b
    ·subst e
     rw [ah] at h; cases h
     exact ⟨es,g1,rfl,by rw [← hcs]; exact dF.snoc (by rw [hl]; exact .eslsl 1)⟩
    ·rw [ag e] at h
     exact ⟨d,h,rfl,dF.refl _ _⟩
   ·rw [ag (fun e=>h2 (by rw [e]; rfl))]
 | box b len ds g1 g2 =>
  obtain ⟨H',h1,h2,h3⟩:=kw (x':=bq (d3 l)) hrow g1 (sB (by rw [hds]; exact Row.box b len ds gX g2)) (hne b rfl)
  exact ⟨_,H',h1,h2,fun y y1 y2=>h3 y (fun e=>y1 (by rw [e]; rfl)) y2⟩
attribute [local irreducible] aD aj aX aP aG aL az aM aR bd Go.Abs.Fn aO Go.Abs.Pure aw aF Yl
theorem t7 (x y:List Int) (hx:x.length ≤ 1000000000) (hy:y.length ≤ 1000000000):Pure Try.prog 55 [bq x,bq y] (.bool (decide (x=y))):=by
 refine Pure.of_c2 follows Ay (Nat.le_of_ble_eq_true rfl) ?_
 simp only [b55,cO,cG,cN,cM,cD,cF,cB,aB,aQ]
 by_cases hl:x.length=y.length
 rotate_left
 ·have z:decide ((x.length:Int) ≠ y.length)=true:=decide_eq_true (by omega)
  (have zz:=@z; repeat' (first|refine zW ?_|apply a_n|apply a_r|refine zO ?_|refine vZ ?_|refine cTZ ?_|refine ak rfl ?_|refine r1Z ?_|fail)) <;> (try clear zz)
  exact bm (by symm; rw [decide_eq_false_iff_not]; rintro rfl; exact hl rfl)
 have z:decide ((x.length:Int) ≠ y.length)=false:=decide_eq_false (by omega)
 (have zz:=@z; repeat' (first|refine zW ?_|apply a_n|refine zO ?_|refine vZ ?_|refine cFZ ?_|fail)) <;> (try clear zz)
 refine mM (X:=Nat) (fun k=>[(0,bq x),(1,bq y),(5,.int .i64 k)]) (fun k=>k ≤ x.length∧∀ i,i < k→x.getD i default=y.getD i default) (fun k=>x.length - k) 0 ⟨Nat.zero_le _,fun i h=>absurd h (by omega)⟩ ag0 ?_
 rintro k ⟨h1,h2⟩
 by_cases hk:k < x.length
 rotate_left
 ·(have zz:=and_self; repeat' (first|refine zW ?_|apply a_n|apply a_x|refine zO ?_|refine vZ ?_|(refine zGZ ?_ ?_ <;> (intro _hg; try (exfalso; omega)))|refine ak rfl ?_|refine r1Z ?_|fail)) <;> (try clear zz)
  refine bm ?_
  symm
  rw [decide_eq_true_eq]
  refine List.ext_getElem hl fun i a b=>?_
  have:=h2 i (by omega)
  simpa [List.getD,a,b] using this
 by_cases he:x.getD k default=y.getD k default
 ·have z2:decide (x.getD k default ≠ y.getD k default)=false:=decide_eq_false (fun h=>h he)
  (have zz:=@z2; repeat' (first|refine zW ?_|apply a_n|refine zO ?_|refine vZ ?_|refine cFZ ?_|(refine zGZ ?_ ?_ <;> (intro _hg; try (exfalso; omega)))|fail)) <;> (try clear zz)
  exact ⟨k + 1,⟨by omega,fun i hi=>by
   rcases Nat.lt_succ_iff_lt_or_eq.1 hi with h' | rfl
   ·exact h2 i h'
   ·exact he⟩,by omega,ag0,rfl,rfl⟩
 ·have z2:decide (x.getD k default ≠ y.getD k default)=true:=decide_eq_true he
  (have zz:=@z2; repeat' (first|refine zW ?_|apply a_n|apply a_r|refine zO ?_|refine vZ ?_|refine cTZ ?_|(refine zGZ ?_ ?_ <;> (intro _hg; try (exfalso; omega)))|refine ak rfl ?_|refine r1Z ?_|fail)) <;> (try clear zz)
  exact bm (by symm; rw [decide_eq_false_iff_not]; rintro rfl; exact he rfl)
theorem jG (c:Int) (x:List (List Int)) (hx:x.length ≤ 1000000) (hxs:∀ r ∈ x,r.length ≤ 1000000):Pure Try.prog 24 [fl c x,fl c x] (.bool true):=by
 refine Pure.of_c2 follows Bg (Nat.le_of_ble_eq_true rfl) ?_
 simp only [b24,cO,cG,cN,cM,cD,cF,cB,aB,aQ]
 unfold fl
 have z1:decide (c ≠ c)=false:=by simp
 have z2:decide ((x.length:Int) ≠ x.length)=false:=by simp
 (have zz:=aI @z1 @z2; repeat' (first|refine zW ?_|apply a_n|refine zO ?_|refine vY ?_|refine bxY ?_|refine gTY ?_|refine cFY ?_|fail)) <;> (try clear zz)
 refine bb (X:=Nat) (fun k=>[(2,.ptr 0 2 0),(3,.ptr 1 2 0),(5,.int .i64 k)]) (fun k H nx=>k ≤ x.length∧H 0=some [.int .i64 c,cC x]∧H 1=some [.int .i64 c,cC x]) (fun k=>x.length - k) 0 ⟨Nat.zero_le _,by rw [ag (by omega),ah],ah⟩ (by (iterate 3 refine And.intro rfl ?_); trivial) ?_
 rintro k H nx ⟨h1,g0,g1⟩
 by_cases hk:k < x.length
 rotate_left
 ·(have zz:=aI @g0 @g1; repeat' (first|refine zW ?_|apply a_n|apply a_x|refine zO ?_|refine vY ?_|(refine zGY ?_ ?_ <;> (intro _hg; try (exfalso; omega)))|refine ak rfl ?_|refine r1Y ?_|fail)) <;> (try clear zz)
  exact .bool _
 have hs:=t7 (x.getD k default) (x.getD k default) (by have:=hxs _ (aH hk); omega) (by have:=hxs _ (aH hk); omega)
 rw [decide_eq_true rfl] at hs
 (have zz:=aI @g0 @g1; repeat' (first|refine zW ?_|refine zM ?_|apply a_n|refine zO ?_|refine vY ?_|refine cY ?_ (hp:=hs) (hs:=by (first | refine ab ?_ rfl | apply ae); (repeat' (first | exact aa | apply am | apply af | exact eP _)); first | done | fail)|refine cFY ?_|(refine zGY ?_ ?_ <;> (intro _hg; try (exfalso; omega)))|fail)) <;> (try clear zz)
 exact ⟨k + 1,by omega,⟨by omega,g0,g1⟩,ag0⟩
end Go.Proofs.Ytfcenbapjhecfaa
namespace Go.Proofs.Ytfcenbapjhecfaa
open Go Go.Abs
attribute [local irreducible] aD aj aX aP aG aL az aM aR bd Go.Abs.Fn aO Go.Abs.Pure aw aF Yl
set_option maxHeartbeats 2000000 in
theorem tO (X Y:List Spx) (hXl:X.length ≤ 4000) (hYl:Y.length ≤ 4000) (hX:∀ s ∈ X,Shn s) (hY:∀ s ∈ Y,Shn s) (hin:∀ i k,i < Y.length→k < X.length→cf (Y.getD i default) (X.getD k default)=decide (Y.getD i default ∈ bw (X.getD k default))):Pure Try.prog 54 [aq X,aq Y] (fl X.length (pi X Y)):=by
 refine Pure.of_c2 follows AU (Nat.le_of_ble_eq_true rfl) ?_
 simp only [b54,cO,cG,cN,cM,cD,cF,cB,aB,aQ]
 (have zz:=@ac; repeat' (first|refine zW ?_|apply a_n|refine zO ?_|refine vY ?_|refine alY ?_|refine stY ?_|fail)) <;> (try clear zz)
 refine vJ (X:=Nat × AV) (fun x=>[(0,aq X),(1,aq Y),(4,.ptr 0 2 0),(5,.ptr 1 2 0),(6,.int .i64 x.1)]) (fun x H nx=>x.1 ≤ Y.length∧2 ≤ nx∧H 0=some [.int .i64 0,.esl]∧H 1=some [.int .i64 X.length,x.2]∧Row H 1 x.2 ((List.range x.1).map fun j=>bq (d3 (eV X Y X.length j)))∧∀ b,bH x.2=some b→2 ≤ b∧b < nx) (fun x=>Y.length - x.1) (0,.esl) ⟨be,_,Fz.none,⟨Nat.zero_le _,Nat.le_refl _,by (repeat rw [ag (by omega)]); rw [ah],by rw [ah]; rfl,Row.nil,fun b h=>(by cases h)⟩,.inl rfl,.inl rfl,.inl rfl,.inl rfl,.inl rfl,trivial⟩ ?_
 rintro ⟨i,sv⟩ H nx ⟨h1,h2,g0,g1,hrow,hbd⟩
 dsimp only at h1 g1 hrow hbd ⊢
 obtain ⟨o1,o2⟩:=hrow.one
 by_cases hi:i < Y.length
 rotate_left
 ·obtain rfl:i=Y.length:=by omega
  (have zz:=aI @ac (aI @g0 (aI @g1 (aI @o1 @o2))); repeat' (first|refine zW ?_|apply a_n|apply a_x|refine zO ?_|refine vY ?_|refine stY ?_|(refine zGY ?_ ?_ <;> (intro _hg; try (exfalso; omega)))|refine ak rfl ?_|refine r1Y ?_|fail)) <;> (try clear zz)
  have hr2:Row (ar H 0 [.int .i64 X.length,sv]) 1 sv ((pi X Y).map bq):=by
   unfold pi
   rw [List.map_map]
   exact hrow.same fun b hb=>ag (by have:=hbd b hb; omega)
  exact jx (an (.int _ _) (an hr2.snapV aa))
 have iy:=cT hi
 have hYi:=hY _ (aH hi)
 have hF:∀ k,eV X Y (k + 1) i=eV X Y k i ++ if Y.getD i default ∈ bw (X.getD k default) then [k] else []:=fun k=>nV
 have hini:=fun k hk=>hin i k hi hk
 generalize Y.getD i default=t at *
 (have zz:=@ac; repeat' (first|refine zW ?_|apply a_n|refine zO ?_|refine vY ?_|(refine zGY ?_ ?_ <;> (intro _hg; try (exfalso; omega)))|fail)) <;> (try clear zz)
 refine bb (X:=Nat × AV) (fun x=>[(0,aq X),(1,aq Y),(4,.ptr 0 2 0),(5,.ptr 1 2 0),(6,.int .i64 i),(7,x.2),(8,.int .i64 x.1)]) (fun x H' nx'=>x.1 ≤ X.length∧nx ≤ nx'∧(∀ y,y < nx→H' y=H y)∧Row H' 1 x.2 ((eV X Y x.1 i).map l5)∧∀ b,bH x.2=some b→nx ≤ b∧b < nx') (fun x=>X.length - x.1) (0,.esl) ⟨Nat.zero_le _,Nat.le_refl _,fun _ _=>rfl,Row.nil,fun b h=>(by cases h)⟩ ag0 ?_
 rintro ⟨k,rv⟩ H' nx' ⟨k1,k2,k3,krow,kbd⟩
 dsimp only at k1 krow kbd ⊢
 obtain ⟨o3,o4⟩:=krow.one
 have g1':H' 1=some [.int .i64 X.length,sv]:=(k3 1 (by omega)).trans g1
 have g0':H' 0=some [.int .i64 0,.esl]:=(k3 0 (by omega)).trans g0
 by_cases hk:k < X.length
 rotate_left
 ·obtain rfl:k=X.length:=by omega
  have hr1:Row H' 1 sv ((List.range i).map fun j=>bq (d3 (eV X Y X.length j))):=hrow.same fun b hb=>k3 b (by have:=hbd b hb; omega)
  (have zz:=aI @ac (aI @g1' (aI @o3 @o4)); repeat' (first|refine zW ?_|apply a_n|apply a_x|refine zO ?_|refine vY ?_|refine blY ?_|(refine zGY ?_ ?_ <;> (intro _hg; try (exfalso; omega)))|fail)) <;> (try clear zz)
  refine dC rfl ev0 (hr1.same fun b hb=>?_) ev0 bF (by simp [AV.ones,o3]) rfl Nat.one_pos (by simp; omega) (by simp; omega) ?_
  ·have:=hbd b hb; rw [ag (by omega)]
  rintro s2 H2 nx2 hr2 i1 i2 i3 i4
  have lo:∀ x,x < nx'→bH sv ≠ some x→H2 x=H' x:=fun x x1 x2=>(i3 x (by omega) x2).trans (ag (by omega))
  have l4:∀ x,x < 2→H2 x=H' x:=fun x x1=>lo x (by omega) (fun h=>by have:=hbd _ h; omega)
  have g42:H2 1=some [.int .i64 X.length,sv]:=(l4 1 (by omega)).trans g1'
  obtain ⟨o5,o6⟩:=hr2.one
  have kr2:Row H2 1 rv ((eV X Y X.length i).map l5):=krow.same fun b hb=>lo b (by have:=kbd b hb; omega) (fun h=>by have:=hbd b h; have:=kbd b hb; omega)
  have hb2:∀ b,bH s2=some b→2 ≤ b∧b < nx2∧bH rv ≠ some b:=fun b hb=>by
   rcases i4 b hb with h | h
   ·have:=hbd b h
    exact ⟨by omega,by omega,fun e=>by have:=kbd b e; omega⟩
   ·exact ⟨by omega,by omega,fun e=>by have:=kbd b e; omega⟩
  (have zz:=aI @g42 (aI @o5 @o6); repeat' (first|apply a_n|refine zO ?_|refine vY ?_|refine stY ?_|fail)) <;> (try clear zz)
  obtain ⟨Hf,H5,hfz,hr5,hs5⟩:=pg (H:=ar H2 1 (bl [.int .i64 X.length,sv] 1 [s2])) (hr2.same fun b hb=>ag (by have:=hb2 b hb; omega)) (kr2.same fun b hb=>ag (by have:=kbd b hb; omega)) (fun b hb e=>(hb2 b e).2.2 hb)
  have hlow:∀ x,x < 2→H5 x=ar H2 1 (bl [.int .i64 X.length,sv] 1 [s2]) x:=fun x hx=>hs5 x (fun e=>by have:=kbd x e; omega) (fun e=>by have:=hb2 x e; omega)
  refine ⟨(i + 1,s2),by dsimp only; omega,Hf,H5,hfz,⟨by dsimp only; omega,by omega,?_,?_,?_,fun b hb=>?_⟩,gM ag0⟩
  ·rw [hlow 0 (by omega),ag (by omega),l4 0 (by omega)]; exact g0'
  ·rw [hlow 1 (by omega),ah]; rfl
  ·dsimp only
   rw [List.range_succ,List.map_append]; exact hr5
  ·have:=hb2 b hb; omega
 have ix:=cT hk
 have hXk:=hX _ (aH hk)
 have hinc:=pB t (X.getD k default) hYi hXk
 rw [hini k hk] at hinc
 have hFk:=hF k
 have hFl:=lD (X:=X) (Y:=Y) (n:=k) (i:=i)
 generalize X.getD k default=s at *
 by_cases he2:t ∈ bw s
 ·rw [decide_eq_true he2] at hinc
  rw [if_pos he2] at hFk
  (have zz:=aI @ac (aI @ix @iy); repeat' (first|refine zW ?_|refine zM ?_|apply a_n|refine zO ?_|refine vY ?_|refine cY ?_ (hp:=hinc) (hs:=by (first | refine ab ?_ rfl | apply ae); (repeat' (first | exact aa | apply am | apply af | exact ax _)); first | done | fail)|refine blY ?_|refine cTY ?_|(refine zGY ?_ ?_ <;> (intro _hg; try (exfalso; omega)))|fail)) <;> (try clear zz)
  refine dC rfl ev0 (krow.same fun b hb=>?_) ev0 bF rfl rfl Nat.one_pos (by rw [List.length_map]; omega) (by rw [List.length_map]; omega) ?_
  ·have:=kbd b hb; rw [ag (by omega)]
  rintro r2 H2 nx2 hr2 i1 i2 i3 i4
  obtain ⟨o5,o6⟩:=hr2.one
  (have zz:=aI @o5 @o6; repeat' (first|apply a_n|refine zO ?_|refine vY ?_|fail)) <;> (try clear zz)
  refine ⟨(k + 1,r2),by dsimp only; omega,⟨by dsimp only; omega,by omega,fun y hy=>?_,?_,fun b hb=>?_⟩,ag0⟩
  ·rw [i3 y (by omega) (fun h=>by have:=kbd _ h; omega),ag (by omega)]; exact k3 y hy
  ·dsimp only
   rw [hFk,List.map_append]; exact hr2
  ·rcases i4 b hb with h | h
   ·have:=kbd b h; omega
   ·omega
 ·rw [decide_eq_false he2] at hinc
  rw [if_neg he2,List.append_nil] at hFk
  (have zz:=aI @ac (aI @ix @iy); repeat' (first|refine zW ?_|refine zM ?_|apply a_n|refine zO ?_|refine vY ?_|refine cY ?_ (hp:=hinc) (hs:=by (first | refine ab ?_ rfl | apply ae); (repeat' (first | exact aa | apply am | apply af | exact ax _)); first | done | fail)|refine cFY ?_|(refine zGY ?_ ?_ <;> (intro _hg; try (exfalso; omega)))|fail)) <;> (try clear zz)
  exact ⟨(k + 1,rv),by dsimp only; omega,⟨by dsimp only; omega,k2,k3,by dsimp only; rw [hFk]; exact krow,kbd⟩,ag0⟩
theorem pV {s f:Spx} {n:Nat} (hs:bk bt s) (hf:bk bt f) (hsl:s.length=n + 1) (hfl:f.length=n) (hn:1 ≤ n):cf f s=decide (f ∈ bw s):=by
 rw [Bool.eq_iff_iff,cQ,decide_eq_true_eq,iw]
 exact ⟨fun h=>⟨by omega,w9 qW hf hs h,by omega⟩,fun h v hv=>h.2.1.subset hv⟩
theorem xi (c:List Spx) (d:Int) (hc:c.length ≤ 50) (hs:∀ s ∈ c,Shn s):Pure Try.prog 23 [d9 c,.int .i64 d] (.tup [fl (dI c d).1.1 (dI c d).1.2,.int .i64 (dI c d).2]):=by
 refine Pure.of_c2 follows A0 (Nat.le_of_ble_eq_true rfl) ?_
 simp only [b23,cO,cG,cN,cM,cD,cF,cB,aB,aQ]
 have hcc:=sr c (show _ ≤ _ by omega) hs
 unfold dI
 by_cases he:a8 c=0
 rotate_left
 ·rw [if_pos he]
  have z:decide (a8 c ≠ 0)=true:=decide_eq_true he
  (have zz:=aI @ao (aI @ai @z); repeat' (first|refine zW ?_|apply a_n|apply a_r|refine zO ?_|refine vY ?_|refine cY ?_ (hp:=hcc) (hs:=by (first | refine ab ?_ rfl | apply ae); (repeat' (first | exact aa | apply am | apply af | exact bf _)); first | done | fail)|refine alY ?_|refine bxY ?_|refine stY ?_|refine cTY ?_|refine ak rfl ?_|refine r2Y ?_|fail)) <;> (try clear zz)
  exact g8 (.eslsl _) rfl
 rw [if_neg (fun h=>h he)]
 rw [he] at hcc
 have z0:decide ((0:Int) ≠ 0)=false:=rfl
 by_cases hd:d < 0 ∨ 8 ≤ d
 ·rw [if_pos hd]
  (have zz:=aI @ao (aI @ai @z0); repeat' (first|refine zW ?_|apply a_n|apply a_r|refine zO ?_|refine vY ?_|refine cY ?_ (hp:=hcc) (hs:=by (first | refine ab ?_ rfl | apply ae); (repeat' (first | exact aa | apply am | apply af | exact bf _)); first | done | fail)|refine alY ?_|refine bxY ?_|refine stY ?_|refine gTY ?_|refine gFY ?_|refine cTY ?_|refine cFY ?_|(refine zGY ?_ ?_ <;> (intro _hg; try (exfalso; omega)))|refine ak rfl ?_|refine r2Y ?_|fail)) <;> (try clear zz)
  all_goals first | exact g8 (.eslsl _) rfl | (exfalso; omega)
 rw [if_neg hd]
 have hX:=jr c (d + 1) (by omega) hs
 unfold bR at hX
 rw [if_neg (fun h=>h he),if_neg (by omega)] at hX
 have eX:fK c (d + 1).toNat=bD c (d + 1):=by unfold bD; rw [if_neg (by omega)]
 rw [eX] at hX
 have z1:decide (d < 0)=false:=decide_eq_false (by omega)
 have z2:decide (8 ≤ d)=false:=decide_eq_false (by omega)
 by_cases hd0:d=0
 ·have eY:bD c d=[]:=by unfold bD; rw [if_pos (by omega)]
  have z3:decide (d=0)=true:=decide_eq_true hd0
  rw [eY]
  generalize bD c (d + 1)=X at *
  (have zz:=aI @ao (aI @ai (aI @ac (aI @z0 (aI @z1 (aI @z2 @z3))))); repeat' (first|refine zW ?_|apply a_n|apply a_r|refine zO ?_|refine vY ?_|refine cY ?_ (hp:=by first | exact hcc | exact hX) (hs:=by (first | refine ab ?_ rfl | apply ae); (repeat' (first | exact aa | apply am | apply af | exact bf _)); first | done | fail)|refine alY ?_|refine bxY ?_|refine stY ?_|refine gTY ?_|refine cTY ?_|refine cFY ?_|refine ak rfl ?_|refine r2Y ?_|fail)) <;> (try clear zz)
  exact g8 (.eslsl _) rfl
 have z3:decide (d=0)=false:=decide_eq_false hd0
 have hY:=jr c d (by omega) hs
 unfold bR at hY
 rw [if_neg (fun h=>h he),if_neg (by omega)] at hY
 have eY:fK c d.toNat=bD c d:=by unfold bD; rw [if_neg (by omega)]
 rw [eY] at hY
 have hXl:=dN (d:=d + 1) hc he
 have hYl:=dN (d:=d) hc he
 have hXs:=eU (d:=d + 1) he
 have hYs:=eU (d:=d) he
 have hb:=tO (bD c (d + 1)) (bD c d) (by omega) (by omega) (gm hXs) (gm hYs) fun i k hi hk=>by
  have m1:=aH hk
  have m2:=aH hi
  exact pV (iW hXs _ m1) (iW hYs _ m2) (n:=d.toNat) (by rw [(jF.1 m1).2.1]; omega) (jF.1 m2).2.1 (by omega)
 unfold fl at hb ⊢
 generalize pi (bD c (d + 1)) (bD c d)=M at *
 generalize bD c (d + 1)=X at *
 generalize bD c d=Y at *
 have dM:Dat (.agg [.int .i64 X.length,cC M]):=Dat.agg (DatL.cons .int (DatL.cons (jz _) DatL.nil))
 (have zz:=aI @ao (aI @ai (aI @ac (aI @z0 (aI @z1 (aI @z2 @z3))))); repeat' (first|refine zW ?_|apply a_n|refine zO ?_|refine vY ?_|refine cY ?_ (hp:=by first | exact hcc | exact hX | exact hY | exact hb) (hs:=by (first | refine ab ?_ rfl | apply ae); (repeat' (first | exact aa | apply am | apply af | exact bf _ | exact aA _)); first | done | fail)|refine alY ?_|refine bxY ?_|refine stY ?_|refine gTY ?_|refine cFY ?_|refine ak rfl ?_|refine r2Y ?_|fail)) <;> (try clear zz)
 exact d7 (an (dM _) (an (.int _ _) aa))
end Go.Proofs.Ytfcenbapjhecfaa
namespace Go.Proofs.Ytfcenbapjhecfaa
open Go Go.Abs
theorem ixV {l:List Int} {k:Nat} (h:k < l.length):dt 1 (bq l) (.int .i64 (k:Int))=some (.iptr [.int .i64 (l.getD k default)] 0):=by
 rw [nD,if_pos ⟨by omega,by omega⟩,Int.toNat_natCast]
attribute [local irreducible] aD aj aX aP aG aL az aM aR bd Go.Abs.Fn aO Go.Abs.Pure aw aF Yl
end Go.Proofs.Ytfcenbapjhecfaa
namespace Go.Proofs.Ytfcenbapjhecfaa
open Go Go.Abs
def bW (l:List Int):Spx:=l.map fun c=>⟨c,0⟩
theorem uj {l:List Int} {k:Nat} (h:k < l.length):bW (l.take (k + 1))=bW (l.take k) ++ [⟨l.getD k default,0⟩]:=by
 unfold bW; rw [b6 h,List.map_append]; rfl
attribute [local irreducible] aD aj aX aP aG aL az aM aR bd Go.Abs.Fn aO Go.Abs.Pure aw aF Yl
theorem rR (l:List Int) (hl:l.length ≤ 1000):dg Try.prog 36 [bq l] (au (bW l)):=by
 refine dg.of_c2 follows Ag (Nat.le_of_ble_eq_true rfl) ?_
 simp only [b36,cO,cG,cN,cM,cD,cF,cB,aB,aQ]
 (have zz:=and_self; repeat' (first|refine zW ?_|apply a_n|refine zO ?_|refine vY ?_|fail)) <;> (try clear zz)
 refine bb (X:=AV × Nat) (fun x=>[(3,x.1),(6,bq l),(7,.int .i64 l.length),(8,.int .i64 x.2)]) (fun x H nx=>x.2 ≤ l.length∧Row H 2 x.1 (cX (bW (l.take x.2)))∧∀ b,bH x.1=some b→b < nx) (fun x=>l.length - x.2) (.esl,0) ⟨Nat.zero_le _,Row.nil,fun b hb=>(by cases hb)⟩ ag0 ?_
 rintro ⟨sv,k⟩ H nx ⟨k1,k3,k4⟩
 dsimp only at k1 k3 k4 ⊢
 by_cases hk:k < l.length
 rotate_left
 ·rw [List.take_of_length_le (by omega)] at k3
  (have zz:=and_self; repeat' (first|refine zW ?_|apply a_n|apply a_x|refine zO ?_|refine vY ?_|(refine zGY ?_ ?_ <;> (intro _hg; try (exfalso; omega)))|refine ak rfl ?_|refine r1Y ?_|fail)) <;> (try clear zz)
  exact lf k3
 have ix:=ixV hk
 have hpt:=uj hk
 have hcl:(cX (bW (l.take k))).length=k * 2:=by rw [dP]; unfold bW; rw [List.length_map,List.length_take]; omega
 (have zz:=@ix; repeat' (first|refine zW ?_|apply a_n|refine zO ?_|refine vY ?_|refine blY ?_|(refine zGY ?_ ?_ <;> (intro _hg; try (exfalso; omega)))|fail)) <;> (try clear zz)
 refine dC rfl ev0 (k3.same fun b hb=>?_) ev0 n5 rfl rfl (by omega) (by omega) (by omega) ?_
 ·have:=k4 b hb; rw [ag (by omega)]
 rintro s2 E e hrow hle1 hle2 hsame hb2
 (have zz:=and_self; repeat' (first|apply a_n|refine zO ?_|refine vY ?_|fail)) <;> (try clear zz)
 refine ⟨(s2,k + 1),by dsimp only; omega,⟨by dsimp only; omega,?_,fun b hb=>?_⟩,ag0⟩
 ·dsimp only
  rw [hpt,gO]; exact hrow
 ·rcases hb2 b hb with h | h
  ·have:=k4 b h; omega
  ·omega
end Go.Proofs.Ytfcenbapjhecfaa
namespace Go.Proofs.Ytfcenbapjhecfaa
open Go Go.Abs
end Go.Proofs.Ytfcenbapjhecfaa
namespace Go.Proofs.Ytfcenbapjhecfaa
open Go Go.Abs
attribute [local irreducible] aD aj aX aP aG aL az aM aR bd Go.Abs.Fn aO Go.Abs.Pure aw aF Yl
end Go.Proofs.Ytfcenbapjhecfaa
namespace Go.Proofs.Ytfcenbapjhecfaa
open Go Go.Abs
attribute [local irreducible] aD aj aX aP aG aL az aM aR bd Go.Abs.Fn aO Go.Abs.Pure aw aF Yl
end Go.Proofs.Ytfcenbapjhecfaa
namespace Go.Proofs.Ytfcenbapjhecfaa
open Go Go.Abs
structure PairV where
 a:List Spx
 b:List Spx
 d:Int
attribute [local irreducible] aD aj aX aP aG aL az aM aR bd Go.Abs.Fn aO Go.Abs.Pure aw aF Yl
end Go.Proofs.Ytfcenbapjhecfaa
namespace Go.Proofs.Ytfcenbapjhecfaa
open Go Go.Abs
end Go.Proofs.Ytfcenbapjhecfaa
namespace Go.Proofs.Ytfcenbapjhecfaa
open Go Go.Abs
attribute [local irreducible] aD aj aX aP aG aL az aM aR bd Go.Abs.Fn aO Go.Abs.Pure aw aF Yl
theorem v9 (l m:List Int) (hl:l.length ≤ 1000000) (hm:m.length ≤ 1000000):Pure Try.prog 29 [bq l,bq m] (.bool (decide (l=m))):=by
 refine Pure.of_c2 follows Ap (Nat.le_of_ble_eq_true rfl) ?_
 simp only [b29,cO,cG,cN,cM,cD,cF,cB,aB,aQ]
 (have zz:=and_self; repeat' (first|refine zW ?_|apply a_n|apply a_r|refine zO ?_|refine vZ ?_|(refine zGZ ?_ ?_ <;> (intro _hg; try (exfalso; omega)))|refine ak rfl ?_|refine r1Z ?_|fail)) <;> (try clear zz)
 ·refine bm ?_
  symm; rw [decide_eq_false_iff_not]; rintro rfl; omega
 refine mM (X:=Nat) (fun k=>[(0,bq l),(1,bq m),(12,.int .i64 l.length),(13,.int .i64 k)]) (fun k=>k ≤ l.length∧∀ i,i < k→l.getD i default=m.getD i default) (fun k=>l.length - k) 0 ⟨Nat.zero_le _,by simp⟩ ag0 ?_
 rintro k ⟨h1,h2⟩
 (have zz:=and_self; repeat' (first|refine zW ?_|apply a_n|apply a_x|apply a_r|refine zO ?_|refine vZ ?_|(refine zGZ ?_ ?_ <;> (intro _hg; try (exfalso; omega)))|refine ak rfl ?_|refine r1Z ?_|fail)) <;> (try clear zz)
 ·refine bm ?_
  symm; rw [decide_eq_false_iff_not]; rintro rfl; exact absurd rfl ‹_›
 ·refine ⟨k + 1,⟨by omega,fun i hi=>?_⟩,by omega,ag0,rfl,rfl⟩
  rcases Nat.lt_succ_iff_lt_or_eq.1 hi with h | rfl
  ·exact h2 i h
  ·omega
 ·refine bm ?_
  symm; rw [decide_eq_true_iff]
  refine List.ext_getElem (by omega) (fun i h3 h4=>?_)
  have:=h2 i (by omega)
  simpa [List.getD,h3,h4] using this
end Go.Proofs.Ytfcenbapjhecfaa
namespace Go.Proofs.Ytfcenbapjhecfaa
open Go Go.Abs
def exC:List Spx:=[bW [0,1,2],bW [2,3]]
def exA:List Spx:=[bW [0,1],bW [0,2],bW [1,2]]
def exB:List Spx:=[bW [0],bW [2]]
def exS:List Spx:=[bW [0,1],bW [2,3]]
theorem vK:dg Try.prog 36 [bq [0,1,2]] (au (bW [0,1,2])):=rR _ (by decide)
theorem lg:dg Try.prog 36 [bq [0,1]] (au (bW [0,1])):=rR _ (by decide)
theorem wN:dg Try.prog 36 [bq [0,2]] (au (bW [0,2])):=rR _ (by decide)
theorem ln:dg Try.prog 36 [bq [1,2]] (au (bW [1,2])):=rR _ (by decide)
theorem po:dg Try.prog 36 [bq [2,3]] (au (bW [2,3])):=rR _ (by decide)
theorem yH:dg Try.prog 36 [bq [0]] (au (bW [0])):=rR _ (by decide)
theorem yy:dg Try.prog 36 [bq [2]] (au (bW [2])):=rR _ (by decide)
theorem y6:Pure Try.prog 17 [aq [bW [0,1,2]]] (.tup [aq exA,.int .i64 0]):=by
 have h:=sH [bW [0,1,2]] ⟨by decide,by decide⟩
 rwa [show mZ [bW [0,1,2]]=(exA,0) by decide +kernel] at h
theorem zC:Pure Try.prog 17 [aq [bW [0,1],bW [1,2]]] (.tup [aq exB,.int .i64 0]):=by
 have h:=sH [bW [0,1],bW [1,2]] ⟨by decide,by decide⟩
 rwa [show mZ [bW [0,1],bW [1,2]]=(exB,0) by decide +kernel] at h
theorem zN:Pure Try.prog 19 [aq exA] (.tup [.bool true,.int .i64 0]):=by
 have h:=yU exA ⟨by decide,by decide⟩
 rwa [show xg exA=(true,0) by decide +kernel] at h
theorem Be:Pure Try.prog 12 [aq [bW [0,1],bW [1,2]],aq [bW [1,2],bW [2,3]]] (.tup [aq exS,.int .i64 0]):=by
 have h:=xj [bW [0,1],bW [1,2]] [bW [1,2],bW [2,3]] ⟨by decide,by decide⟩ ⟨by decide,by decide⟩
 rwa [show ww [bW [0,1],bW [1,2]] [bW [1,2],bW [2,3]]=(exS,0) by decide +kernel] at h
theorem xy:Pure Try.prog 22 [d9 exC,.int .i64 1] (.tup [(.agg [.int .i64 4,cC [[0,1],[0,2],[1,2,3],[3]]]),.int .i64 0]):=by
 have h:=rZ exC 1 (by decide) (by decide)
 rwa [show dI exC 1=((4,[[0,1],[0,2],[1,2,3],[3]]),0) by decide +kernel] at h
theorem xz:Pure Try.prog 22 [d9 exC,.int .i64 2] (.tup [(.agg [.int .i64 1,cC [[0],[0],[0],[]]]),.int .i64 0]):=by
 have h:=rZ exC 2 (by decide) (by decide)
 rwa [show dI exC 2=((1,[[0],[0],[0],[]]),0) by decide +kernel] at h
theorem yR:Pure Try.prog 25 [d9 exC,aq exS] (.tup [bq [0,3],.int .i64 0]):=by
 have h:=ya exC exS (by decide) (by decide) ⟨by decide,by decide⟩
 rwa [show wR exC exS=([0,3],0) by decide +kernel] at h
theorem oW (l:List Spx) (h:ShC l):Pure Try.prog 16 [aq l,aq l] (.bool true):=by
 have:=tt l l h.1 h.1 h.2 h.2
 rwa [decide_eq_true rfl] at this
theorem yx {H:Hp} {b c:Nat} {cs:List AV} {x y:AV} (h1:H b=some cs) (h2:H c=some [x]) (hne:c ≠ b) (hs:Snap (only b cs) x y):Fz (only b cs) H (only c [y]) where
 sub:=iQ h1
 to:=fun a cs' h=>by
  unfold only at h
  split at h
  ·rename_i e
   cases h
   refine ⟨[x],by rw [e]; exact h2,?_,rfl,fun i u v hu hv=>?_⟩
   ·unfold only; rw [if_neg (by rw [e]; exact hne)]
   ·match i with
    | 0=>simp at hu hv; subst hu; subst hv; exact .inr hs
    | i + 1=>simp at hu
  ·cases h
theorem fS {H:Hp} {b n:Nat} {l:List Spx} (h:H b=some (l.map au)) (hn:n=l.length):Snap H (.msl b n 1 0 n) (aq l):=by
 subst hn
 have:=Row.box (H:=H) (sz:=1) b l.length (l.map au) h (by simp)
 rw [Nat.mul_one] at this
 exact ey this
theorem pK {H:Hp} {b n:Nat} {cs:List AV} {l:List (List Int)} (hb:H b=some cs) (hn:cs.length=n) (h:aF H cs (l.map bq)):Snap H (.msl b n 1 0 n) (cC l):=by
 have hl:=h.1
 refine gq (l:=l.map bq) hb hn (by omega) (by omega) (fun y hy=>?_) (fun i a c ha hc=>?_)
 ·obtain ⟨z,_,rfl⟩:=List.mem_map.1 hy; rfl
 ·rw [Nat.zero_add] at ha
  exact h.2 i a c ha hc
theorem zZ {g:FuncId} {r:AV} {l:List Spx} (hp:Pure Try.prog g [aq l] r) {H:Hp} {b nx c n:Nat} {cs:List AV} (h1:H b=some (l.map au)) (hn:n=l.length) (h2:H c=some cs) (hne:c ≠ b):Abs.Fn Try.prog g [.msl b n 1 0 n] H nx fun r' H' nx'=>r'=r∧H'=only c cs∧nx'=nx :=
 Fn.of_pureZ hp (Hf:=only b (l.map au)) (H':=only c cs) (iQ h1) (fun a cs' h=>by
  unfold only at h
  split at h
  ·rename_i e; cases h; subst e
   exact ⟨h2,by unfold only; rw [if_neg hne]⟩
  ·cases h) (an (fS gX hn) aa) ⟨rfl,rfl,rfl⟩
theorem Bm {g:FuncId} {r:AV} {l m:List Spx} (hp:Pure Try.prog g [aq l,aq m] r) {H:Hp} {b d nx c n k:Nat} {cs:List AV} (h1:H b=some (l.map au)) (hn:n=l.length) (h3:H d=some (m.map au)) (hk:k=m.length) (hbd:d ≠ b) (h2:H c=some cs) (hne:c ≠ b) (hne2:c ≠ d):Abs.Fn Try.prog g [.msl b n 1 0 n,.msl d k 1 0 k] H nx fun r' H' nx'=>r'=r∧H'=only c cs∧nx'=nx :=
 Fn.of_pureZ hp (Hf:=on2 b (l.map au) d (m.map au)) (H':=only c cs) (oH h1 h3) (fun a cs' h=>by
  unfold only at h
  split at h
  ·rename_i e; cases h; subst e
   exact ⟨h2,by unfold on2; rw [if_neg hne,if_neg hne2]⟩
  ·cases h) (an (fS xB hn) (an (fS (xC hbd) hk) aa)) ⟨rfl,rfl,rfl⟩
theorem yV:Pure Try.prog 29 [bq [0,3],bq [0,3]] (.bool true):=by
 have:=v9 [0,3] [0,3] (by decide) (by decide)
 rwa [decide_eq_true rfl] at this
attribute [local irreducible] aD aj aX aP aG aL az aM aR bd Go.Abs.Fn aO Go.Abs.Pure aw aF Yl
set_option maxHeartbeats 2000000 in
theorem sZ:Pure Try.prog 11 [] (.bool true):=by
 refine Pure.of_c2 follows AG (Nat.le_of_ble_eq_true rfl) ?_
 simp only [b11,cO,cG,cN,cM,cD,cF,cB,aB,aQ]
 have h3:only 3 [aq exC] 3=some [aq exC]:=gX
 (have zz:=aI @h3 (aI @ay (aI @av (aI @ao @ai))); repeat' (first|refine zW ?_|apply a_n|refine zO ?_|refine vZ ?_|refine blZ ?_|fail)) <;> (try clear zz)
 refine bV ev0 ev0 vK (an (bh (n:=3) (len:=3) (l:=[0,1,2]) (by exact rfl) rfl rfl) aa) ?_
 (have zz:=aI @h3 (aI @ay (aI @av (aI @ao @ai))); repeat' (first|apply a_n|refine zO ?_|refine blZ ?_|fail)) <;> (try clear zz)
 refine bV ev0 ev0 po (an (bh (n:=2) (len:=2) (l:=[2,3]) (by exact rfl) rfl rfl) aa) ?_
 (have zz:=aI @h3 (aI @ay (aI @av (aI @ao @ai))); repeat' (first|apply a_n|refine zO ?_|refine vZ ?_|refine alZ ?_|refine stZ ?_|refine blZ ?_|fail)) <;> (try clear zz)
 refine ed ?_
 refine sX (only 2 [au (bW [0,1,2]),au (bW [2,3])]) (only 3 [aq exC]) [(1,.ptr 3 1 0)] (yx (x:=.msl 2 2 1 0 2) rfl rfl (by decide) (fS (l:=exC) rfl rfl)) ⟨.inl rfl,trivial⟩ ?_
 (have zz:=aI @h3 (aI @ay (aI @av (aI @ao @ai))); repeat' (first|apply a_n|refine zO ?_|refine blZ ?_|fail)) <;> (try clear zz)
 refine bV ev0 ev0 vK (an (bh (n:=3) (len:=3) (l:=[0,1,2]) (by exact rfl) rfl rfl) aa) ?_
 (have zz:=aI @h3 (aI @ay (aI @av (aI @ao @ai))); repeat' (first|apply a_n|refine zO ?_|refine blZ ?_|fail)) <;> (try clear zz)
 refine aU ev0 ev0 (zZ y6 (b:=5) (c:=3) (cs:=[aq exC]) (by exact rfl) (by exact rfl) (by exact rfl) (by decide)) ?_
 rintro _ _ _ ⟨rfl,rfl,rfl⟩
 (have zz:=aI @h3 (aI @ay (aI @av (aI @ao @ai))); repeat' (first|refine zW ?_|apply a_n|refine zO ?_|refine vZ ?_|refine cZ ?_ (hp:=by first | exact zN | exact xy | exact xz | exact yR) (hs:=by (first | refine ab ?_ rfl | apply ae); (repeat' (first | exact aa | apply am | apply af | exact aA _ | exact bf _)); first | done | fail)|refine blZ ?_|fail)) <;> (try clear zz)
 refine bV ev0 ev0 lg (an (bh (n:=2) (len:=2) (l:=[0,1]) (by exact rfl) rfl rfl) aa) ?_
 (have zz:=aI @h3 (aI @ay (aI @av (aI @ao @ai))); repeat' (first|apply a_n|refine zO ?_|refine blZ ?_|fail)) <;> (try clear zz)
 refine bV ev0 ev0 ln (an (bh (n:=2) (len:=2) (l:=[1,2]) (by exact rfl) rfl rfl) aa) ?_
 (have zz:=aI @h3 (aI @ay (aI @av (aI @ao @ai))); repeat' (first|apply a_n|refine zO ?_|refine blZ ?_|fail)) <;> (try clear zz)
 refine aU ev0 ev0 (zZ zC (b:=8) (c:=3) (cs:=[aq exC]) (by exact rfl) (by exact rfl) (by exact rfl) (by decide)) ?_
 rintro _ _ _ ⟨rfl,rfl,rfl⟩
 (have zz:=aI @h3 (aI @ay (aI @av (aI @ao @ai))); repeat' (first|refine zW ?_|apply a_n|refine zO ?_|refine vZ ?_|refine blZ ?_|fail)) <;> (try clear zz)
 refine bV ev0 ev0 lg (an (bh (n:=2) (len:=2) (l:=[0,1]) (by exact rfl) rfl rfl) aa) ?_
 (have zz:=aI @h3 (aI @ay (aI @av (aI @ao @ai))); repeat' (first|apply a_n|refine zO ?_|refine blZ ?_|fail)) <;> (try clear zz)
 refine bV ev0 ev0 ln (an (bh (n:=2) (len:=2) (l:=[1,2]) (by exact rfl) rfl rfl) aa) ?_
 (have zz:=aI @h3 (aI @ay (aI @av (aI @ao @ai))); repeat' (first|apply a_n|refine zO ?_|refine blZ ?_|fail)) <;> (try clear zz)
 refine bV ev0 ev0 ln (an (bh (n:=2) (len:=2) (l:=[1,2]) (by exact rfl) rfl rfl) aa) ?_
 (have zz:=aI @h3 (aI @ay (aI @av (aI @ao @ai))); repeat' (first|apply a_n|refine zO ?_|refine blZ ?_|fail)) <;> (try clear zz)
 refine bV ev0 ev0 po (an (bh (n:=2) (len:=2) (l:=[2,3]) (by exact rfl) rfl rfl) aa) ?_
 (have zz:=aI @h3 (aI @ay (aI @av (aI @ao @ai))); repeat' (first|apply a_n|refine zO ?_|refine blZ ?_|fail)) <;> (try clear zz)
 refine aU ev0 ev0 (Bm Be (b:=11) (d:=14) (c:=3) (cs:=[aq exC]) (by exact rfl) (by exact rfl) (by exact rfl) (by exact rfl) (by decide) (by exact rfl) (by decide) (by decide)) ?_
 rintro _ _ _ ⟨rfl,rfl,rfl⟩
 (have zz:=aI @h3 (aI @ay (aI @av (aI @ao @ai))); repeat' (first|refine zW ?_|apply a_n|refine zO ?_|refine vZ ?_|refine blZ ?_|refine gTZ ?_|(refine zGZ ?_ ?_ <;> (intro _hg; try (exfalso; omega)))|fail)) <;> (try clear zz)
 refine bV ev0 ev0 lg (an (bh (n:=2) (len:=2) (l:=[0,1]) (by exact rfl) rfl rfl) aa) ?_
 (have zz:=aI @h3 (aI @ay (aI @av (aI @ao @ai))); repeat' (first|apply a_n|refine zO ?_|refine blZ ?_|refine gTZ ?_|fail)) <;> (try clear zz)
 refine bV ev0 ev0 wN (an (bh (n:=2) (len:=2) (l:=[0,2]) (by exact rfl) rfl rfl) aa) ?_
 (have zz:=aI @h3 (aI @ay (aI @av (aI @ao @ai))); repeat' (first|apply a_n|refine zO ?_|refine blZ ?_|refine gTZ ?_|fail)) <;> (try clear zz)
 refine bV ev0 ev0 ln (an (bh (n:=2) (len:=2) (l:=[1,2]) (by exact rfl) rfl rfl) aa) ?_
 (have zz:=aI @h3 (aI @ay (aI @av (aI @ao @ai))); repeat' (first|apply a_n|refine zO ?_|refine blZ ?_|refine gTZ ?_|fail)) <;> (try clear zz)
 refine bL ev0 ev0 (oW exA ⟨by decide,by decide⟩) (ab (an (aA _ _) (an (fS (b:=18) (n:=3) (by exact rfl) (by exact rfl)) aa)) rfl) ?_
 (have zz:=aI @h3 (aI @ay (aI @av (aI @ao @ai))); repeat' (first|apply a_n|refine zO ?_|refine vZ ?_|refine blZ ?_|refine gTZ ?_|fail)) <;> (try clear zz)
 refine bV ev0 ev0 yH (an (bh (n:=1) (len:=1) (l:=[0]) (by exact rfl) rfl rfl) aa) ?_
 (have zz:=aI @h3 (aI @ay (aI @av (aI @ao @ai))); repeat' (first|apply a_n|refine zO ?_|refine blZ ?_|refine gTZ ?_|fail)) <;> (try clear zz)
 refine bV ev0 ev0 yy (an (bh (n:=1) (len:=1) (l:=[2]) (by exact rfl) rfl rfl) aa) ?_
 (have zz:=aI @h3 (aI @ay (aI @av (aI @ao @ai))); repeat' (first|apply a_n|refine zO ?_|refine blZ ?_|refine gTZ ?_|fail)) <;> (try clear zz)
 refine bL ev0 ev0 (oW exB ⟨by decide,by decide⟩) (ab (an (aA _ _) (an (fS (b:=21) (n:=2) (by exact rfl) (by exact rfl)) aa)) rfl) ?_
 (have zz:=aI @h3 (aI @ay (aI @av (aI @ao @ai))); repeat' (first|apply a_n|refine zO ?_|refine vZ ?_|refine blZ ?_|refine gTZ ?_|fail)) <;> (try clear zz)
 refine bV ev0 ev0 lg (an (bh (n:=2) (len:=2) (l:=[0,1]) (by exact rfl) rfl rfl) aa) ?_
 (have zz:=aI @h3 (aI @ay (aI @av (aI @ao @ai))); repeat' (first|apply a_n|refine zO ?_|refine blZ ?_|refine gTZ ?_|fail)) <;> (try clear zz)
 refine bV ev0 ev0 po (an (bh (n:=2) (len:=2) (l:=[2,3]) (by exact rfl) rfl rfl) aa) ?_
 (have zz:=aI @h3 (aI @ay (aI @av (aI @ao @ai))); repeat' (first|apply a_n|refine zO ?_|refine blZ ?_|refine gTZ ?_|fail)) <;> (try clear zz)
 refine bL ev0 ev0 (oW exS ⟨by decide,by decide⟩) (ab (an (aA _ _) (an (fS (b:=24) (n:=2) (by exact rfl) (by exact rfl)) aa)) rfl) ?_
 (have zz:=aI @h3 (aI @ay (aI @av (aI @ao @ai))); repeat' (first|refine zW ?_|apply a_n|refine zO ?_|refine vZ ?_|refine cZ ?_ (hp:=by first | exact zN | exact xy | exact xz | exact yR) (hs:=by (first | refine ab ?_ rfl | apply ae); (repeat' (first | exact aa | apply am | apply af | exact aA _ | exact bf _)); first | done | fail)|refine alZ ?_|refine stZ ?_|refine blZ ?_|refine gTZ ?_|(refine zGZ ?_ ?_ <;> (intro _hg; try (exfalso; omega)))|refine cFZ ?_|fail)) <;> (try clear zz)
 refine bL ev0 ev0 (jG 4 [[0,1],[0,2],[1,2,3],[3]] (by decide) (by decide)) (ab (an ((show Dat (.agg [.int .i64 4,cC [[0,1],[0,2],[1,2,3],[3]]]) from iL 4 [[0,1],[0,2],[1,2,3],[3]]) _) (an (jx (an (.int _ _) (an (pK (b:=31) (n:=4) (cs:=[.msl 27 2 1 0 2,.msl 28 2 1 0 2,.msl 29 3 1 0 3,.msl 30 1 1 0 1]) (by exact rfl) (by exact rfl) (an (bh (b:=27) (n:=2) (len:=2) (l:=[0,1]) (by exact rfl) rfl rfl) (an (bh (b:=28) (n:=2) (len:=2) (l:=[0,2]) (by exact rfl) rfl rfl) (an (bh (b:=29) (n:=3) (len:=3) (l:=[1,2,3]) (by exact rfl) rfl rfl) (an (bh (b:=30) (n:=1) (len:=1) (l:=[3]) (by exact rfl) rfl rfl) aa))))) aa))) aa)) rfl) ?_
 (have zz:=aI @h3 (aI @ay (aI @av (aI @ao @ai))); repeat' (first|apply a_n|refine zO ?_|refine vZ ?_|refine blZ ?_|refine gTZ ?_|fail)) <;> (try clear zz)
 refine bL ev0 ev0 (jG 1 [[0],[0],[0],[]] (by decide) (by decide)) (ab (an ((show Dat (.agg [.int .i64 1,cC [[0],[0],[0],[]]]) from iL 1 [[0],[0],[0],[]]) _) (an (jx (an (.int _ _) (an (pK (b:=35) (n:=4) (cs:=[.msl 32 1 1 0 1,.msl 33 1 1 0 1,.msl 34 1 1 0 1,.esl]) (by exact rfl) (by exact rfl) (an (bh (b:=32) (n:=1) (len:=1) (l:=[0]) (by exact rfl) rfl rfl) (an (bh (b:=33) (n:=1) (len:=1) (l:=[0]) (by exact rfl) rfl rfl) (an (bh (b:=34) (n:=1) (len:=1) (l:=[0]) (by exact rfl) rfl rfl) (an (.eslsl 1) aa))))) aa))) aa)) rfl) ?_
 (have zz:=aI @h3 (aI @ay (aI @av (aI @ao @ai))); repeat' (first|apply a_n|refine zO ?_|refine vZ ?_|refine blZ ?_|refine gTZ ?_|fail)) <;> (try clear zz)
 refine bL ev0 ev0 yV (ab (an (eP _ _) (an (bh (b:=36) (n:=2) (len:=2) (l:=[0,3]) (by exact rfl) rfl rfl) aa)) rfl) ?_
 (have zz:=aI @h3 (aI @ay (aI @av (aI @ao @ai))); repeat' (first|apply a_n|refine zO ?_|refine vZ ?_|refine ak rfl ?_|refine r1Z ?_|fail)) <;> (try clear zz)
 exact .bool _
end Go.Proofs.Ytfcenbapjhecfaa
namespace Go.Proofs.Ytfcenbapjhecfaa
open Go Go.Abs
attribute [local irreducible] aD aj aX aP aG aL az aM aR bd Go.Abs.Fn aO Go.Abs.Pure aw aF Yl
theorem uR {c:List Spx} {d:Int} (hc:c.length ≤ 50):(dI c d).1.2.length ≤ 1000000∧∀ r ∈ (dI c d).1.2,r.length ≤ 1000000:=by
 have h0:([]:List (List Int)).length ≤ 1000000∧∀ r ∈ ([]:List (List Int)),r.length ≤ 1000000:=⟨Nat.zero_le _,fun r h=>(by cases h)⟩
 unfold dI
 split
 ·exact h0
 split
 ·exact h0
 ·rename_i g1 g2
  have hXl:=dN (d:=d + 1) hc (Decidable.of_not_not g1)
  have hYl:=dN (d:=d) hc (Decidable.of_not_not g1)
  refine ⟨?_,fun r hr=>?_⟩
  ·show (pi _ _).length ≤ _
   unfold pi
   simp; omega
  ·unfold pi at hr
   obtain ⟨i,_,rfl⟩:=List.mem_map.1 hr
   have:=lD (X:=bD c (d + 1)) (Y:=bD c d) (n:=(bD c (d + 1)).length) (i:=i)
   unfold d3
   rw [List.length_map]; omega
theorem oK (c:List Spx) (d:Int) (hc:Shn c∧∀ s ∈ c,Shn s):Pure Try.prog 5 [d9 c,.int .i64 d] (.bool true):=by
 refine Pure.of_c2 follows is5 (Nat.le_of_ble_eq_true rfl) ?_
 simp only [b5,cO,cG,cN,cM,cD,cF,cB,aB,aQ]
 have f1:=wt c hc.1 hc.2
 cases e1:gR c
 ·rw [e1] at f1
  (have zz:=aI @ao @ai; repeat' (first|refine zW ?_|apply a_n|apply a_r|refine zO ?_|refine vY ?_|refine cY ?_ (hp:=by first | exact f1 | exact sZ) (hs:=by (first | refine ab ?_ rfl | apply ae); (repeat' (first | exact aa | apply am | apply af | exact bf _)); first | done | fail)|refine bxY ?_|refine cTY ?_|refine ak rfl ?_|refine r1Y ?_|fail)) <;> (try clear zz)
  exact .bool _
 rw [e1] at f1
 obtain ⟨fc1,fc2⟩:=rx.1 e1
 have s1:=rZ c d (by omega) hc.2
 have s2:=xi c d (by omega) hc.2
 have hsh:=uR (c:=c) (d:=d) (by omega)
 have s3:=jG (dI c d).1.1 (dI c d).1.2 hsh.1 hsh.2
 have dm:=iL (dI c d).1.1 (dI c d).1.2
 unfold fl at s1 s2 s3 dm
 generalize dI c d=P at *
 obtain ⟨⟨p,q⟩,e⟩:=P
 dsimp only at s1 s2 s3 dm
 have z2:decide (e=e)=true:=decide_eq_true rfl
 (have zz:=aI @ao (aI @ai @z2); repeat' (first|refine zW ?_|apply a_n|refine zO ?_|refine vY ?_|refine cY ?_ (hp:=by first | exact f1 | exact sZ | exact s1 | exact s2 | exact s3) (hs:=by (first | refine ab ?_ rfl | apply ae); (repeat' (first | exact aa | apply am | apply af | exact bf _ | exact dm)); first | done | fail)|refine alY ?_|refine bxY ?_|refine stY ?_|refine gTY ?_|refine cFY ?_|refine ak rfl ?_|refine r1Y ?_|fail)) <;> (try clear zz)
 exact .bool _
end Go.Proofs.Ytfcenbapjhecfaa
namespace Go.Proofs.Ytfcenbapjhecfaa
open Go Go.Abs Go.RowKit
section
variable {H:Type} {enc:TypeId × Value→H} {W:World}
theorem oi:cR enc Try.prog W 3 (AV.int .i64) (fun n=>(Lit.int .i64 n).wf=true):=uu Try.underlying3
set_option maxRecDepth 100000 in
theorem Ak:cR enc Try.prog W 101 bM (fun _=>True) :=
 (iS Try.underlying101 (by kernel_rfl) (gJ (off:=0) (off':=1) rfl (by kernel_rfl) oi (gJ (off:=1) (off':=2) rfl (by kernel_rfl) oi m8))).map
  (fun a=>(⟨a.1,a.2.1⟩:Vtx)) (fun _ _=>trivial) (fun _ _=>rfl)
theorem oXs:cR enc Try.prog W 52 au Shn :=
 (kJ Try.underlying52 (sz:=2) (by_:=16) (by kernel_rfl) (by kernel_rfl) (by omega) (fun _=>rfl) Ak).mono fun l h=>by have:=h.2.2; show _ ≤ _; omega
theorem Au:cR enc Try.prog W 22 aq (fun l=>Shn l∧∀ x ∈ l,Shn x) :=
 (kJ Try.underlying22 (sz:=1) (by_:=24) (by kernel_rfl) (by kernel_rfl) Nat.one_pos (fun _=>rfl) oXs).mono fun l h=>⟨by have:=h.2.2; show _ ≤ _; omega,h.1⟩
set_option maxRecDepth 100000 in
theorem oCx:cR enc Try.prog W 41 d9 (fun l=>Shn l∧∀ x ∈ l,Shn x) :=
 (iS Try.underlying41 (by kernel_rfl) (gJ (off:=0) (off':=1) rfl (by kernel_rfl) Au m8)).map
  (fun a=>a.1) (by rintro ⟨n,u⟩ ⟨h1,_⟩; exact h1) (fun _ _=>rfl)
end
theorem lr {f:FuncId} {xs:List AV} {vs:List Value} (h:Go.Abs.Pure Try.prog f xs (.bool true)) (w:World) (hv:bK (E0 (nq w)) w xs vs) :
    Calls Try.prog f vs.toArray w fun e w'=>e=.returned (.bool true)∧Below w.heap.size w w':=by
 refine (h.2 (nq w) w vs (fun _ h=>h) hv).mono ?_
 rintro e w' ⟨v,imm',rfl,hb,_,_,_,hr⟩
 cases hr
 exact ⟨rfl,hb⟩
theorem Ad:laidOutB Try.prog=true:=by kernel_rfl
end Go.Proofs.Ytfcenbapjhecfaa
namespace Go.Proofs.Ytfcenbapjhecfaa
open Go Go.Abs Go.RowKit
section
variable {H:Type} {enc:TypeId × Value→H} {W:World}
end
end Go.Proofs.Ytfcenbapjhecfaa
namespace Go.Proofs.Ytfcenbapjhecfaa
open Go Go.Abs Go.RowKit Go.ChangeShapes Go.WideShapes Go.ChangeAt
theorem ni {H:Type} {enc:TypeId × Value→H} {P:Program} {f:Func} {s:ChangeSpec} {apart fresh handsOn again:Bool} {W W':World} {args:Array Value} {v:Value} {ds gs:List (DataW H)} {before pa pv:List MemPlace}
    (hW:DataW.Whole enc P f.params.toList s.vars apart W args.toList ds gs before)
    (hres:∀ (b:Nat) (sp:Nat→Bool) (hd:Bool),DataW.TrodAll enc P W' b sp hd f.resultTypes.toList (v.resultList f.resultTypes.size) (s.fn H (ds ++ gs)).results [])
    (hargs:∀ sp:Nat→Bool,(∀ p ∈ before,sp p.block=true)→DataW.TrodAll enc P W' 0 sp true f.params.toList args.toList (s.fn H (ds ++ gs)).args pa)
    (hvars:∀ sp:Nat→Bool,(∀ p ∈ before,sp p.block=true)→DataW.TrodVars enc P W' sp s.vars (s.fn H (ds ++ gs)).vars pv)
    (hps:before=pa ++ pv) (hb:Below W.heap.size W W')
    (hok:∀ (j:Nat) (t:TypeId) (r:Value),f.resultTypes[j]?=some t→(v.resultList f.resultTypes.size)[j]?=some r→Value.okWide P W' .any 0 t r) :
    s.post enc P f apart fresh handsOn again W args v W':=by
 have hold:∀ p ∈ before,(fun b=>decide (b < W.heap.size)) p.block=true:=fun p hp=>by simpa using hW.lt p hp
 have hlt:=fun p hp=>hW.lt p hp
 refine ⟨ds,gs,before,[],pa,pv,hW,hres _ _ _,hargs _ hold,hvars _ hold,World.keptBut_mono (fun p hp=>⟨hp,?_⟩) (hb.frame _),fun _=>?_⟩
 ·rw [hps,List.mem_append] at hp
  exact Or.inr hp
 ·obtain ⟨_,_,_,_,_,hz,hn⟩:=hW
  refine ⟨hok,_,_,([] ++ pa) ++ pv,⟨[] ++ pa,pv,trodAll_append (hargs _ (fun _ _=>rfl)) (hres _ _ _),hvars _ (fun _ _=>rfl),rfl,?_,?_⟩,?_⟩
  ·intro b off hp
   have hp':MemPlace.cell b off ∈ before:=by rw [hps]; simpa using hp
   rw [hb.frozen (hlt _ hp')]
   exact hz b off hp'
  ·intro ha
   have:=hn ha
   rw [hps] at this
   simpa using this
  ·intro p hp _
   rw [hps]
   simpa using hp
theorem uP {E:Env} {w:World}:bK E w [] []:=⟨rfl,fun i x y h=>(by cases h)⟩
theorem og {E:Env} {w:World} {x:AV} {y:Value} {xs:List AV} {ys:List Value} (h:Rel E w x y) (hs:bK E w xs ys):bK E w (x :: xs) (y :: ys):=by
 refine ⟨by simp [hs.1],fun i a b ha hb=>?_⟩
 cases i with
 | zero=>simp at ha hb; subst ha hb; exact h
 | succ i=>simp at ha hb; exact hs.2 i a b ha hb
theorem own:ownKnob Try.prog.godebug=none:=by kernel_rfl
end Go.Proofs.Ytfcenbapjhecfaa