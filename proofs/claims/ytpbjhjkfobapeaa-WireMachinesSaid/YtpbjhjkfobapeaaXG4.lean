/- Contracts of functions and plain laws, for all inputs that the theorems name. -/
import Derived.Test.YtpbjhjkfobapeaaXG3
import Derived.Test.YtpbjhjkfobapeaaRows
import Derived.WalkKit
import Derived.ProofKit
import Derived.OpenShut

set_option linter.unusedSimpArgs false
set_option linter.unusedVariables false
set_option maxHeartbeats 4000000
namespace Go.Proofs.Ytpbjhjkfobapeaa
open Go Go.Abs
open Nat (reduceEqDiff reduceAdd reduceLeDiff)
structure StepV where
 round:Int
 proc:Int
 h0:Int
 h1:Int
 h2:Int
 h3:Int
 h4:Int
 to:Int
 deriving DecidableEq,Inhabited
def StepV.heard(s:StepV):List Int:=[s.h0,s.h1,s.h2,s.h3,s.h4]
def StepV.cells(s:StepV):List AV:=[.int .i64 s.round,.int .i64 s.proc,.int .i64 s.h0,.int .i64 s.h1,.int .i64 s.h2,.int .i64 s.h3,.int .i64 s.h4,.int .i64 s.to]
theorem vT(s:StepV):s.cells=[.int .i64 s.round,.int .i64 s.proc,.int .i64 s.h0,.int .i64 s.h1,.int .i64 s.h2,.int .i64 s.h3,.int .i64 s.h4,.int .i64 s.to]:=rfl
def ew(s:StepV):AV:=.agg s.cells
def bh(l:List StepV):AV:=iK 8 ew l
def aN(l:List (List (List Int))):AV:=iK 1 aF l
def b9(l:List (List (List (List Int)))):AV:=iK 1 aN l
structure MachV where
 n:Int
 rounds:Int
 ins:Int
 outs:Int
 first:List (List Int)
 symbols:List (List (List (List Int)))
 steps:List StepV
 out:List (List (List Int))
 deriving DecidableEq,Inhabited
def MachV.cells(m:MachV):List AV:=[.int .i64 m.n,.int .i64 m.rounds,.int .i64 m.ins,.int .i64 m.outs,aF m.first,b9 m.symbols,bh m.steps,aN m.out]
def bV(m:MachV):AV:=.agg m.cells
theorem fp(s:StepV):∀x∈s.cells,Dat x:=DatL.cons .int (DatL.cons .int (DatL.cons .int (DatL.cons .int (DatL.cons .int (DatL.cons .int (DatL.cons .int (DatL.cons .int DatL.nil)))))))
theorem iL(s:StepV):Dat (ew s):=Dat.agg (fp s)
theorem mj(l:List StepV):Dat (bh l):=tU (λx _ c hc=>fp x c hc)
theorem dy(l:List (List (List Int))):Dat (aN l):=ss (λ_=>rfl) de
theorem nM(l:List (List (List (List Int)))):Dat (b9 l):=ss (λ_=>rfl) dy
theorem qw(m:MachV):∀x∈m.cells,Dat x:=DatL.cons .int (DatL.cons .int (DatL.cons .int (DatL.cons .int (DatL.cons (de _) (DatL.cons (nM _) (DatL.cons (mj _) (DatL.cons (dy _) DatL.nil)))))))
theorem cp(m:MachV):Dat (bV m):=Dat.agg (qw m)
theorem ME:(∀l:List StepV,(bh l).cells=[bh l])/\(∀l,(aN l).cells=[aN l])/\(∀l,(b9 l).cells=[b9 l])/\(∀l:List StepV,(bh l).one=true)/\(∀l,(aN l).one=true)/\(∀l,(b9 l).one=true)/\
    (∀l:List StepV,ef (bh l)=some (.int .i64 l.length))/\(∀l,ef (aN l)=some (.int .i64 l.length))/\(∀l,ef (b9 l)=some (.int .i64 l.length))/\
    (∀s:StepV,(ew s).cells=s.cells)/\(∀m:MachV,(bV m).cells=m.cells)/\(∀s:StepV,s.cells=[.int .i64 s.round,.int .i64 s.proc,.int .i64 s.h0,.int .i64 s.h1,.int .i64 s.h2,.int .i64 s.h3,.int .i64 s.h4,.int .i64 s.to])/\
    (∀m:MachV,m.cells=[.int .i64 m.n,.int .i64 m.rounds,.int .i64 m.ins,.int .i64 m.outs,aF m.first,b9 m.symbols,bh m.steps,aN m.out])/\
    (∀(l:List StepV)(k:IntKind)(n:Int),ja 8 (bh l) (.int k n)=if 0<=n/\n<l.length then some (.iptr (l.getD n.toNat default).cells 0) else none)/\
    (∀(l:List (List (List Int)))(k:IntKind)(n:Int),ja 1 (aN l) (.int k n)=if 0<=n/\n<l.length then some (.iptr [aF (l.getD n.toNat default)] 0) else none)/\
    (∀(l:List (List (List (List Int))))(k:IntKind)(n:Int),ja 1 (b9 l) (.int k n)=if 0<=n/\n<l.length then some (.iptr [aN (l.getD n.toNat default)] 0) else none):=
 ⟨λ_=>rfl,λ_=>rfl,λ_=>rfl,λ_=>rfl,λ_=>rfl,λ_=>rfl,λ_=>gg,λ_=>gg,λ_=>gg,λ_=>rfl,λ_=>rfl,λ_=>rfl,λ_=>rfl,λ_ _ _=>io,λ_ _ _=>io,λ_ _ _=>io⟩
def inB(n a b:Int):Bool:=decide (a<=n/\n<=b)
def dN(l:List Int)(a b:Int):Bool:=l.all λn=>inB n a b
def jV(m:MachV)(k p q:Nat):Bool:=decide (((((m.symbols.getD k default).getD p default).getD q default).length:Int)=if p=q then 0 else(((m.out.getD k default).getD p default).length:Int))
def oh(m:MachV)(k p:Nat):Bool:=decide ((((m.symbols.getD k default).getD p default).length:Int)=m.n)&&(List.range ((m.symbols.getD k default).getD p default).length).all λq=>jV m k p q
def mR(m:MachV)(k:Nat):Bool:=decide (((m.symbols.getD k default).length:Int)=m.n)&&(List.range (m.symbols.getD k default).length).all λp=>oh m k p
def bU(m:MachV):Bool:=decide ((m.first.length:Int)=m.n/\(m.out.length:Int)=m.rounds+1/\(m.symbols.length:Int)=m.rounds)&&
 (m.first.all (λl=>decide ((l.length:Int)=m.ins))&&(m.out.all (λl=>decide ((l.length:Int)=m.n))&&(List.range m.symbols.length).all (λk=>mR m k)))
structure ShM(m:MachV):Prop where
 first:Sh m.first
 first1:∀l∈m.first,Sh l
 out:Sh m.out
 out1:∀l∈m.out,Sh l
 out2:∀l∈m.out,∀x∈l,Sh x
 out3:∀l∈m.out,∀x∈l,x.length<=140737488355328
 symbols:Sh m.symbols
 symbols1:∀l∈m.symbols,Sh l
 symbols2:∀l∈m.symbols,∀x∈l,Sh x
 symbols3:∀l∈m.symbols,∀x∈l,∀y∈x,Sh y
 steps:Sh m.steps
theorem cK{m:MachV}(h:bU m=true):(m.first.length:Int)=m.n/\(m.out.length:Int)=m.rounds+1/\(m.symbols.length:Int)=m.rounds:=by
 unfold bU at h;rw[cE,qz] at h;exact h.1
theorem m8{m:MachV}(h:bU m=true){l:List Int}(hl:l∈m.first):(l.length:Int)=m.ins:=by
 unfold bU at h;simp only[cE,cV,qz] at h;exact h.2.1 l hl
theorem co{m:MachV}(h:bU m=true){k:Nat}(hk:k<m.out.length):((m.out.getD k default).length:Int)=m.n:=by
 unfold bU at h;simp only[cE,cV,qz] at h;exact h.2.2.1 _ (aj hk)
theorem gk{m:MachV}(h:bU m=true){k:Nat}(hk:k<m.symbols.length):((m.symbols.getD k default).length:Int)=m.n/\∀p,p<(m.symbols.getD k default).length->(((m.symbols.getD k default).getD p default).length:Int)=m.n/\
    ∀q,q<((m.symbols.getD k default).getD p default).length->((((m.symbols.getD k default).getD p default).getD q default).length:Int)=if p=q then 0 else(((m.out.getD k default).getD p default).length:Int):=by
 unfold bU at h;simp only[cE,cV,qz,gJ] at h;have h:=h.2.2.2 k hk;unfold mR at h;simp only[cE,cV,qz,gJ] at h;refine⟨h.1,λp hp=>?_⟩;have h:=h.2 p hp;unfold oh at h;simp only[cE,cV,qz,gJ] at h;refine⟨h.1,λq hq=>?_⟩;have h:=h.2 q hq;unfold jV at h
 rwa [qz] at h
def iy(m:MachV)(p:Nat):Bool:=dN (m.first.getD p default) (-1) (((m.out.getD 0 default).getD p default).length-1)
def cS(m:MachV):Bool:=(List.range m.first.length).all (λp=>iy m p)&&(m.out.all (λl=>l.all λx=>dN x (-1) (m.outs-1))&&m.symbols.all (λs=>s.all λl=>l.all λx=>dN x 0 1048576))
theorem BR{a b h0 h1 h2 h3 h4 t n:Int}(h:0<=n/\n<=5):lS 5 (.iptr [.int .i64 a,.int .i64 b,.int .i64 h0,.int .i64 h1,.int .i64 h2,.int .i64 h3,.int .i64 h4,.int .i64 t] 2) (some (.int .i64 n)) none none=some (be ([h0,h1,h2,h3,h4].drop n.toNat)):=by
 have:n=0\/n=1\/n=2\/n=3\/n=4\/n=5:=by omega
 rcases this with rfl|rfl|rfl|rfl|rfl|rfl<;>rfl
theorem BW{a b h0 h1 h2 h3 h4 t n:Int}(h:0<=n/\n<=5):lS 5 (.iptr [.int .i64 a,.int .i64 b,.int .i64 h0,.int .i64 h1,.int .i64 h2,.int .i64 h3,.int .i64 h4,.int .i64 t] 2) none (some (.int .i64 n)) none=some (be ([h0,h1,h2,h3,h4].take n.toNat)):=by
 have:n=0\/n=1\/n=2\/n=3\/n=4\/n=5:=by omega
 rcases this with rfl|rfl|rfl|rfl|rfl|rfl<;>rfl
theorem zR{n:Int}(h:0<=n/\n<=5)(a b h0 h1 h2 h3 h4 t:Int):lS 5 (.iptr [.int .i64 a,.int .i64 b,.int .i64 h0,.int .i64 h1,.int .i64 h2,.int .i64 h3,.int .i64 h4,.int .i64 t] 2) (some (.int .i64 n)) none none=some (be ([h0,h1,h2,h3,h4].drop n.toNat)):=BR h
theorem sY{n:Int}(h:0<=n/\n<=5)(a b h0 h1 h2 h3 h4 t:Int):lS 5 (.iptr [.int .i64 a,.int .i64 b,.int .i64 h0,.int .i64 h1,.int .i64 h2,.int .i64 h3,.int .i64 h4,.int .i64 t] 2) none (some (.int .i64 n)) none=some (be ([h0,h1,h2,h3,h4].take n.toNat)):=BW h
theorem Aj{a b h0 h1 h2 h3 h4 t:Int}:lS 5 (.iptr [.int .i64 a,.int .i64 b,.int .i64 h0,.int .i64 h1,.int .i64 h2,.int .i64 h3,.int .i64 h4,.int .i64 t] 2) none none none=some (be [h0,h1,h2,h3,h4]):=rfl
def orI:List Int->Int
 |[]=>0
 |x::l=>if x≠0 then x else orI l
def StepV.key(s:StepV):List Int:=s.round::s.proc::s.heard
def iz(a b:StepV):Int:=iY a.key b.key
theorem mg(x y:Int)(l k:List Int):iY (x::l) (y::k)=if (if x<y then(-1:Int) else if x>y then 1 else 0)≠0 then(if x<y then(-1:Int) else if x>y then 1 else 0) else iY l k:=by
 simp only[iY];by_cases h:x<y
 ·simp only[if_pos h];rw[if_pos (by decide)]
 ·simp only[if_neg h];by_cases h2:x>y
  ·simp only[if_pos h2];rw[if_pos (by decide)]
  ·simp only[if_neg h2];rw[if_neg (by decide)]
theorem yE(a b:StepV):iz a b=orI [if a.round<b.round then-1 else if a.round>b.round then 1 else 0,if a.proc<b.proc then-1 else if a.proc>b.proc then 1 else 0,iY a.heard b.heard]:=by
 unfold iz StepV.key;rw[mg,mg];simp only[orI]
 congr 1
 congr 1
 split
 ·rfl
 ·omega
def fW(m:MachV)(x:StepV)(q:Nat):Bool:=if (q:Int)=x.proc then inB (x.heard.getD q default) 0 ((((m.out.getD x.round.toNat default).getD q default).length:Int)-1) else inB (x.heard.getD q default) (-1) 1048576
def fZ(m:MachV)(x:StepV):Int:=
 if !(inB x.round 0 (m.rounds-1)&&(inB x.proc 0 (m.n-1)&&inB x.to 0 ((((m.out.getD (x.round+1).toNat default).getD x.proc.toNat default).length:Int)-1))) then 2 else
 if !dN (x.heard.drop m.n.toNat) (-1) (-1) then 3 else if !(List.range m.n.toNat).all (λq=>fW m x q) then 2 else 0
section
attribute [local irreducible] aJ ak bI bA bl bf aC bn bF cb Go.Abs.Fn bD Go.Abs.Pure ax aQ Yl
theorem oV(n a b:Int):pU 55 [.int .i64 n,.int .i64 a,.int .i64 b] (.bool (inB n a b)):=by
 refine pO Dd ?_;simp only[b55,aS]
 repeat' (first|refine zW ?_|apply a_n|refine zO ?_|refine vZ ?_|refine gTZ ?_|refine gFZ ?_|(refine zGZ ?_ ?_<;>(intro _hg;try (exfalso;omega)))|refine ae rfl ?_|refine r1Z ?_|fail)
 all_goals (refine ap ?_;unfold inB)
 ·exact decide_eq_decide.2 (by omega)
 ·rw[bq (by omega)]
theorem BD(n a b:Int):pU 96 [.int .i64 n,.iptr [.int .i64 a] 0,.iptr [.int .i64 b] 0] (.bool (!inB n a b)):=by
 refine pO DG ?_;simp only[b96,aS]
 repeat' (first|refine zW ?_|apply a_n|refine zO ?_|refine vZ ?_|refine cZ ?_ (hp:=by exact oV _ _ _)|refine ae rfl ?_|refine r1Z ?_|fail)
 exact .bool _
theorem xp(l:List Int)(a b:Int)(hl:Sh l):pU 81 [be l,.int .i64 a,.int .i64 b] (.bool (dN l a b)):=by
 refine pO CZ ?_;simp only[b81,aS]
 repeat' (first|refine zW ?_|apply a_n|refine zO ?_|refine vZ ?_|refine bxZ ?_|fail)
 refine mo ev0 ev0 (u0 l (λn=>!inB n a b) 96 [.iptr [.int .i64 a] 0,.iptr [.int .i64 b] 0] (DatL.cons (Dat.iptr (DatL.cons .int DatL.nil)) (DatL.cons (Dat.iptr (DatL.cons .int DatL.nil)) DatL.nil)) (λx _=>BD x a b) hl) (aq (by(repeat' (first|exact ar|exact Dat.snap Dat.int|exact Dat.snap Dat.bool|exact Dat.snap Dat.str|exact Dat.snap Dat.esl|exact Dat.snap Dat.nilf|exact Dat.snap (cW _)|exact Dat.snap (de _)|apply aV|apply sb|apply xC|(apply gu;(focus ((try simp only[bS,ZA,reduceEqDiff,↓reduceIte,reduceAdd,reduceLeDiff]);with_reducible rfl));(focus rfl))))) rfl) ?_
 repeat' (first|apply a_n|refine zO ?_|refine vZ ?_|refine ae rfl ?_|refine r1Z ?_|fail)
 refine ap ?_;unfold dN;rw[List.not_any_eq_all_not];simp
def en(l:List (List Int)):Nat:=(l.map List.length).sum
def dG(m:MachV):Nat:=(m.out.map en).sum
theorem sA(l:List (List Int))(x:List Int):en (l++[x])=en l+x.length:=by simp[en]
theorem mO(l:List (List (List Int)))(x:List (List Int)):((l++[x]).map en).sum=(l.map en).sum+en x:=by simp
theorem xY(l:List (List Int))(k:Nat):en (l.take k)<=en l:=by
 conv=>rhs;rw[<-wq k l]
 simp only[en,eU,List.sum_append];omega
theorem tz(l:List (List (List Int)))(k:Nat):((l.take k).map en).sum<=(l.map en).sum:=by
 conv=>rhs;rw[<-wq k l]
 simp only[eU,List.sum_append];omega
theorem y2(m:MachV)(hl:Sh m.out)(hs:dG m<=9223372036854775807)(h2:∀l∈m.out,Sh l):pU 57 [bV m] (.int .i64 (dG m)):=by
 refine pO DQ ?_;simp only[b57,aS];have hl':m.out.length<=9223372036854775807:=hl;have zz:=@ME;repeat' (first|refine zW ?_|apply a_n|refine zO ?_|refine vZ ?_|refine bxZ ?_|fail)
 refine fg (X:=Nat) (λk=>[(3,.int .i64 (((m.out.take k).map en).sum:Nat)),(9,aN m.out),(10,.int .i64 m.out.length),(11,.int .i64 k)]) (λk=>k<=m.out.length) (λk=>m.out.length-k) 0 (bZ _) (by simp (disch:=omega) only[agr,ZG,reduceEqDiff,↓reduceIte,List.take_zero,List.map_nil,List.sum_nil]) ?_;rintro k h1;by_cases hk:k<m.out.length
 ·have hm:=h2 _ (aj hk);have ht:=bT hk;have hb:=tz m.out (k+1);rw[ht,mO] at hb;unfold dG at hs;generalize hc:m.out.getD k default=c at *;have hc':c.length<=9223372036854775807:=hm;clear zz;have zz:=aI @ME @hc;repeat' (first|refine zW ?_|apply a_n|refine zO ?_|refine vZ ?_|(refine zGZ ?_ ?_<;>(intro _hg;try (exfalso;omega)))|fail)
  refine fg (X:=Nat) (λj=>[(3,.int .i64 ((((m.out.take k).map en).sum+en (c.take j):Nat):Int)),(9,aN m.out),(10,.int .i64 m.out.length),(11,.int .i64 k),(15,aF c),(16,.int .i64 c.length),(17,.int .i64 j)]) (λj=>j<=c.length) (λj=>c.length-j) 0 (bZ _) (by simp (disch:=omega) only[agr,ZG,reduceEqDiff,↓reduceIte,List.take_zero,show en []=0 from rfl,rB]) ?_;rintro j h3;by_cases hj:j<c.length
  ·have ht2:=bT hj;have hb2:=xY c (j+1);rw[ht2,sA] at hb2;clear zz;have zz:=@ME;repeat' (first|refine zW ?_|apply a_n|refine zO ?_|refine vZ ?_|(refine zGZ ?_ ?_<;>(intro _hg;try (exfalso;omega)))|fail)
   refine⟨j+1,by omega,by omega,?_,rfl,rfl⟩;rw[ht2,sA];simp (disch:=omega) only[agr,ZG,reduceEqDiff,↓reduceIte,show((((m.out.take k).map en).sum+(en (c.take j)+(c.getD j default).length):Nat):Int)=((((m.out.take k).map en).sum+en (c.take j):Nat):Int)+((c.getD j default).length:Int) by omega]
  ·clear zz;have zz:=@ME;repeat' (first|refine zW ?_|apply a_n|apply a_x|refine zO ?_|refine vZ ?_|(refine zGZ ?_ ?_<;>(intro _hg;try (exfalso;omega)))|fail)
   refine⟨k+1,by omega,by omega,?_,rfl,rfl⟩;rw[ht,mO,gP (show c.length<=j by omega)];simp (disch:=omega) only[agr,ZG,reduceEqDiff,↓reduceIte]
 ·clear zz;have zz:=@ME;repeat' (first|refine zW ?_|apply a_n|apply a_x|refine zO ?_|refine vZ ?_|(refine zGZ ?_ ?_<;>(intro _hg;try (exfalso;omega)))|refine ae rfl ?_|refine r1Z ?_|fail)
  rw[gP (by omega)];exact .int _ _
theorem zK(m:MachV)(hs:ShM m)(hn:1<=m.n/\m.n<=5)(hr:0<=m.rounds/\m.rounds<=6):pU 56 [bV m] (.bool (bU m)):=by
 refine pO DX ?_;simp only[b56,aS];obtain⟨s1,s2,s3,s4,s5,s5b,s6,s7,s8,s9,s10⟩:=hs;have e1:m.first.length<=9223372036854775807:=s1
 have e2:m.out.length<=9223372036854775807:=s3;have e3:m.symbols.length<=9223372036854775807:=s6;refine bW ?_;have zz:=@ME;repeat' (first|apply a_n|refine zO ?_|refine vZ ?_|refine bxZ ?_|fail)
 refine cw (λT H nx=>T 1=.ptr 0 8 0/\H=ah bi 0 m.cells/\((m.first.length:Int)=m.n/\(m.out.length:Int)=m.rounds+1/\(m.symbols.length:Int)=m.rounds)) ?_ ?_
 ·clear zz;have zz:=@ME;repeat' (first|refine zW ?_|apply a_n|apply a_r|refine zO ?_|refine vZ ?_|refine gTZ ?_|refine gFZ ?_|refine cTZ ?_|(refine zGZ ?_ ?_<;>(intro _hg;try (exfalso;omega)))|refine ae rfl ?_|refine r1Z ?_|fail)
  all_goals first
   |exact⟨rfl,rfl,by omega,by omega,by omega⟩
   | (refine ap ?_
      unfold bU;rw[bq (by omega)];rfl)
 rintro T H nx ⟨t1,rfl,hl⟩
 have hb:bU m=(m.first.all (λl=>decide ((l.length:Int)=m.ins))&&(m.out.all (λl=>decide ((l.length:Int)=m.n))&&(List.range m.symbols.length).all (λk=>mR m k))):=by
  unfold bU;rw[bk hl,Bool.true_and]
 rw[hb];clear zz;clear hb;refine cw (λT H nx=>T 1=.ptr 0 8 0/\H=ah bi 0 m.cells/\m.first.all (λl=>decide ((l.length:Int)=m.ins))=true) ?_ ?_
 ·have zz:=aI @ME @t1;repeat' (first|refine zW ?_|apply a_n|refine zO ?_|refine vZ ?_|fail)
  refine ee (λk=>[(1,.ptr 0 8 0),(38,aF m.first),(39,.int .i64 m.first.length),(40,.int .i64 k)]) m.first.length (λk=>((m.first.getD k default).length:Int)=m.ins) (have zz:=@t1;agZ) ?_
  rintro k h1 h2;have hsk:k<m.first.length->(m.first.getD k default).length<=9223372036854775807:=λh=>s2 _ (aj h)
  clear zz;have zz:=@ME;repeat' (first|refine zW ?_|apply a_n|apply a_x|apply a_r|refine zO ?_|refine vZ ?_|(refine zGZ ?_ ?_<;>(intro _hg;try (exfalso;omega)))|refine ae rfl ?_|refine r1Z ?_|fail)
  ·refine ap ?_;have:m.first.all (λl=>decide ((l.length:Int)=m.ins))=false:=eC (k:=k) (by omega) (bq (by omega))
   rw[this];rfl
  ·exact⟨by omega,by omega,ag0,rfl,rfl⟩
  ·exact⟨rfl,rfl,eP λi hi=>bk (h2 i (by omega))⟩
 clear t1;rintro T H nx ⟨t1,rfl,h1⟩;rw[h1,Bool.true_and];clear h1;refine cw (λT H nx=>T 1=.ptr 0 8 0/\H=ah bi 0 m.cells/\∀i,i<m.out.length->((m.out.getD i default).length:Int)=m.n) ?_ ?_
 ·have zz:=aI @ME @t1;repeat' (first|refine zW ?_|apply a_n|refine zO ?_|refine vZ ?_|fail)
  refine ee (λk=>[(1,.ptr 0 8 0),(51,aN m.out),(52,.int .i64 m.out.length),(53,.int .i64 k)]) m.out.length (λk=>((m.out.getD k default).length:Int)=m.n) (have zz:=@t1;agZ) ?_;rintro k h1 h2;clear zz;have zz:=@ME;repeat' (first|refine zW ?_|apply a_n|apply a_x|apply a_r|refine zO ?_|refine vZ ?_|(refine zGZ ?_ ?_<;>(intro _hg;try (exfalso;omega)))|refine ae rfl ?_|refine r1Z ?_|fail)
  ·refine ap ?_;have:m.out.all (λl=>decide ((l.length:Int)=m.n))=false:=eC (k:=k) (by omega) (bq (by omega));rw[this];rfl
  ·exact⟨by omega,by omega,ag0,rfl,rfl⟩
  ·exact⟨rfl,rfl,λi hi=>h2 i (by omega)⟩
 clear t1;rintro T H nx ⟨t1,rfl,ho⟩;have ho1:m.out.all (λl=>decide ((l.length:Int)=m.n))=true:=eP λi hi=>bk (ho i hi);rw[ho1,Bool.true_and];have zz:=aI @ME @t1;repeat' (first|refine zW ?_|apply a_n|refine zO ?_|refine vZ ?_|fail)
 refine ee (λk=>[(1,.ptr 0 8 0),(64,b9 m.symbols),(65,.int .i64 m.symbols.length),(66,.int .i64 k)]) m.symbols.length (λk=>mR m k=true) (have zz:=@t1;agZ) ?_;clear zz;clear t1;rintro k h1 h2;by_cases hk:k<m.symbols.length
 rotate_left
 ·have zz:=@ME;repeat' (first|refine zW ?_|apply a_n|apply a_x|refine zO ?_|refine vZ ?_|(refine zGZ ?_ ?_<;>(intro _hg;try (exfalso;omega)))|refine ae rfl ?_|refine r1Z ?_|fail)
  exact ap (cu λi hi=>h2 i (by omega)).symm
 have hok:=ho k (by omega);have hsk:=s7 _ (aj hk);have hsk2:=s8 _ (aj hk);have hsk3:=s9 _ (aj hk);have hk0:mR m k=(decide (((m.symbols.getD k default).length:Int)=m.n)&&(List.range (m.symbols.getD k default).length).all λp=>oh m k p):=rfl;have hpd:∀p,oh m k p=(decide ((((m.symbols.getD k default).getD p default).length:Int)=m.n)&&(List.range ((m.symbols.getD k default).getD p default).length).all λq=>jV m k p q):=λp=>rfl;have hqd:∀p q,jV m k p q=decide (((((m.symbols.getD k default).getD p default).getD q default).length:Int)=if p=q then 0 else(((m.out.getD k default).getD p default).length:Int)):=λp q=>rfl;generalize hS:m.symbols.getD k default=S at *;have hS':S.length<=9223372036854775807:=hsk;have zz:=aI @ME @hS;repeat' (first|refine zW ?_|apply a_n|apply a_r|refine zO ?_|refine vZ ?_|(refine zGZ ?_ ?_<;>(intro _hg;try (exfalso;omega)))|refine ae rfl ?_|refine r1Z ?_|fail)
 ·refine ap ?_
  symm
  refine bb hk ?_;rw[hk0,bq ‹_›];rfl
 refine ee (λp=>[(1,.ptr 0 8 0),(7,.int .i64 k),(64,b9 m.symbols),(65,.int .i64 m.symbols.length),(66,.int .i64 k),(76,aN S),(77,.int .i64 S.length),(78,.int .i64 p)]) S.length (λp=>oh m k p=true) ag0 ?_;rintro p g1 g2;by_cases hp:p<S.length
 rotate_left
 ·clear zz;have zz:=@ME;repeat' (first|refine zW ?_|apply a_n|apply a_x|refine zO ?_|refine vZ ?_|(refine zGZ ?_ ?_<;>(intro _hg;try (exfalso;omega)))|fail)
  refine⟨by omega,?_,ag0,rfl,rfl⟩;rw[hk0,bk (by omega),Bool.true_and];exact cu λi hi=>g2 i (by omega)
 have hsp:=hsk2 _ (aj hp);have hsp2:=hsk3 _ (aj hp);have hpd:=hpd p;have hqd:=hqd p;generalize hR:S.getD p default=R at *;have hR':R.length<=9223372036854775807:=hsp;clear zz;have zz:=aI @ME @hR;repeat' (first|refine zW ?_|apply a_n|apply a_r|refine zO ?_|refine vZ ?_|(refine zGZ ?_ ?_<;>(intro _hg;try (exfalso;omega)))|refine ae rfl ?_|refine r1Z ?_|fail)
 ·refine ap ?_
  symm
  refine bb hk ?_;rw[hk0,bb hp (by rw[hpd,bq ‹_›];rfl),Bool.and_false]
 refine ee (λq=>[(1,.ptr 0 8 0),(7,.int .i64 k),(9,.int .i64 p),(64,b9 m.symbols),(65,.int .i64 m.symbols.length),(66,.int .i64 k),(76,aN S),(77,.int .i64 S.length),(78,.int .i64 p),(88,aF R),(89,.int .i64 R.length),(90,.int .i64 q)]) R.length (λq=>jV m k p q=true) ag0 ?_;rintro q f1 f2;by_cases hq:q<R.length
 rotate_left
 ·clear zz;have zz:=@ME;repeat' (first|refine zW ?_|apply a_n|apply a_x|refine zO ?_|refine vZ ?_|(refine zGZ ?_ ?_<;>(intro _hg;try (exfalso;omega)))|fail)
  refine⟨by omega,?_,ag0,rfl,rfl⟩;rw[hpd,bk (by omega),Bool.true_and];exact cu λi hi=>f2 i (by omega)
 have hqd:=hqd q;have hsq:=hsp2 _ (aj hq);have hsq':(R.getD q default).length<=9223372036854775807:=hsq;clear zz;have zz:=@ME;repeat' (first|refine zW ?_|apply a_n|apply a_r|refine zO ?_|refine vZ ?_|(refine zGZ ?_ ?_<;>(intro _hg;try (exfalso;omega)))|refine ae rfl ?_|refine r1Z ?_|fail)
 all_goals first
  | (refine ap ?_
     symm
     refine bb hk ?_;rw[hk0,bb hp (by rw[hpd,bb hq (by rw[hqd,bq (by split<;>omega)]),Bool.and_false]),Bool.and_false])
  | (refine ⟨by omega,?_,ag0,rfl,rfl⟩
     rw[hqd,bk (by split<;>omega)])
theorem xO(m:MachV)(x:List Int)(hx:Sh x)(ho:1<=m.outs/\m.outs<=8):pU 83 [be x,.iptr m.cells 0] (.bool (!dN x (-1) (m.outs-1))):=by
 refine pO DH ?_;simp only[b83,aS];have zz:=@ME;repeat' (first|refine zW ?_|apply a_n|refine zO ?_|refine vZ ?_|refine cZ ?_ (hp:=by exact xp _ _ _ hx)|refine ae rfl ?_|refine r1Z ?_|fail)
 exact .bool _
theorem xW(x:List Int)(hx:Sh x):pU 84 [be x] (.bool (!dN x 0 1048576)):=by
 refine pO Di ?_;simp only[b84,aS]
 repeat' (first|refine zW ?_|apply a_n|refine zO ?_|refine vZ ?_|refine cZ ?_ (hp:=by exact xp _ _ _ hx)|refine ae rfl ?_|refine r1Z ?_|fail)
 exact .bool _
theorem vo{α:Type}{l:List α}{p:α->Bool}:(!l.any λx=>!p x)=l.all p:=by
 rw[List.not_any_eq_all_not];simp
theorem oT{α:Type}{l:List α}{p:α->Bool}:(l.any λx=>!p x)=!l.all p:=by
 rw[<-vo,Bool.not_not]
theorem zH(m:MachV)(hs:ShM m)(hn:1<=m.n/\m.n<=5)(hr:0<=m.rounds/\m.rounds<=6)(ho:1<=m.outs/\m.outs<=8)(hsh:bU m=true):pU 58 [bV m] (.bool (cS m)):=by
 refine pO De ?_;simp only[b58,aS];obtain⟨s1,s2,s3,s4,s5,s5b,s6,s7,s8,s9,s10⟩:=hs;have e1:m.first.length<=9223372036854775807:=s1
 have e2:m.out.length<=9223372036854775807:=s3;have e3:m.symbols.length<=9223372036854775807:=s6;obtain⟨l1,l2,l3⟩:=cK hsh;have l0:=co hsh (k:=0) (by omega);refine bW ?_;have zz:=@ME;repeat' (first|apply a_n|refine zO ?_|refine vZ ?_|refine bxZ ?_|fail)
 refine cw (λT H nx=>T 1=.ptr 0 8 0/\H=ah bi 0 m.cells/\(List.range m.first.length).all (λp=>iy m p)=true) ?_ ?_
 ·clear zz;have zz:=@ME;repeat' (first|refine zW ?_|apply a_n|refine zO ?_|refine vZ ?_|fail)
  refine ee (λk=>[(1,.ptr 0 8 0),(12,aF m.first),(13,.int .i64 m.first.length),(14,.int .i64 k)]) m.first.length (λk=>iy m k=true) (by simp (disch:=omega) only[agr,ZG,reduceEqDiff,↓reduceIte,gI,my,reduceAdd,eF]) ?_
  rintro k h1 h2;by_cases hk:k<m.first.length
  rotate_left
  ·clear zz;have zz:=@ME;repeat' (first|refine zW ?_|apply a_n|apply a_x|refine zO ?_|refine vZ ?_|(refine zGZ ?_ ?_<;>(intro _hg;try (exfalso;omega)))|fail)
   exact⟨rfl,rfl,cu λi hi=>h2 i (by omega)⟩
  have ha:=s2 _ (aj hk);have hb:=s5 _ (aj (l:=m.out) (k:=0) (by omega)) _ (aj (l:=m.out.getD 0 default) (k:=k) (by omega));have hb':((m.out.getD 0 default).getD k default).length<=9223372036854775807:=hb;have hac:=xp (m.first.getD k default) (-1) (((m.out.getD 0 default).getD k default).length-1) ha;clear zz;have zz:=aI @ME @Int.toNat_zero;repeat' (first|refine zW ?_|apply a_n|apply a_r|refine zO ?_|refine vZ ?_|refine cZ ?_ (hp:=hac)|(refine zGZ ?_ ?_<;>(intro _hg;try (exfalso;omega)))|refine ae rfl ?_|refine r1Z ?_|fail)
  ·refine ap ?_;unfold cS;rw[bb hk (by simpa[iy] using ‹_›)];rfl
  ·refine⟨hk,by simpa[iy] using ‹_›,ag0,rfl,rfl⟩
 rintro T H nx ⟨t1,rfl,h1⟩
 have hb:cS m=(m.out.all (λl=>l.all λx=>dN x (-1) (m.outs-1))&&m.symbols.all (λs=>s.all λl=>l.all λx=>dN x 0 1048576)):=by
  unfold cS;rw[h1,Bool.true_and]
 rw[hb];clear zz;clear hb h1;refine cw (λT H nx=>T 1=.ptr 0 8 0/\H=ah bi 0 m.cells/\m.out.all (λl=>l.all λx=>dN x (-1) (m.outs-1))=true) ?_ ?_
 ·have zz:=aI @ME @t1;repeat' (first|refine zW ?_|apply a_n|refine zO ?_|refine vZ ?_|fail)
  refine ee (λk=>[(1,.ptr 0 8 0),(33,aN m.out),(34,.int .i64 m.out.length),(35,.int .i64 k)]) m.out.length (λk=>((m.out.getD k default).all λx=>dN x (-1) (m.outs-1))=true) (have zz:=@t1;agZ) ?_;rintro k h1 h2;by_cases hk:k<m.out.length
  rotate_left
  ·clear zz;have zz:=@ME;repeat' (first|refine zW ?_|apply a_n|apply a_x|refine zO ?_|refine vZ ?_|(refine zGZ ?_ ?_<;>(intro _hg;try (exfalso;omega)))|fail)
   exact⟨rfl,rfl,eP λi hi=>h2 i (by omega)⟩
  have hm:=aj hk;clear zz;have zz:=@ME;repeat' (first|refine zW ?_|apply a_n|refine zO ?_|refine vZ ?_|(refine zGZ ?_ ?_<;>(intro _hg;try (exfalso;omega)))|fail)
  refine mo (xs:=[aF (m.out.getD k default),.func 83 [.ptr 0 8 0]]) (ys:=[aF (m.out.getD k default),.func 83 [.iptr m.cells 0]]) ev0 ev0 (mr (m.out.getD k default) (λx=>!dN x (-1) (m.outs-1)) 83 [.iptr m.cells 0] (DatL.cons (Dat.iptr (qw m)) DatL.nil) (λx hx=>xO m x (s5 _ hm x hx) ho) (s4 _ hm)) (aq (aV (de _ _) (aV (sb (aV (gu (b:=0) (n:=8) (cs:=m.cells) (have zz:=@ME;evZ) rfl (dV (qw m))) ar)) ar)) rfl) ?_;rw[oT];clear zz;have zz:=@ME;repeat' (first|refine zW ?_|apply a_n|apply a_r|refine zO ?_|refine vZ ?_|(refine zGZ ?_ ?_<;>(intro _hg;try (exfalso;omega)))|refine ae rfl ?_|refine r1Z ?_|fail)
  ·refine ap ?_;have:m.out.all (λl=>l.all λx=>dN x (-1) (m.outs-1))=false:=eC hk _hg;rw[this];rfl
  ·exact⟨hk,_hg,ag0,rfl,rfl⟩
 clear t1;rintro T H nx ⟨t1,rfl,h1⟩;rw[h1,Bool.true_and];clear h1;have zz:=aI @ME @t1;repeat' (first|refine zW ?_|apply a_n|refine zO ?_|refine vZ ?_|fail)
 refine ee (λk=>[(1,.ptr 0 8 0),(44,b9 m.symbols),(45,.int .i64 m.symbols.length),(46,.int .i64 k)]) m.symbols.length (λk=>((m.symbols.getD k default).all λl=>l.all λx=>dN x 0 1048576)=true) (have zz:=@t1;agZ) ?_;clear zz;clear t1;rintro k h1 h2;by_cases hk:k<m.symbols.length
 rotate_left
 ·have zz:=@ME;repeat' (first|refine zW ?_|apply a_n|apply a_x|refine zO ?_|refine vZ ?_|(refine zGZ ?_ ?_<;>(intro _hg;try (exfalso;omega)))|refine ae rfl ?_|refine r1Z ?_|fail)
  exact ap (eP λi hi=>h2 i (by omega)).symm
 have hsk:=s7 _ (aj hk);have hsk2:=s8 _ (aj hk);have hsk3:=s9 _ (aj hk);have hfl:∀p,p<(m.symbols.getD k default).length->(((m.symbols.getD k default).getD p default).all λx=>dN x 0 1048576)=false->m.symbols.all (λs=>s.all λl=>l.all λx=>dN x 0 1048576)=false:=λp hp h=>eC hk (eC hp h);generalize hS:m.symbols.getD k default=S at *;have hS':S.length<=9223372036854775807:=hsk;have zz:=aI @ME @hS;repeat' (first|refine zW ?_|apply a_n|refine zO ?_|refine vZ ?_|(refine zGZ ?_ ?_<;>(intro _hg;try (exfalso;omega)))|fail)
 refine ee (λp=>[(1,.ptr 0 8 0),(44,b9 m.symbols),(45,.int .i64 m.symbols.length),(46,.int .i64 k),(50,aN S),(51,.int .i64 S.length),(52,.int .i64 p)]) S.length (λp=>((S.getD p default).all λx=>dN x 0 1048576)=true) ag0 ?_;rintro p g1 g2;by_cases hp:p<S.length
 rotate_left
 ·clear zz;have zz:=@ME;repeat' (first|refine zW ?_|apply a_n|apply a_x|refine zO ?_|refine vZ ?_|(refine zGZ ?_ ?_<;>(intro _hg;try (exfalso;omega)))|fail)
  exact⟨by omega,eP λi hi=>g2 i (by omega),ag0,rfl,rfl⟩
 have hm:=aj hp;have hc:=mr (S.getD p default) (λx=>!dN x 0 1048576) 84 [] DatL.nil (λx hx=>xW x (hsk3 _ hm x hx)) (hsk2 _ hm);rw[oT] at hc;clear zz;have zz:=@ME;repeat' (first|refine zW ?_|apply a_n|apply a_r|refine zO ?_|refine vZ ?_|refine cZ ?_ (hp:=hc) (hs:=by(first|refine aq ?_ rfl|apply az);(repeat' (first|exact ar|apply aO|apply ay|exact Dat.func DatL.nil));first|done|fail)|(refine zGZ ?_ ?_<;>(intro _hg;try (exfalso;omega)))|refine ae rfl ?_|refine r1Z ?_|fail)
 ·exact ap (hfl p hp _hg).symm
 ·exact⟨hp,_hg,ag0,rfl,rfl⟩
theorem D3(l:List Int)(hl:Sh l):pU 85 [be l] (.int .i64 (orI l)):=by
 refine pO D9 ?_;simp only[b85,aS];have hl':l.length<=9223372036854775807:=hl
 repeat' (first|refine zW ?_|apply a_n|refine zO ?_|refine vZ ?_|fail)
 refine fg (X:=Nat) (λk=>[(3,.int .i64 0),(6,be l),(7,.int .i64 l.length),(8,.int .i64 k)]) (λk=>k<=l.length/\orI l=orI (l.drop k)) (λk=>l.length-k) 0 ⟨bZ _,rfl⟩ ag0 ?_;rintro k ⟨h1,h2⟩;by_cases hk:k<l.length
 ·have hd:=cP hk
  repeat' (first|refine zW ?_|apply a_n|apply a_r|refine zO ?_|refine vZ ?_|(refine zGZ ?_ ?_<;>(intro _hg;try (exfalso;omega)))|refine ae rfl ?_|refine r1Z ?_|fail)
  ·refine bE ?_;rw[h2,hd,orI,if_pos ‹_›]
  ·refine⟨k+1,⟨by omega,?_⟩,by omega,ag0,rfl,rfl⟩;rw[h2,hd,orI,if_neg ‹_›]
 ·repeat' (first|refine zW ?_|apply a_n|apply a_x|refine zO ?_|refine vZ ?_|(refine zGZ ?_ ?_<;>(intro _hg;try (exfalso;omega)))|refine ae rfl ?_|refine r1Z ?_|fail)
  refine bE ?_;rw[h2,ml (by omega)];rfl
theorem Ab(a b:StepV):pU 60 [ew a,ew b] (.int .i64 (iz a b)):=by
 refine pO Dt ?_;simp only[b60,aS];rw[yE];have hcp:=xT a.heard b.heard (by show _<=_;simp[StepV.heard]) (by show _<=_;simp[StepV.heard]);unfold StepV.heard at *;refine bW ?_;have zz:=@ME;repeat' (first|apply a_n|refine zO ?_|refine vZ ?_|refine bxZ ?_|fail)
 refine bW ?_;refine vj _ bi [(2,.iptr a.cells 0),(3,.iptr b.cells 0)] Fz.all ⟨.inr ?_,.inr ?_,trivial⟩ ?_
 ·((try simp only[bS,ZA,reduceEqDiff,↓reduceIte,reduceAdd,reduceLeDiff]);(try with_reducible rfl))
  exact gu (b:=0) (n:=8) (cs:=a.cells) (have zz:=@ME;evZ) rfl (dV (fp a))
 ·((try simp only[bS,ZA,reduceEqDiff,↓reduceIte,reduceAdd,reduceLeDiff]);(try with_reducible rfl))
  exact gu (b:=1) (n:=8) (cs:=b.cells) (have zz:=@ME;evZ) rfl (dV (fp b))
 clear zz;have zz:=aI @ME @Aj;repeat' (first|apply a_n|refine zO ?_|refine vZ ?_|refine cZ ?_ (hp:=by first|exact Bb _ _|exact hcp)|refine blZ ?_|fail)
 refine mo (xs:=[.msl 2 3 1 0 3]) ev0 ev0 (D3 [if a.round<b.round then-1 else if a.round>b.round then 1 else 0,if a.proc<b.proc then-1 else if a.proc>b.proc then 1 else 0,iY [a.h0,a.h1,a.h2,a.h3,a.h4] [b.h0,b.h1,b.h2,b.h3,b.h4]] (by show _<=_;simp)) (aq (aV (f5 ag rfl rfl) ar) rfl) ?_
 repeat' (first|apply a_n|refine zO ?_|refine vZ ?_|refine ae rfl ?_|refine r1Z ?_|fail)
 exact .int _ _
theorem Ck(m:MachV)(x:StepV)(hs:ShM m)(hn:1<=m.n/\m.n<=5)(hr:0<=m.rounds/\m.rounds<=6)(hsh:bU m=true):pU 59 [bV m,ew x] (.int .i64 (fZ m x)):=by
 refine pO D6 ?_;simp only[b59,aS];obtain⟨s1,s2,s3,s4,s5,s5b,s6,s7,s8,s9,s10⟩:=hs;have e2:m.out.length<=9223372036854775807:=s3;obtain⟨l1,l2,l3⟩:=cK hsh;refine bW ?_;have zz:=@ME;repeat' (first|apply a_n|refine zO ?_|refine vZ ?_|refine bxZ ?_|fail)
 refine cw (fun T H nx=>T 2=.ptr 0 8 0∧T 3=.ptr 1 8 0∧H=ah (ah bi 0 m.cells) 1 x.cells∧(0 ≤ x.round∧x.round ≤ m.rounds - 1∧0 ≤ x.proc∧x.proc ≤ m.n - 1) ∧
  (inB x.round 0 (m.rounds-1)&&(inB x.proc 0 (m.n-1)&&inB x.to 0 ((((m.out.getD (x.round+1).toNat default).getD x.proc.toNat default).length:Int)-1)))=true) ?_ ?_
 ·by_cases h1:0<=x.round/\x.round<=m.rounds-1
  rotate_left
  ·have i1:inB x.round 0 (m.rounds-1)=false:=bq h1;have hc:=oV x.round 0 (m.rounds-1);rw[i1] at hc;clear zz;have zz:=aI @ME @bm;repeat' (first|refine zW ?_|refine zM ?_|apply a_n|apply a_r|refine zO ?_|refine vZ ?_|refine cZ ?_ (hp:=hc)|refine gFZ ?_|refine cTZ ?_|refine ae rfl ?_|refine r1Z ?_|fail)
   refine bE ?_;unfold fZ;rw[i1];simp
  have i1:inB x.round 0 (m.rounds-1)=true:=bk h1;have hc:=oV x.round 0 (m.rounds-1);rw[i1] at hc;by_cases h2:0<=x.proc/\x.proc<=m.n-1
  rotate_left
  ·have i2:inB x.proc 0 (m.n-1)=false:=bq h2;have hc2:=oV x.proc 0 (m.n-1);rw[i2] at hc2;clear zz;have zz:=aI @ME @bm;repeat' (first|refine zW ?_|refine zM ?_|apply a_n|apply a_r|refine zO ?_|refine vZ ?_|refine cZ ?_ (hp:=by first|exact hc|exact hc2)|refine gTZ ?_|refine gFZ ?_|refine cTZ ?_|refine ae rfl ?_|refine r1Z ?_|fail)
   refine bE ?_;unfold fZ;rw[i1,i2];simp
  have i2:inB x.proc 0 (m.n-1)=true:=bk h2;have hc2:=oV x.proc 0 (m.n-1);rw[i2] at hc2;have hlo:=co hsh (k:=(x.round+1).toNat) (by omega);have hsz:=s5 _ (aj (l:=m.out) (k:=(x.round+1).toNat) (by omega)) _ (aj (l:=m.out.getD (x.round+1).toNat default) (k:=x.proc.toNat) (by omega));have hsz':((m.out.getD (x.round+1).toNat default).getD x.proc.toNat default).length<=9223372036854775807:=hsz;have hc3:=oV x.to 0 ((((m.out.getD (x.round+1).toNat default).getD x.proc.toNat default).length:Int)-1);cases i3:inB x.to 0 ((((m.out.getD (x.round+1).toNat default).getD x.proc.toNat default).length:Int)-1) with
  |false=>
   rw[i3] at hc3;clear zz;have zz:=aI @ME @bm;repeat' (first|refine zW ?_|refine zM ?_|apply a_n|apply a_r|refine zO ?_|refine vZ ?_|refine cZ ?_ (hp:=by first|exact hc|exact hc2|exact hc3)|refine gTZ ?_|refine cTZ ?_|refine ae rfl ?_|refine r1Z ?_|fail)
   refine bE ?_;unfold fZ;rw[i1,i2,i3];simp
  |true=>
   rw[i3] at hc3;clear zz;have zz:=aI @ME @bm;repeat' (first|refine zW ?_|refine zM ?_|apply a_n|refine zO ?_|refine vZ ?_|refine cZ ?_ (hp:=by first|exact hc|exact hc2|exact hc3)|refine gTZ ?_|refine cFZ ?_|fail)
   exact⟨rfl,rfl,rfl,⟨h1.1,h1.2,h2.1,h2.2⟩,by rw[i1,i2];rfl⟩
 rintro T H nx ⟨t2,t3,rfl,⟨r1,r2,r3,r4⟩,hb⟩
 have hst:fZ m x=if !dN (x.heard.drop m.n.toNat) (-1) (-1) then 3 else if !(List.range m.n.toNat).all (λq=>fW m x q) then 2 else 0:=by
  unfold fZ;rw[hb];rfl
 rw[hst];have hh:x.heard=[x.h0,x.h1,x.h2,x.h3,x.h4]:=rfl;have hlh:x.heard.length=5:=rfl;have hal:=xp (x.heard.drop m.n.toNat) (-1) (-1) (by show _<=_;rw[rz];omega);rw[hh] at hal;clear zz;clear hb hst;refine bW (bW ?_);refine eJ (only 1 x.cells) _ [(2,.ptr 0 8 0),(3,.iptr x.cells 0)] (Fz.one ev0) ⟨.inl t2,.inr ?_,trivial⟩ ?_
 ·rw[t3];exact gu (cs:=x.cells) j7 rfl (dV (fp x))
 have zz:=aI @ME ((zR (show 0<=m.n/\m.n<=5 by omega)));repeat' (first|refine zW ?_|apply a_n|apply a_r|refine zO ?_|refine vZ ?_|refine cZ ?_ (hp:=hal)|(refine zGZ ?_ ?_<;>(intro _hg;try (exfalso;omega)))|refine ae rfl ?_|refine r1Z ?_|fail)
 ·refine bE ?_;rw[hh,_hg];rfl
 have hg2:dN (x.heard.drop m.n.toNat) (-1) (-1)=true:=_hg;rw[hg2];simp only[Bool.not_true,bm,if_false];clear zz;have zz:=aI @ME ((sY (show 0<=m.n/\m.n<=5 by omega)));repeat' (first|refine zW ?_|apply a_n|refine zO ?_|refine vZ ?_|fail)
 have hlt:(x.heard.take m.n.toNat).length=m.n.toNat:=by rw[gN];omega
 refine ee (λq=>[(2,.ptr 0 8 0),(3,.iptr x.cells 0),(51,be (x.heard.take m.n.toNat)),(52,.int .i64 m.n.toNat),(53,.int .i64 q)]) m.n.toNat (λq=>fW m x q=true) (by simp (disch:=omega) only[agr,ZG,reduceEqDiff,↓reduceIte,show [x.h0,x.h1,x.h2,x.h3,x.h4]=x.heard from rfl,hlt]) ?_;rintro q f1 f2;by_cases hq:q<m.n.toNat
 rotate_left
 ·clear zz;have zz:=@ME;repeat' (first|refine zW ?_|apply a_n|apply a_x|refine zO ?_|refine vZ ?_|(refine zGZ ?_ ?_<;>(intro _hg;try (exfalso;omega)))|refine ae rfl ?_|refine r1Z ?_|fail)
  refine bE ?_;rw[cu λi hi=>f2 i (by omega)];rfl
 have hgt:(x.heard.take m.n.toNat).getD q default=x.heard.getD q default:=nP hq;have hlo:=co hsh (k:=x.round.toNat) (by omega);have hsz:=s5 _ (aj (l:=m.out) (k:=x.round.toNat) (by omega)) _ (aj (l:=m.out.getD x.round.toNat default) (k:=q) (by omega));have hsz':((m.out.getD x.round.toNat default).getD q default).length<=9223372036854775807:=hsz;have c1:=oV (x.heard.getD q default) 0 ((((m.out.getD x.round.toNat default).getD q default).length:Int)-1);have c2:=oV (x.heard.getD q default) (-1) 1048576;by_cases hqp:(q:Int)=x.proc
 ·have hv:fW m x q=inB (x.heard.getD q default) 0 ((((m.out.getD x.round.toNat default).getD q default).length:Int)-1):=by
    unfold fW;rw[if_pos hqp]
  rw[<-hv] at c1;have dq1:decide ((q:Int)=x.proc)=true:=bk hqp;have dq2:decide ((q:Int)≠x.proc)=false:=bq (λh=>h hqp);clear zz;have zz:=aI @ME (aI @hlt (aI @hgt (aI @dq1 (aI @dq2 @bm))));repeat' (first|refine zW ?_|apply a_n|apply a_r|refine zO ?_|refine vZ ?_|refine cZ ?_ (hp:=c1)|refine gTZ ?_|refine gFZ ?_|refine cTZ ?_|refine cFZ ?_|(refine zGZ ?_ ?_<;>(intro _hg;try (exfalso;omega)))|refine ae rfl ?_|refine r1Z ?_|fail)
  all_goals first
   |exact⟨hq,_hg,ag0,rfl,rfl⟩
   | (refine bE ?_
      rw[bb hq _hg];rfl)
 ·have hv:fW m x q=inB (x.heard.getD q default) (-1) 1048576:=by
    unfold fW;rw[if_neg hqp]
  rw[<-hv] at c2;have dq1:decide ((q:Int)=x.proc)=false:=bq hqp;have dq2:decide ((q:Int)≠x.proc)=true:=bk hqp;clear zz;have zz:=aI @ME (aI @hlt (aI @hgt (aI @dq1 (aI @dq2 @bm))));repeat' (first|refine zW ?_|apply a_n|apply a_r|refine zO ?_|refine vZ ?_|refine cZ ?_ (hp:=c2)|refine gTZ ?_|refine gFZ ?_|(refine zGZ ?_ ?_<;>(intro _hg;try (exfalso;omega)))|refine ae rfl ?_|refine r1Z ?_|fail)
  all_goals first
   |exact⟨hq,_hg,ag0,rfl,rfl⟩
   | (refine bE ?_
      rw[bb hq _hg];rfl)
end
def fx(m:MachV):Option StepV->List StepV->Int
 |_,[]=>0
 |prev,s::l=>if fZ m s≠0 then fZ m s else if prev.any (λp=>decide (0<=iz p s))=true then 14 else fx m (some s) l
def lh(m:MachV):Bool:=inB m.n 1 5&&(inB m.rounds 0 6&&(inB m.ins 1 8&&inB m.outs 1 8))
def dx(m:MachV):Int:=
 if !lh m then 2 else if !bU m then 15 else if 8192<dG m\/65536<m.steps.length then 5 else if !cS m then 2 else fx m none m.steps
def rF(m:MachV)(k:Nat):Option StepV:=if k=0 then none else some (m.steps.getD (k-1) default)
theorem AI{l:List (List Int)}{b:Nat}(h:∀x∈l,x.length<=b):en l<=l.length*b:=by
 induction l with
 |nil=>simp[en]
 |cons x l ih=>
  have h1:=h x (by simp);have h2:=ih (λy hy=>h y (by simp[hy]));simp only[en,gD,List.sum_cons,gI] at h2 |-;rw[fi];omega
theorem wI{l:List (List (List Int))}{b:Nat}(h:∀x∈l,en x<=b):(l.map en).sum<=l.length*b:=by
 induction l with
 |nil=>simp
 |cons x l ih=>
  have h1:=h x (by simp);have h2:=ih (λy hy=>h y (by simp[hy]));simp only[gD,List.sum_cons,gI] at h2 |-;rw[fi];omega
theorem rM{m:MachV}(hs:ShM m)(hn:1<=m.n/\m.n<=5)(hr:0<=m.rounds/\m.rounds<=6)(hsh:bU m=true):dG m<=7*(5*140737488355328):=by
 obtain⟨l1,l2,l3⟩:=cK hsh
 have h:∀x∈m.out,en x<=5*140737488355328:=λx hx=>by
  refine gK (AI (hs.out3 x hx)) (gF _ ?_);obtain⟨i,hi,e⟩:=wh hx;have:=co hsh hi;rw[show m.out.getD i default=x by simp[List.getD,hi,e]] at this;omega
 have h2:=wI h;have h3:m.out.length*(5*140737488355328)<=7*(5*140737488355328):=gF _ (by omega);exact gK h2 h3
structure PlaceV where
 r:Int
 f:Int
 t:Int
 deriving DecidableEq,Inhabited
def fS(x:PlaceV):AV:=.agg [.int .i64 x.r,.int .i64 x.f,.int .i64 x.t]
theorem qY(x:PlaceV):Dat (fS x):=Dat.agg (DatL.cons .int (DatL.cons .int (DatL.cons .int DatL.nil)))
theorem Av(a b:PlaceV):mV (.st [.int,.int,.int]) (fS a) (fS b)=some (decide (a=b)):=by
 obtain⟨a1,a2,a3⟩:=a;obtain⟨b1,b2,b3⟩:=b;have e:∀a b:Int,(a==b)=decide (a=b):=λa b=>by rw[Bool.eq_iff_iff];simp
 simp only[mV,fS,cR,ke,if_true,e,PlaceV.mk.injEq];by_cases h1:a1=b1
 ·by_cases h2:a2=b2
  ·by_cases h3:a3=b3
   ·simp only[h1,h2,h3,decide_true,and_self]
   ·simp only[h1,h2,h3,decide_true,decide_false,and_false]
  ·by_cases h3:a3=b3
   ·simp only[h1,h2,h3,decide_true,decide_false,and_true,and_false]
   ·simp only[h1,h2,h3,decide_true,decide_false,and_true,and_false]
 ·by_cases h2:a2=b2
  ·by_cases h3:a3=b3
   ·simp only[h1,h2,h3,decide_true,decide_false,false_and]
   ·simp only[h1,h2,h3,decide_true,decide_false,false_and]
  ·by_cases h3:a3=b3
   ·simp only[h1,h2,h3,decide_true,decide_false,false_and]
   ·simp only[h1,h2,h3,decide_true,decide_false,false_and]
theorem xx(v:PlaceV)(ks:List PlaceV):dE (.st [.int,.int,.int]) (fS v) (ks.map fS)=some (if v∈ks then some (ks.idxOf v) else none):=rV _ fS Av v ks
def dF(m:MachV)(r f t:Int):Int:=if dx m≠0 then dx m else if r<0\/m.rounds<=r\/f<0\/m.n<=f\/t<0\/m.n<=t then 2 else if f=t then 11 else 0
def ki(m:MachV)(x:PlaceV):List Int:=((m.symbols.getD x.r.toNat default).getD x.f.toNat default).getD x.t.toNat default
structure GoodM(m:MachV):Prop where
 n:1<=m.n/\m.n<=5
 r:0<=m.rounds/\m.rounds<=6
 i:1<=m.ins/\m.ins<=8
 o:1<=m.outs/\m.outs<=8
 sh:bU m=true
 rg:cS m=true
 st:dG m<=8192
 sl:m.steps.length<=65536
 sf:fx m none m.steps=0
theorem mL{m:MachV}(h:dx m=0):GoodM m:=by
 unfold dx at h;cases h1:lh m with
 |false=>rw[h1] at h;cases h
 |true=>
  cases h2:bU m with
  |false=>rw[h1,h2] at h;cases h
  |true=>
   rw[h1,h2] at h;simp only[Bool.not_true,bm,if_false] at h;split at h
   ·cases h
   ·rename_i h3;cases h4:cS m with
    |false=>rw[h4] at h;cases h
    |true=>
     rw[h4] at h;simp only[Bool.not_true,bm,if_false] at h;unfold lh at h1;simp only[cE] at h1;obtain⟨i1,i2,i3,i4⟩:=h1;exact⟨gU i1,gU i2,gU i3,gU i4,h2,h4,by omega,by omega,h⟩
theorem qR{m:MachV}{r f t:Int}(h:dF m r f t=0):GoodM m/\0<=r/\r<m.rounds/\0<=f/\f<m.n/\0<=t/\t<m.n/\f≠t:=by
 unfold dF at h;by_cases h1:dx m≠0
 ·rw[if_pos h1] at h;exact absurd h h1
 ·rw[if_neg h1] at h;by_cases h2:r<0\/m.rounds<=r\/f<0\/m.n<=f\/t<0\/m.n<=t
  ·rw[if_pos h2] at h;cases h
  ·rw[if_neg h2] at h;by_cases h3:f=t
   ·rw[if_pos h3] at h;cases h
   ·exact⟨mL (by simpa using h1),by omega,by omega,by omega,by omega,by omega,by omega,h3⟩
theorem vV{m:MachV}{r f t:Int}(h:dF m r f t=0):∃R F U:Nat,r=R/\f=F/\t=U/\R<m.symbols.length/\F<(m.symbols.getD R default).length/\U<((m.symbols.getD R default).getD F default).length:=by
 obtain⟨hg,h1,h2,h3,h4,h5,h6,h7⟩:=qR h;obtain⟨l1,l2,l3⟩:=cK hg.sh;refine⟨r.toNat,f.toNat,t.toNat,by omega,by omega,by omega,by omega,?_⟩;obtain⟨s1,s2⟩:=gk hg.sh (k:=r.toNat) (by omega);obtain⟨s3,s4⟩:=s2 f.toNat (by omega);exact⟨by omega,by omega⟩
theorem lZ{m:MachV}(h:cS m=true){s:List (List (List Int))}(hs:s∈m.symbols){l:List (List Int)}(hl:l∈s){x:List Int}(hx:x∈l){v:Int}(hv:v∈x):0<=v/\v<=1048576:=by
 unfold cS at h;simp only[cE,cV] at h;have:=h.2.2 s hs l hl x hx;unfold dN at this;rw[cV] at this;exact gU (this v hv)
theorem qt{m:MachV}{r f t:Int}(h:dF m r f t=0){v:Int}(hv:v∈ki m ⟨r,f,t⟩):0<=v/\v<=1048576:=by
 obtain⟨R,F,U,rfl,rfl,rfl,h1,h2,h3⟩:=vV h;exact lZ (qR h).1.rg (aj h1) (aj h2) (aj h3) hv
theorem tA{m:MachV}(hs:ShM m){r f t:Int}(h:dF m r f t=0):Sh (ki m ⟨r,f,t⟩):=by
 obtain⟨R,F,U,rfl,rfl,rfl,h1,h2,h3⟩:=vV h;exact hs.symbols3 _ (aj h1) _ (aj h2) _ (aj h3)
def jP(m:MachV)(r f t s:Int):List UInt8×Int:=
 if dF m r f t≠0 then([],dF m r f t) else if s<0\/((ki m ⟨r,f,t⟩).length:Int)<=s then([],6) else(iw r f t ((ki m ⟨r,f,t⟩).getD s.toNat default),0)
def jM(m:MachV)(r f t:Int):Int×Int:=
 if dF m r f t≠0 then(0,dF m r f t) else((ki m ⟨r,f,t⟩).foldl (λo s=>max o ((iw r f t s).length:Int)) 0,0)
def eo(l:List UInt8):Bool:=decide (6<=l.length)&&decide (f7 (l.take (l.length-2))=((l.getD (l.length-2) default).toNat*256+(l.getD (l.length-1) default).toNat:Nat))
def gp(l:List UInt8):List UInt8×Int:=if eo l=true then(l.take (l.length-2),0) else([],24)
def nk:Bool->Nat->Nat->Nat->List UInt8->Option (Nat×List UInt8)
 |_,0,_,_,_=>none
 |_,_+1,_,_,[]=>none
 |first,k+1,unit,acc,c::l=>if c.toNat<128 then(if first=false/\c.toNat=0 then none else some (acc+c.toNat*unit,l)) else nk false k (unit*128) (acc+c.toNat%128*unit) l
def rq(bs:List UInt8):Option (Nat×List UInt8):=nk true 4 1 0 bs
theorem Al(c:UInt8)(tb tf:Bool):aX .and tb tf (.int .u8 (c.toNat:Int)) (.int .u8 127)=some (.int .u8 ((c.toNat%128:Nat):Int)):=by
 have hc:=UInt8.toNat_lt c;have h1:(BitVec.ofInt IntKind.u8.bits (c.toNat:Int)).toNat=c.toNat:=Go.Abs.bits_nat (k:=.u8) hc;have h2:(BitVec.ofInt IntKind.u8.bits (127:Int)).toNat=127:=rfl;show(if (IntKind.u8=IntKind.u8) then dA .and .u8 _ _ else none)=_;rw[if_pos rfl];simp only[dA];rw[BitVec.toNat_and,h1,h2,show(127:Nat)=2^7-1 from rfl,uT,nY]
 congr 2
 omega
theorem zl{n x k:Nat}(h:n<2^k):n ||| (x*2^k)=n+x*2^k:=by
 have:=Nat.two_pow_add_eq_or_of_lt (i:=k) (b:=n) h x;rw[Nat.or_comm,Nat.mul_comm x,<-this,Nat.add_comm]
theorem AS(i:Nat):2^(7*i)=128^i:=by rw[Nat.pow_mul]
def wL:AV->Option AV
 |.ptr b n o=>some (.ptr b n o)
 |.iptr c o=>some (.iptr c o)
 |.func f c=>some (.func f c)
 |_=>none
theorem NK:(∀(T:Tm)(H:Hp)(x:Opd),bo T H (.nilck x)=wL (ov T x))/\(∀b n o:Nat,wL (.ptr b n o)=some (.ptr b n o))/\(∀(c:List AV)(o:Nat),wL (.iptr c o)=some (.iptr c o)):=
 ⟨λT H x=>by simp only[bo];cases ov T x<;>rfl,λ_ _ _=>rfl,λ_ _=>rfl⟩
def ao(bs:List UInt8)(bad:Bool):Int×List UInt8×Bool:=if bad=true then(0,bs,true) else match rq bs with
 |some (n,l)=>(n,l,false)
 |none=>(0,bs,true)
theorem zi(f:Bool)(k u a:Nat):nk f k u a []=none:=by cases k<;>rfl
theorem sL:∀(k:Nat)(f:Bool)(u a:Nat)(l:List UInt8)(n:Nat)(r:List UInt8),nk f k u a l=some (n,r)->n+u<=a+u*128^k/\r.length<l.length
 |0,_,_,_,_,_,_,h=>by cases h
 |k+1,_,_,_,[],_,_,h=>by cases h
 |k+1,f,u,a,c::l,n,r,h=>by
  simp only[nk] at h;have hp:1<=128^k:=Nat.one_le_pow _ _ (by omega);have hM:u*128^(k+1)=128*(u*128^k):=by rw[Nat.pow_succ,<-Nat.mul_assoc,Nat.mul_comm]
  have hge:u<=u*128^k:=Nat.le_mul_of_pos_right _ hp;split at h
  ·rename_i hc;split at h
   ·cases h
   ·cases h;have:c.toNat*u<=127*u:=gF _ (by omega);exact⟨by rw[hM];omega,by simp⟩
  ·have:=sL k false (u*128) (a+c.toNat%128*u) l n r h;have h2:c.toNat%128*u<=127*u:=gF _ (by omega);have h3:u*128*128^k=128*(u*128^k):=by rw[Nat.mul_comm u 128,Nat.mul_assoc]
   rw[h3] at this;exact⟨by rw[hM];omega,by simp;omega⟩
theorem cf(bs:List UInt8)(bad:Bool):0<=(ao bs bad).1/\(ao bs bad).1<268435456/\(ao bs bad).2.1.length<=bs.length:=by
 unfold ao;split
 ·exact⟨by simp,by simp,bj _⟩
 ·cases h:rq bs with
  |none=>exact⟨by simp,by simp,bj _⟩
  |some p=>
   obtain⟨n,l⟩:=p;have:=sL 4 true 1 0 bs n l h;have e:(128:Nat)^4=268435456:=rfl;simp only;omega
def fk(r:List (List Int)):List UInt8:=r.flatMap λl=>aL 0 [(l.length:Int)]++aL 1 l
def ga(r:List (List Int)):List UInt8:=r.flatMap λl=>aL 0 l
def eK(r:List (List (List Int))):List UInt8:=r.flatMap ga
def eh(n:Nat)(x:StepV):List UInt8:=aL 0 [x.round,x.proc]++aL 1 (x.heard.take n)++aL 0 [x.to]
def jx(m:MachV):List UInt8:=[82,84,77,1]++aL 0 [m.n,m.rounds,m.ins,m.outs]
def kQ(m:MachV):List UInt8:=jx m++m.first.flatMap (aL 1)++m.out.flatMap fk++m.symbols.flatMap eK++aL 0 [(m.steps.length:Int)]++m.steps.flatMap (eh m.n.toNat)
def bM(m:MachV):List UInt8:=kB (kQ m)
theorem jZ{α β:Type}{l:List α}{f:α->List β}{b:Nat}(h:∀x∈l,(f x).length<=b):(l.flatMap f).length<=l.length*b:=by
 induction l with
 |nil=>simp
 |cons x l ih=>
  have h1:=h x (by simp);have h2:=ih (λy hy=>h y (by simp[hy]));rw[rh,cm,gI,fi];omega
theorem d7{α β:Type}(l:List α)(f:α->List β)(k:Nat):((l.take k).flatMap f).length<=(l.flatMap f).length:=by
 conv=>rhs;rw[<-wq k l]
 rw[List.flatMap_append,cm];omega
theorem yR{l:List (List Int)}{x:List Int}(h:x∈l):x.length<=en l:=by
 induction l with
 |nil=>cases h
 |cons y l ih=>
  simp only[en,gD,List.sum_cons];rcases nj.1 h with rfl|h
  ·omega
  ·have:=ih h;simp only[en] at this;omega
theorem vn{l:List (List (List Int))}{x:List (List Int)}(h:x∈l):en x<=(l.map en).sum:=by
 induction l with
 |nil=>cases h
 |cons y l ih=>
  simp only[gD,List.sum_cons];rcases nj.1 h with rfl|h
  ·omega
  ·have:=ih h;omega
theorem ft{α:Type}[Inhabited α]{l:List α}{x:α}(h:x∈l):∃i,i<l.length/\l.getD i default=x:=by
 obtain⟨i,hi,e⟩:=wh h;exact⟨i,hi,by simp[List.getD,hi,e]⟩
theorem qE{m:MachV}(h:GoodM m){l:List Int}(hl:l∈m.first):l.length<=8:=by
 have:=m8 h.sh hl;have:=h.i;omega
theorem iA{m:MachV}(h:GoodM m){l:List (List Int)}(hl:l∈m.out):l.length<=5/\∀x∈l,x.length<=8192:=by
 obtain⟨i,hi,rfl⟩:=ft hl;have:=co h.sh hi;have:=h.n;refine⟨by omega,λx hx=>?_⟩;have h1:=yR hx;have h2:=vn hl;have h3:=h.st;unfold dG at h3;omega
theorem qD{m:MachV}(h:GoodM m){s:List (List (List Int))}(hs:s∈m.symbols):s.length<=5/\∀r∈s,r.length<=5/\∀x∈r,x.length<=8192:=by
 obtain⟨k,hk,rfl⟩:=ft hs;obtain⟨s1,s2⟩:=gk h.sh hk;obtain⟨l1,l2,l3⟩:=cK h.sh;have hn:=h.n;refine⟨by omega,λr hr=>?_⟩;obtain⟨p,hp,rfl⟩:=ft hr;obtain⟨s3,s4⟩:=s2 p hp;refine⟨by omega,λx hx=>?_⟩;obtain⟨q,hq,rfl⟩:=ft hx;have:=s4 q hq;split at this
 ·omega
 ·have hko:k<m.out.length:=by omega
  have h1:=(iA h (aj hko)).2 _ (aj (l:=m.out.getD k default) (k:=p) (by have:=co h.sh hko;omega));omega
theorem u6{m:MachV}(h:GoodM m):m.first.length<=5/\m.out.length<=7/\m.symbols.length<=6:=by
 obtain⟨l1,l2,l3⟩:=cK h.sh;have:=h.n;have:=h.r;omega
theorem jj{m:MachV}(h:GoodM m):(kQ m).length<=1000000000:=by
 obtain⟨l1,l2,l3⟩:=u6 h
 have h1:(m.first.flatMap (aL 1)).length<=m.first.length*80:=jZ λx hx=>by
  have:=dh 1 x;have:=qE h hx;omega
 have h2:(m.out.flatMap fk).length<=m.out.length*500000:=jZ λx hx=>by
  obtain⟨g1,g2⟩:=iA h hx
  have:(fk x).length<=x.length*90000:=jZ λy hy=>by
   have:=dh 1 y;have:=dh 0 [(y.length:Int)];have:=g2 y hy;simp only[cm,List.length_singleton] at *;omega
  omega
 have h3:(m.symbols.flatMap eK).length<=m.symbols.length*5000000:=jZ λx hx=>by
  obtain⟨g1,g2⟩:=qD h hx
  have:(eK x).length<=x.length*500000:=jZ λy hy=>by
   obtain⟨g3,g4⟩:=g2 y hy
   have:(ga y).length<=y.length*90000:=jZ λz hz=>by
    have:=dh 0 z;have:=g4 z hz;omega
   omega
  omega
 have h4:(m.steps.flatMap (eh m.n.toNat)).length<=m.steps.length*100:=jZ λx hx=>by
  unfold eh;have:=dh 0 [x.round,x.proc];have:=dh 1 (x.heard.take m.n.toNat);have:=dh 0 [x.to];have hh:x.heard.length=5:=rfl;simp only[cm,gN,gI,my] at *;omega
 have h5:=dh 0 [m.n,m.rounds,m.ins,m.outs];have h6:=dh 0 [(m.steps.length:Int)];have h7:=h.sl;unfold kQ jx;simp only[cm,gI,my] at *;omega
structure JW(m:MachV)(bs:List UInt8)(H:Hp)(nx:Nat):Prop where
 m0:H 0=some m.cells
 out:∃s,OutI 2 bs H nx s/\aY s≠some 0
theorem JW.lt{m:MachV}{bs:List UInt8}{H:Hp}{nx:Nat}(h:JW m bs H nx):2<nx:=by
 obtain⟨s,h,_⟩:=h.out;exact h.blt
theorem w7{m:MachV}(h:GoodM m){l:List Int}(hl:l∈m.first){v:Int}(hv:v∈l):0<=v+1/\v+1<=4611686018427387904:=by
 obtain⟨i,hi,rfl⟩:=ft hl;obtain⟨l1,l2,l3⟩:=cK h.sh;have hr:=h.r;have hrg:=h.rg;unfold cS at hrg;simp only[cE,cV,gJ] at hrg;have:=hrg.1 i hi;unfold iy dN at this;rw[cV] at this;have:=gU (this v hv);have h0:(0:Nat)<m.out.length:=by omega
 have hl0:=co h.sh h0;have h1:=(iA h (aj h0)).2 _ (aj (l:=m.out.getD 0 default) (k:=i) (by omega));omega
theorem z4{m:MachV}(h:GoodM m){r:List (List Int)}(hr:r∈m.out){l:List Int}(hl:l∈r){v:Int}(hv:v∈l):0<=v+1/\v+1<=4611686018427387904:=by
 have hrg:=h.rg;unfold cS at hrg;simp only[cE,cV] at hrg;have:=hrg.2.1 r hr l hl;unfold dN at this;rw[cV] at this;have:=gU (this v hv);have:=h.o;omega
theorem zV{m:MachV}(h:GoodM m){s:List (List (List Int))}(hs:s∈m.symbols){r:List (List Int)}(hr:r∈s){l:List Int}(hl:l∈r){v:Int}(hv:v∈l):0<=v+0/\v+0<=4611686018427387904:=by
 have:=lZ h.rg hs hr hl hv;omega
theorem oo{m:MachV}:∀(l:List StepV)(p:Option StepV),fx m p l=0->∀s∈l,fZ m s=0
 |[],_,_,s,hs=>(by cases hs)
 |x::l,p,h,s,hs=>by
  simp only[fx] at h;by_cases h1:fZ m x≠0
  ·rw[if_pos h1] at h;exact absurd h h1
  ·rw[if_neg h1] at h;split at h
   ·cases h
   ·rcases nj.1 hs with rfl|hs
    ·simpa using h1
    ·exact oo l _ h s hs
theorem rU{m:MachV}(h:GoodM m){x:StepV}(hx:x∈m.steps):(0<=x.round/\x.round<=6)/\(0<=x.proc/\x.proc<=5)/\(0<=x.to/\x.to<=8192)/\∀q,q<m.n.toNat->-1<=x.heard.getD q default/\x.heard.getD q default<=1048576:=by
 have hz:=oo m.steps none h.sf x hx;obtain⟨l1,l2,l3⟩:=cK h.sh;have hn:=h.n;have hr:=h.r;unfold fZ at hz;split at hz
 ·cases hz
 ·rename_i h1;simp only[Bool.not_eq_true',Bool.not_eq_false,cE] at h1;obtain⟨i1,i2,i3⟩:=h1;have i1:=gU i1;have i2:=gU i2;have i3:=gU i3;split at hz
  ·cases hz
  ·split at hz
   ·cases hz
   ·rename_i h2 h3;simp only[Bool.not_eq_true',Bool.not_eq_false,cV,gJ] at h3;have hko:(x.round+1).toNat<m.out.length:=by omega
    have hlo:=co h.sh hko;have hb1:=(iA h (aj hko)).2 _ (aj (l:=m.out.getD (x.round+1).toNat default) (k:=x.proc.toNat) (by omega));refine⟨by omega,by omega,by omega,λq hq=>?_⟩;have hq3:=h3 q hq;unfold fW at hq3;have hko2:x.round.toNat<m.out.length:=by omega
    have hlo2:=co h.sh hko2;have hb2:=(iA h (aj hko2)).2 _ (aj (l:=m.out.getD x.round.toNat default) (k:=q) (by omega));split at hq3
    ·have:=gU hq3;omega
    ·have:=gU hq3;omega
theorem JW.box{m:MachV}{bs:List UInt8}{H:Hp}{nx:Nat}{a b:List AV}(h:JW m bs H nx):JW m bs (e8 (ah (ah H nx a) nx b) nx) (nx+1):=by
 obtain⟨h0,s,hO,hne⟩:=h;have h2:=hO.blt;have hlt:=hO.lt;refine⟨by rw[nf (by omega),ac (by omega),ac (by omega),h0],s,⟨by rw[nf (by omega),ac (by omega),ac (by omega),hO.box],hO.row.same λr hr=>?_,hO.ne,λr hr=>by have:=hlt r hr;omega,by omega⟩,hne⟩;have:=hlt r hr;rw[nf (by omega),ac (by omega),ac (by omega)]
theorem JW.frame{m:MachV}{bs:List UInt8}{H H':Hp}{nx nx':Nat}(h:JW m bs H nx)(hs:∀i,i<nx->H' i=H i)(hle:nx<=nx'):JW m bs H' nx':=by
 obtain⟨h0,s,⟨i1,i2,i3,i4,i5⟩,hne⟩:=h;exact⟨by rw[hs 0 (by omega),h0],s,⟨by rw[hs 2 i5,i1],i2.same λr hr=>hs r (i4 r hr),i3,λr hr=>by have:=i4 r hr;omega,by omega⟩,hne⟩
def dX(m:MachV):List UInt8×Int:=if dx m≠0 then([],dx m) else if 65536<(bM m).length then([],13) else(bM m,0)
theorem mE{m:MachV}(h:GoodM m):(bM m).length<=1000000002:=by
 have:=jj h;simp[bM,kB];omega
theorem xN(a b:ByteArray):(a.toList==b.toList)=decide (a=b):=by
 by_cases h:a=b
 ·subst h;simp
 ·have:a.toList≠b.toList:=λe=>h (n8 e);simp[h,this]
theorem xr(a b:List UInt8):((⟨a.toArray⟩:ByteArray).toList==(⟨b.toArray⟩:ByteArray).toList)=decide (a=b):=by
 rw[xN];exact decide_eq_decide.2 ⟨λh=>by simpa using congrArg ByteArray.data h,λh=>by rw[h]⟩
theorem wk{a b:List UInt8}{tb tf:Bool}:aX .eql tb tf (.str ⟨a.toArray⟩) (.str ⟨b.toArray⟩)=some (.bool (decide (a=b))):=by
 simp only[aX,nQ,xr]
theorem BF{a b:List UInt8}{tb tf:Bool}:aX .neq tb tf (aW a) (aW b)=some (.bool (!decide (a=b))):=by
 simp only[aX,nQ,aW,xr]
theorem Fz.bytes{H:Hp}{b c n len:Nat}{l:List UInt8}(hb:H b=some (l.map dW))(hc:H c=some [.msl b n 1 0 len,.bool false])(hbc:c≠b)(hn:n=l.length)(hl:len=l.length):Fz (only b (l.map dW)) H (ah (e8 H b) c [bN l,.bool false]):=by
 refine⟨λx cs h=>by unfold only at h;split at h<;>cases h;subst_vars;exact hb,λx cs h=>?_⟩;rcases d9 h with⟨rfl,rfl⟩|⟨h1,h2⟩
 ·refine⟨_,hc,by simp[only,hbc],rfl,?_⟩;rintro(_|_|i) y y' hy hy'
  ·simp only[nC,jD] at hy hy';subst hy hy';exact .inr (xI j7 (by omega) (by simp[hl]) (by simp only[gL];rintro y ⟨a,_,rfl⟩;exact⟨rfl,.int⟩))
  ·simp only[wG,nC,jD] at hy hy';subst hy hy';exact .inl rfl
  ·simp at hy
 ·have:=lw h2;exact⟨cs,this.2,by simp[only,this.1],av.refl _ _⟩
def wc(r f t:Int):List UInt8:=[UInt8.ofNat (r%256).toNat,UInt8.ofNat (f%256).toNat,UInt8.ofNat (t%256).toNat]
def zt(m:MachV)(r f t:Int)(L:List UInt8):Int×Int:=
 if (ao (L.drop 3) false).2.2=true\/0<(ao (L.drop 3) false).2.1.length\/1048576<(ao (L.drop 3) false).1 then(0,3) else if L.take 3≠wc r f t then(0,22) else if (ao (L.drop 3) false).1∉ki m ⟨r,f,t⟩ then(0,6) else((ao (L.drop 3) false).1,0)
def fL(m:MachV)(r f t:Int)(l:List UInt8):Int×Int:=
 if dF m r f t≠0 then(0,dF m r f t) else if eo l=true then zt m r f t (l.take (l.length-2)) else(0,24)
theorem eX{k:IntKind}{a b:Int}{ks:List TK}{xs ys:List AV}{r:Bool}(h:cR ks xs ys=some r):cR (.int::ks) (.int k a::xs) (.int k b::ys)=some (decide (a=b)&&r):=by
 simp only[cR,ke,if_true];by_cases e:a=b
 ·subst e;simp[h]
 ·have:(a==b)=false:=by simpa using e
  rw[this,bq e];rfl
theorem qX(s t:StepV):pC .neq [.int,.int,.int,.int,.int,.int,.int,.int] s.cells t.cells=some (.bool (!decide (s=t))):=by
 have h:cR [.int,.int,.int,.int,.int,.int,.int,.int] s.cells t.cells=some (decide (s=t)):=by
  unfold StepV.cells;rw[eX (eX (eX (eX (eX (eX (eX (eX (r:=true) rfl)))))))];obtain⟨a1,a2,a3,a4,a5,a6,a7,a8⟩:=s;obtain⟨b1,b2,b3,b4,b5,b6,b7,b8⟩:=t;simp only[StepV.mk.injEq,Bool.decide_and,Bool.and_true]
 unfold pC;rw[h]
def Sh2(l:List (List Int)):Prop:=Sh l/\∀x∈l,Sh x
def Sh3(l:List (List (List Int))):Prop:=Sh l/\∀x∈l,Sh2 x
def Sh4(l:List (List (List (List Int)))):Prop:=Sh l/\∀x∈l,Sh3 x
def exM:MachV:={n:=2,rounds:=1,ins:=2,outs:=2,first:=[[0,-1],[0,1]],symbols:=[[[[],[0]],[[0,0],[]]]],steps:=[⟨0,0,0,-1,-1,-1,-1,0⟩,⟨0,0,0,0,-1,-1,-1,0⟩,⟨0,1,0,0,-1,-1,-1,0⟩,⟨0,1,0,1,-1,-1,-1,1⟩],out:=[[[-1],[-1,-1]],[[-1],[-1,1]]]}
theorem nq{H:Hp}{b n len:Nat}{cs l:List AV}(hb:H b=some cs)(hn:cs.length=n)(hl:len=n)(h:aQ H cs l)(hc:∀y∈l,y.cells=[y]):Snap H (.msl b n 1 0 len) (.sl 1 l):=
 qm hb hn (by omega) (by have:=h.1;omega) hc (λi a c ha hc'=>h.2 i a c (by rwa [eF] at ha) hc')
theorem ye{H:Hp}{b n len sz:Nat}{cs l:List AV}(hb:H b=some cs)(hn:cs.length=n)(hl:len*sz=n)(hll:l.length=len)(h:cs=l.flatMap AV.cells)(hc:∀y∈l,y.cells.length=sz)(hz:0<sz)(hd:∀y∈l,∀c∈y.cells,Dat c):Snap H (.msl b n sz 0 len) (.sl sz l):=by
 subst h;subst hl;exact Row.snap (Row.box b len _ hb hn) hc hz hd
theorem Ct:ShM exM:=by
 constructor<;>simp[exM,Sh]
section
attribute [local irreducible] aJ ak bI bA bl bf aC bn bF cb Go.Abs.Fn bD Go.Abs.Pure ax aQ Yl
theorem sJ(m:MachV)(hs:ShM m):pU 26 [bV m] (.int .i64 (dx m)):=by
 refine pO CT ?_;simp only[b26,aS];have hs0:=hs;obtain⟨s1,s2,s3,s4,s5,s5b,s6,s7,s8,s9,s10⟩:=hs0;have e10:m.steps.length<=9223372036854775807:=s10;have c1:=oV m.n 1 5;have c2:=oV m.rounds 0 6;have c3:=oV m.ins 1 8;have c4:=oV m.outs 1 8;refine bW ?_;have zz:=@ME;repeat' (first|apply a_n|refine zO ?_|refine vZ ?_|refine bxZ ?_|fail)
 refine cw (λT H nx=>T 1=.ptr 0 8 0/\H=ah bi 0 m.cells/\nx=1/\(1<=m.n/\m.n<=5)/\(0<=m.rounds/\m.rounds<=6)/\bU m=true/\dx m=fx m none m.steps) ?_ ?_
 ·refine pn ?_;refine cw (λT H nx=>T 1=.ptr 0 8 0/\H=ah bi 0 m.cells/\nx=1/\T 6=.bool (!lh m)) ?_ ?_
  ·clear zz;have zz:=@ME;repeat' (first|apply a_n|refine zO ?_|refine vZ ?_|refine cZ ?_ (hp:=by first|exact c1|exact c2|exact c3|exact c4)|refine gTZ ?_|refine gFZ ?_|(refine zGZ ?_ ?_<;>(intro _hg;try (exfalso;omega)))|fail)
   all_goals (refine⟨rfl,rfl,rfl,?_⟩;((try simp only[bS,ZA,reduceEqDiff,↓reduceIte,reduceAdd,reduceLeDiff]);(try with_reducible rfl));unfold lh;simp[*])
  rintro T H nx ⟨t1,rfl,rfl,t6⟩;by_cases hN:lh m=true
  rotate_left
  ·have e:dx m=2:=by
     unfold dx;rw[Bool.not_eq_true] at hN;rw[hN];rfl
   rw[e];rw[Bool.not_eq_true] at hN;rw[hN] at t6;clear zz;have zz:=aI @ME (aI @t1 @t6);repeat' (first|refine zW ?_|apply a_n|apply a_r|refine zO ?_|refine vZ ?_|refine cTZ ?_|refine ae rfl ?_|refine r1Z ?_|fail)
   exact .int _ _
  have hN0:=hN;unfold lh at hN;simp only[cE] at hN;obtain⟨i1,i2,i3,i4⟩:=hN;rw[hN0] at t6;have n1:1<=m.n/\m.n<=5:=gU i1;have n2:0<=m.rounds/\m.rounds<=6:=gU i2;have n4:1<=m.outs/\m.outs<=8:=gU i4;have c5:=zK m hs n1 n2;cases hsh:bU m with
  |false=>
   have e:dx m=15:=by
    unfold dx;rw[hN0,hsh];rfl
   rw[e];rw[hsh] at c5;have em:=cp m;unfold bV MachV.cells at c5 em;clear zz;have zz:=aI @ME (aI @t1 (aI @t6 @bm));repeat' (first|refine zW ?_|apply a_n|apply a_r|refine zO ?_|refine vZ ?_|refine cZ ?_ (hp:=c5)|refine cTZ ?_|refine cFZ ?_|refine ae rfl ?_|refine r1Z ?_|fail)
   exact .int _ _
  |true=>
   rw[hsh] at c5;have hle:=rM hs n1 n2 hsh;have c6:=y2 m s3 (by omega) s4;have c7:=zH m hs n1 n2 n4 hsh;have em:=cp m
   have e:¬(8192<dG m\/65536<m.steps.length)->cS m=true->dx m=fx m none m.steps:=λh1 h2=>by
    unfold dx;rw[hN0,hsh,if_neg h1,h2];rfl
   have e5:(8192<dG m\/65536<m.steps.length)->dx m=5:=λh1=>by
    unfold dx;rw[hN0,hsh,if_pos h1];rfl
   have e2:¬(8192<dG m\/65536<m.steps.length)->cS m=false->dx m=2:=λh1 h2=>by
    unfold dx;rw[hN0,hsh,if_neg h1,h2];rfl
   unfold bV MachV.cells at c5 c6 c7 em;generalize dG m=q at *;clear zz;have zz:=aI @ME (aI @t1 (aI @t6 @bm));repeat' (first|refine zW ?_|apply a_n|apply a_r|refine zO ?_|refine vZ ?_|refine cZ ?_ (hp:=by first|exact c5|exact c6|exact c7)|refine gTZ ?_|refine gFZ ?_|refine cTZ ?_|refine cFZ ?_|(refine zGZ ?_ ?_<;>(intro _hg;try (exfalso;omega)))|refine ae rfl ?_|refine r1Z ?_|fail)
   all_goals first
    |(rw[e5 (by omega)];exact .int _ _)
    |(rw[e2 (by omega) _hg];exact .int _ _)
    |exact⟨(have zz:=@t1;evZ),rfl,rfl,n1,n2,by first|exact hsh|rfl,e (by omega) _hg⟩
 rintro T H nx ⟨t1,rfl,rfl,n1,n2,hsh,hchk⟩;rw[hchk];clear zz;clear c1 c2 c3 c4 hchk;have zz:=aI @ME @t1;repeat' (first|refine zW ?_|apply a_n|refine zO ?_|refine vZ ?_|fail)
 refine dL (X:=Nat) (λk=>[(1,.ptr 0 8 0),(48,bh m.steps),(49,.int .i64 m.steps.length),(50,.int .i64 k)])
  (λk H nx=>k<=m.steps.length/\1<=nx/\H 0=some m.cells/\fx m none m.steps=fx m (rF m k) (m.steps.drop k)) (λk=>m.steps.length-k) 0 ⟨bZ _,bj _,ag,rfl⟩ (have zz:=@t1;agZ) ?_
 clear zz;clear t1;rintro k H nx ⟨h1,h2,g0,hF⟩;by_cases hk:k<m.steps.length
 rotate_left
 ·have zz:=@ME;repeat' (first|refine zW ?_|apply a_n|apply a_x|refine zO ?_|refine vZ ?_|(refine zGZ ?_ ?_<;>(intro _hg;try (exfalso;omega)))|refine ae rfl ?_|refine r1Z ?_|fail)
  rw[hF,ml (by omega)];exact .int _ _
 have hd:=cP hk;have hst:=Ck m (m.steps.getD k default) hs n1 n2 hsh;have hor:=Ab (m.steps.getD (k-1) default) (m.steps.getD k default);rw[hd,fx] at hF;have em:=cp m;have es:=iL (m.steps.getD k default);have es2:=iL (m.steps.getD (k-1) default);have hpv:rF m k=if k=0 then none else some (m.steps.getD (k-1) default):=rfl
 have hpv2:rF m (k+1)=some (m.steps.getD k default):=rfl;generalize hs1:m.steps.getD k default=s at *;generalize hs2:m.steps.getD (k-1) default=s' at *;generalize hei:fZ m s=ei at *;generalize hoi:iz s' s=oi at *;have et:((k:Int)-1).toNat=k-1:=by omega
 unfold bV MachV.cells at hst em;unfold ew StepV.cells at hst hor es es2;rw[show m.cells=_ from rfl] at g0;by_cases hk0:k=0
 ·rw[hpv,if_pos hk0] at hF;simp only[Option.any_none,bm,if_false] at hF;have dk:decide ((0:Int)<k)=false:=bq (by omega);have zz:=aI @ME (aI @g0 (aI @hs1 (aI @hs2 (aI @et @dk))));repeat' (first|refine zW ?_|refine zM ?_|apply a_n|apply a_r|refine zO ?_|refine vY ?_|refine cY ?_ (hp:=hst)|refine alY ?_|refine stY ?_|refine gFY ?_|refine cFY ?_|(refine zGY ?_ ?_<;>(intro _hg;try (exfalso;omega)))|refine ae rfl ?_|refine r1Y ?_|fail)
  ·rw[hF,if_pos _hg];exact .int _ _
  all_goals
   refine⟨k+1,by omega,⟨by omega,by omega,?_,?_⟩,ag0⟩
   ·rw[ac (by omega),ac (by omega),g0]
   ·rw[hF,if_neg ‹_›,hpv2]
 ·rw[hpv,if_neg hk0,Option.any_some,hoi] at hF;have dk:decide ((0:Int)<k)=true:=bk (by omega);have zz:=aI @ME (aI @g0 (aI @hs1 (aI @hs2 (aI @et @dk))));repeat' (first|refine zW ?_|refine zM ?_|apply a_n|apply a_r|refine zO ?_|refine vY ?_|refine cY ?_ (hp:=by first|exact hst|exact hor)|refine alY ?_|refine stY ?_|refine gTY ?_|(refine zGY ?_ ?_<;>(intro _hg;try (exfalso;omega)))|refine ae rfl ?_|refine r1Y ?_|fail)
  ·rw[hF,if_pos _hg];exact .int _ _
  ·rw[hF,if_neg ‹_›,if_pos (bk _hg)];exact .int _ _
  ·refine⟨k+1,by omega,⟨by omega,by omega,?_,?_⟩,ag0⟩
   ·rw[ac (by omega),ac (by omega),g0]
   ·rw[hF,if_neg ‹_›,if_neg (by simpa using _hg),hpv2]
theorem sE(m:MachV)(r f t:Int)(hs:ShM m):pU 30 [fS ⟨r,f,t⟩,bV m] (.int .i64 (dF m r f t)):=by
 refine pO DF ?_;simp only[b30,aS];have hc:=sJ m hs;have em:=cp m;unfold bV MachV.cells at hc em |-;unfold fS dF;generalize dx m=c at *;refine bW ?_;have zz:=@ME;repeat' (first|apply a_n|refine zO ?_|refine vZ ?_|refine bxZ ?_|fail)
 refine cw (λT H nx=>T 2=.ptr 0 3 0/\T 3=.ptr 1 8 0/\H=ah (ah bi 0 [.int .i64 r,.int .i64 f,.int .i64 t]) 1 m.cells/\c=0) ?_ ?_
 ·clear zz;have zz:=@ME;repeat' (first|refine zW ?_|apply a_n|apply a_r|refine zO ?_|refine vZ ?_|refine cZ ?_ (hp:=hc)|(refine zGZ ?_ ?_<;>(intro _hg;try (exfalso;omega)))|refine ae rfl ?_|refine r1Z ?_|fail)
  ·rw[if_pos _hg];exact .int _ _
  ·exact⟨rfl,rfl,rfl,by omega⟩
 rintro T H nx ⟨t2,t3,rfl,rfl⟩;rw[if_neg (by simp)];clear zz;have zz:=aI @ME (aI @t2 @t3);repeat' (first|refine zW ?_|apply a_n|apply a_r|refine zO ?_|refine vZ ?_|refine gTZ ?_|refine gFZ ?_|refine cTZ ?_|(refine zGZ ?_ ?_<;>(intro _hg;try (exfalso;omega)))|refine ae rfl ?_|refine r1Z ?_|fail)
 all_goals first
  |(rw[if_pos (by omega)];exact .int _ _)
  |(rw[if_neg (by omega),if_pos (by omega)];exact .int _ _)
  |(rw[if_neg (by omega),if_neg (by omega)];exact .int _ _)
theorem xB(ks:List (PlaceV))(key:PlaceV)(g:PlaceV->AV):fY (g key) (if key∈ks then some (ks.idxOf key) else none) (ks.map g)=(if key∈ks then ks else ks++[key]).map g:=by
 split
 ·rename_i h;show(ks.map g).set _ _=ks.map g;refine List.ext_getElem (by simp) (λi h1 h2=>?_);rw[List.getElem_set];split
  ·rename_i e;subst e;simp
  ·rfl
 ·simp[fY]
theorem wr(ks:List (PlaceV))(key:PlaceV):dD (fS key) (if key∈ks then some (ks.idxOf key) else none) (ks.map fS)=(if key∈ks then ks else ks++[key]).map fS:=by
 split<;>simp[dD]
theorem yt(m:MachV)(r f t:Nat)(hs:ShM m)(h1:r<m.symbols.length)(h2:f<(m.symbols.getD r default).length)(h3:t<((m.symbols.getD r default).getD f default).length):pU 31 [bV m,fS (⟨(r:Int),(f:Int),(t:Int)⟩:PlaceV)] (be (ki m (⟨(r:Int),(f:Int),(t:Int)⟩:PlaceV))):=by
 refine pO D5 ?_;simp only[b31,aS];obtain⟨s1,s2,s3,s4,s5,s5b,s6,s7,s8,s9,s10⟩:=hs;have e6:m.symbols.length<=9223372036854775807:=s6;have hpc:(fS (⟨(r:Int),(f:Int),(t:Int)⟩:PlaceV)).cells=[.int .i64 (r:Int),.int .i64 (f:Int),.int .i64 (t:Int)]:=rfl;refine bW ?_;have zz:=aI @ME @hpc;repeat' (first|apply a_n|refine zO ?_|refine vZ ?_|refine bxZ ?_|fail)
 refine bW ?_;clear zz;have zz:=@ME;repeat' (first|apply a_n|refine zO ?_|fail)
 refine Cu ?_;clear zz;have zz:=@ME;repeat' (first|refine zW ?_|apply a_n|refine zO ?_|refine vZ ?_|fail)
 let g:PlaceV->AV:=λx=>be (ki m x)
 refine dL (X:=Nat) (λk=>[(3,.ptr 1 3 0),(5,.mp 2),(14,b9 m.symbols),(15,.int .i64 m.symbols.length),(16,.int .i64 k)])
  (λk H nx=>k<=m.symbols.length/\H 1=some [.int .i64 (r:Int),.int .i64 (f:Int),.int .i64 (t:Int)]/\∃ks:List (PlaceV),H 2=some [.omap (ks.map fS) (ks.map g)]/\(r<k->(⟨(r:Int),(f:Int),(t:Int)⟩:PlaceV)∈ks)) (λk=>m.symbols.length-k) 0 ⟨bZ _,rfl,[],rfl,λh=>by omega⟩ (by simp (disch:=omega) only[agr,ZG,reduceEqDiff,↓reduceIte,gI,my,reduceAdd,eF]) ?_
 rintro k H nx ⟨k1,g1,ks,g2,k2⟩;by_cases hk:k<m.symbols.length
 rotate_left
 ·clear zz;have zz:=aI @ME @g1;repeat' (first|refine zW ?_|apply a_n|apply a_x|refine zO ?_|refine vZ ?_|(refine zGZ ?_ ?_<;>(intro _hg;try (exfalso;omega)))|fail)
  have hm:=k2 (by omega);refine BM (kv:=fS (⟨(r:Int),(f:Int),(t:Int)⟩:PlaceV)) ev0 g2 (by((try simp only[bS,ZA,reduceEqDiff,↓reduceIte,reduceAdd,reduceLeDiff]);(try with_reducible rfl));rfl) rfl (xx _ _) ?_;rw[if_pos hm];have hi:ks.idxOf (⟨(r:Int),(f:Int),(t:Int)⟩:PlaceV)<ks.length:=List.idxOf_lt_length_iff.2 hm
  have e:Go.Abs.mget .esl false (some (ks.idxOf (⟨(r:Int),(f:Int),(t:Int)⟩:PlaceV))) (ks.map g)=g (⟨(r:Int),(f:Int),(t:Int)⟩:PlaceV):=by
   simp[Go.Abs.mget,List.getD,hi]
  rw[e]
  repeat' (first|apply a_n|refine zO ?_|refine vZ ?_|refine ae rfl ?_|refine r1Z ?_|fail)
  exact cW _ _
 have hm1:=aj hk;have hr1:k=r->m.symbols.getD k default=m.symbols.getD r default:=λe=>by rw[e]
 have hg:∀p q:Nat,g (⟨(k:Int),(p:Int),(q:Int)⟩:PlaceV)=be (((m.symbols.getD k default).getD p default).getD q default):=λp q=>rfl;have hsk:=s7 _ hm1;have hsk2:=s8 _ hm1;have hsk3:=s9 _ hm1;generalize hS:m.symbols.getD k default=S at *;have hS':S.length<=9223372036854775807:=hsk;clear zz;have zz:=aI @ME @hS;repeat' (first|refine zW ?_|apply a_n|refine zO ?_|refine vZ ?_|(refine zGZ ?_ ?_<;>(intro _hg;try (exfalso;omega)))|fail)
 refine dL (X:=Nat) (λp=>[(3,.ptr 1 3 0),(5,.mp 2),(6,.int .i64 k),(14,b9 m.symbols),(15,.int .i64 m.symbols.length),(16,.int .i64 k),(21,aN S),(22,.int .i64 S.length),(23,.int .i64 p)])
  (λp H nx=>p<=S.length/\H 1=some [.int .i64 (r:Int),.int .i64 (f:Int),.int .i64 (t:Int)]/\∃ks:List (PlaceV),H 2=some [.omap (ks.map fS) (ks.map g)]/\(r<k\/r=k/\f<p->(⟨(r:Int),(f:Int),(t:Int)⟩:PlaceV)∈ks)) (λp=>S.length-p) 0 ⟨bZ _,g1,ks,g2,λh=>k2 (by omega)⟩ ag0 ?_
 clear zz;clear g1 g2 k2 ks;rintro p H nx ⟨p1,g1,ks,g2,k2⟩;by_cases hp:p<S.length
 rotate_left
 ·have zz:=@ME;repeat' (first|refine zW ?_|apply a_n|apply a_x|refine zO ?_|refine vZ ?_|(refine zGZ ?_ ?_<;>(intro _hg;try (exfalso;omega)))|fail)
  refine⟨k+1,by omega,⟨by omega,g1,ks,g2,λh=>k2 ?_⟩,ag0⟩;rcases sP.1 h with h|h
  ·exact .inl h
  ·have:=hr1 h.symm;rw[<-this] at h2;exact .inr ⟨h,by omega⟩
 have hm2:=aj hp;have hr2:k=r->p=f->S.getD p default=(m.symbols.getD r default).getD f default:=λe e'=>by rw[hr1 e,e']
 have hg:=hg p;have hsp:=hsk2 _ hm2;have hsp2:=hsk3 _ hm2;generalize hR:S.getD p default=R at *;have hR':R.length<=9223372036854775807:=hsp;have zz:=aI @ME @hR;repeat' (first|refine zW ?_|apply a_n|refine zO ?_|refine vZ ?_|(refine zGZ ?_ ?_<;>(intro _hg;try (exfalso;omega)))|fail)
 refine dL (X:=Nat) (λq=>[(3,.ptr 1 3 0),(5,.mp 2),(6,.int .i64 k),(8,.int .i64 p),(14,b9 m.symbols),(15,.int .i64 m.symbols.length),(16,.int .i64 k),(21,aN S),(22,.int .i64 S.length),(23,.int .i64 p),(28,aF R),(29,.int .i64 R.length),(30,.int .i64 q)])
  (λq H nx=>q<=R.length/\H 1=some [.int .i64 (r:Int),.int .i64 (f:Int),.int .i64 (t:Int)]/\∃ks:List (PlaceV),H 2=some [.omap (ks.map fS) (ks.map g)]/\(r<k\/r=k/\(f<p\/f=p/\t<q)->(⟨(r:Int),(f:Int),(t:Int)⟩:PlaceV)∈ks)) (λq=>R.length-q) 0 ⟨bZ _,g1,ks,g2,λh=>k2 (by omega)⟩ ag0 ?_
 clear zz;clear g1 g2 k2 ks;rintro q H nx ⟨q1,g1,ks,g2,k2⟩;by_cases hq:q<R.length
 rotate_left
 ·have zz:=@ME;repeat' (first|refine zW ?_|apply a_n|apply a_x|refine zO ?_|refine vZ ?_|(refine zGZ ?_ ?_<;>(intro _hg;try (exfalso;omega)))|fail)
  refine⟨p+1,by omega,⟨by omega,g1,ks,g2,λh=>k2 ?_⟩,ag0⟩;rcases h with h|⟨h,h'⟩
  ·exact .inl h
  ·rcases sP.1 h' with h'|h'
   ·exact .inr ⟨h,.inl h'⟩
   ·have:=hr2 h.symm h'.symm;rw[<-this] at h3;exact .inr ⟨h,.inr ⟨h',by omega⟩⟩
 have hg:=hg q;have hmr:dE (.st [.int,.int,.int]) (fS (⟨(k:Int),(p:Int),(q:Int)⟩:PlaceV)) (ks.map fS)=_:=xx _ _;have zz:=aI @ME @g1;repeat' (first|refine zW ?_|apply a_n|refine zO ?_|refine vZ ?_|(refine zGZ ?_ ?_<;>(intro _hg;try (exfalso;omega)))|fail)
 refine Bv (kv:=fS (⟨(k:Int),(p:Int),(q:Int)⟩:PlaceV)) (xv:=g (⟨(k:Int),(p:Int),(q:Int)⟩:PlaceV)) ev0 g2 (by((try simp only[bS,ZA,reduceEqDiff,↓reduceIte,reduceAdd,reduceLeDiff]);(try with_reducible rfl));rfl) (by((try simp only[bS,ZA,reduceEqDiff,↓reduceIte,reduceAdd,reduceLeDiff]);(try with_reducible rfl));exact hg.symm) rfl hmr ?_;rw[xB ks _ g,wr];clear zz;have zz:=@ME;repeat' (first|apply a_n|refine zO ?_|refine vZ ?_|fail)
 refine⟨q+1,by omega,⟨by omega,by rw[ac (by omega),g1],_,ag,λh=>?_⟩,ag0⟩
 have hold:∀x,x∈ks->x∈(if (⟨(k:Int),(p:Int),(q:Int)⟩:PlaceV)∈ks then ks else ks++[(⟨(k:Int),(p:Int),(q:Int)⟩:PlaceV)]):=λx hx=>by
  split
  ·exact hx
  ·simp[hx]
 have hnew:(⟨(k:Int),(p:Int),(q:Int)⟩:PlaceV)∈(if (⟨(k:Int),(p:Int),(q:Int)⟩:PlaceV)∈ks then ks else ks++[(⟨(k:Int),(p:Int),(q:Int)⟩:PlaceV)]):=by
  split
  ·assumption
  ·simp
 by_cases he:r=k/\f=p/\t=q
 ·obtain⟨rfl,rfl,rfl⟩:=he;exact hnew
 ·exact hold _ (k2 (by omega))
theorem yG(m:MachV)(r f t:Int)(hs:ShM m)(h:dF m r f t=0):pU 31 [bV m,fS ⟨r,f,t⟩] (be (ki m ⟨r,f,t⟩)):=by
 obtain⟨R,F,U,rfl,rfl,rfl,h1,h2,h3⟩:=vV h;exact yt m R F U hs h1 h2 h3
theorem y3(m:MachV)(r f t s:Int)(hs:ShM m):pU 13 [bV m,.int .i64 r,.int .i64 f,.int .i64 t,.int .i64 s] (.tup [aW (jP m r f t s).1,.int .i64 (jP m r f t s).2]):=by
 refine pO Dm ?_;simp only[b13,aS];have hp:=sE m r f t hs;have em:=cp m;have ep:=qY ⟨r,f,t⟩;have e0:aW []=.str ⟨⟨[]⟩⟩:=rfl;by_cases h0:dF m r f t=0
 rotate_left
 ·have e:jP m r f t s=([],dF m r f t):=by unfold jP;rw[if_pos h0]
  rw[e];unfold bV MachV.cells at hp em;unfold fS at hp ep;have hne:decide (dF m r f t≠0)=true:=bk h0;have zz:=aI @ME @hne;repeat' (first|refine zW ?_|apply a_n|apply a_r|refine zO ?_|refine vZ ?_|refine cZ ?_ (hp:=hp)|refine alZ ?_|refine bxZ ?_|refine stZ ?_|refine cTZ ?_|refine ae rfl ?_|refine r2Z ?_|fail)
  exact(Dat.tup (DatL.cons Dat.str (DatL.cons .int DatL.nil))) _
 rw[h0] at hp;have hy:=yG m r f t hs h0;have hsh:=tA hs h0;have hrg:∀v∈ki m ⟨r,f,t⟩,0<=v/\v<=1048576:=λv hv=>qt h0 hv
 have e:jP m r f t s=if s<0\/((ki m ⟨r,f,t⟩).length:Int)<=s then([],6) else(iw r f t ((ki m ⟨r,f,t⟩).getD s.toNat default),0):=by
  unfold jP;rw[if_neg (by simpa using h0)]
 rw[e];clear e;generalize ki m ⟨r,f,t⟩=l at *;unfold bV MachV.cells at hp em hy;unfold fS at hp hy ep;by_cases hsl:s<0\/(l.length:Int)<=s
 ·rw[if_pos hsl];have zz:=@ME;repeat' (first|refine zW ?_|apply a_n|apply a_r|refine zO ?_|refine vZ ?_|refine cZ ?_ (hp:=by first|exact hp|exact hy)|refine alZ ?_|refine bxZ ?_|refine stZ ?_|refine gTZ ?_|refine gFZ ?_|refine cTZ ?_|(refine zGZ ?_ ?_<;>(intro _hg;try (exfalso;omega)))|refine ae rfl ?_|refine r2Z ?_|fail)
  all_goals exact(Dat.tup (DatL.cons Dat.str (DatL.cons .int DatL.nil))) _
 ·rw[if_neg hsl];have hv:=hrg _ (aj (l:=l) (k:=s.toNat) (by omega));have hm:=si r f t (l.getD s.toNat default) (by omega);have zz:=@ME;repeat' (first|refine zW ?_|refine zM ?_|apply a_n|refine zO ?_|refine vZ ?_|refine cZ ?_ (hp:=by first|exact hp|exact hy|exact hm)|refine alZ ?_|refine bxZ ?_|refine stZ ?_|refine gTZ ?_|(refine zGZ ?_ ?_<;>(intro _hg;try (exfalso;omega)))|refine ae rfl ?_|refine r2Z ?_|fail)
  all_goals exact(Dat.tup (DatL.cons (bv _) (DatL.cons .int DatL.nil))) _
theorem yN(m:MachV)(r f t:Int)(hs:ShM m):pU 15 [bV m,.int .i64 r,.int .i64 f,.int .i64 t] (.tup [.int .i64 (jM m r f t).1,.int .i64 (jM m r f t).2]):=by
 refine pO Dl ?_;simp only[b15,aS];have hp:=sE m r f t hs;have em:=cp m;have ep:=qY ⟨r,f,t⟩;by_cases h0:dF m r f t=0
 rotate_left
 ·have e:jM m r f t=(0,dF m r f t):=by unfold jM;rw[if_pos h0]
  rw[e];unfold bV MachV.cells at hp em;unfold fS at hp ep;have hne:decide (dF m r f t≠0)=true:=bk h0;have zz:=aI @ME @hne;repeat' (first|refine zW ?_|apply a_n|apply a_r|refine zO ?_|refine vZ ?_|refine cZ ?_ (hp:=hp)|refine alZ ?_|refine bxZ ?_|refine stZ ?_|refine cTZ ?_|refine ae rfl ?_|refine r2Z ?_|fail)
  exact(Dat.tup (DatL.cons .int (DatL.cons .int DatL.nil))) _
 rw[h0] at hp;have hy:=yG m r f t hs h0;have hsh:=tA hs h0;have hrg:∀v∈ki m ⟨r,f,t⟩,0<=v/\v<=1048576:=λv hv=>qt h0 hv
 have e:jM m r f t=((ki m ⟨r,f,t⟩).foldl (λo s=>max o ((iw r f t s).length:Int)) 0,0):=by
  unfold jM;rw[if_neg (by simpa using h0)]
 rw[e];clear e;generalize ki m ⟨r,f,t⟩=l at *;have hl':l.length<=9223372036854775807:=hsh;unfold bV MachV.cells at hp em hy;unfold fS at hp hy ep;have zz:=@ME;repeat' (first|refine zW ?_|apply a_n|refine zO ?_|refine vZ ?_|refine cZ ?_ (hp:=by first|exact hp|exact hy)|refine alZ ?_|refine bxZ ?_|refine stZ ?_|(refine zGZ ?_ ?_<;>(intro _hg;try (exfalso;omega)))|fail)
 refine fg (X:=Nat) (λk=>[(10,.ptr 1 3 0),(12,.int .i64 ((l.take k).foldl (λo s=>max o ((iw r f t s).length:Int)) 0)),(27,be l),(28,.int .i64 l.length),(29,.int .i64 k)]) (λk=>k<=l.length) (λk=>l.length-k) 0 (bZ _) (by simp (disch:=omega) only[agr,ZG,reduceEqDiff,↓reduceIte,List.take_zero,List.foldl_nil,gI,my,reduceAdd,eF]) ?_;rintro k h1;by_cases hk:k<l.length
 ·have hv:=hrg _ (aj hk);have hm:=si r f t (l.getD k default) (by omega);have ht:=bT hk;clear zz;have zz:=aI @ME @aH;repeat' (first|refine zW ?_|apply a_n|refine zO ?_|refine vZ ?_|refine cZ ?_ (hp:=hm)|(refine zGZ ?_ ?_<;>(intro _hg;try (exfalso;omega)))|fail)
  refine⟨k+1,by omega,by omega,?_,rfl,rfl⟩;rw[ht,List.foldl_append];simp (disch:=omega) only[agr,ZG,reduceEqDiff,↓reduceIte,List.foldl_cons,List.foldl_nil]
 ·clear zz;have zz:=@ME;repeat' (first|refine zW ?_|apply a_n|apply a_x|refine zO ?_|refine vZ ?_|(refine zGZ ?_ ?_<;>(intro _hg;try (exfalso;omega)))|refine ae rfl ?_|refine r2Z ?_|fail)
  rw[gP (by omega)];exact(Dat.tup (DatL.cons .int (DatL.cons .int DatL.nil))) _
theorem up(l:List UInt8)(hl:Sh l):pU 35 [aW l] (.tup [aW (gp l).1,.int .i64 (gp l).2]):=by
 refine pO Df ?_;simp only[b35,aS];have hl':l.length<=9223372036854775807:=hl;have e0:aW []=.str ⟨⟨[]⟩⟩:=rfl;by_cases h6:6<=l.length
 rotate_left
 ·have e:gp l=([],24):=by
    unfold gp eo;rw[bq h6];rfl
  rw[e,e0];have zz:=@aH;repeat' (first|refine zW ?_|apply a_n|apply a_r|refine zO ?_|refine vZ ?_|refine gFZ ?_|(refine zGZ ?_ ?_<;>(intro _hg;try (exfalso;omega)))|refine cTZ ?_|refine ae rfl ?_|refine r2Z ?_|fail)
  exact(Dat.tup (DatL.cons Dat.str (DatL.cons .int DatL.nil))) _
 obtain⟨N,hN⟩:∃N:Nat,l.length=N+2:=⟨l.length-2,by omega⟩
 have hsub:(l.length:Int)-2=(N:Int):=by omega
 have hck:=j0 (l.take N) (by show _<=_;rw[gN];omega);have hbd:=pg (l.take N)
 have hR:eo l=decide (f7 (l.take N)=((l.getD N default).toNat*256+(l.getD (N+1) default).toNat:Nat)):=by
  unfold eo;rw[bk h6,Bool.true_and,show l.length-2=N by omega,show l.length-1=N+1 by omega]
 have hO:gp l=if eo l=true then(l.take N,0) else([],24):=by
  unfold gp;rw[show l.length-2=N by omega]
 have b1:=ll (l.getD N default);have b2:=ll (l.getD (N+1) default);have tN:((N:Int)+1).toNat=N+1:=by omega
 rw[hR] at hO
 have x1:kI (aW l) (.int .i64 (N:Int))=some (dW (l.getD N default)):=by
  have:=iO (l:=l) (k:=.i64) (n:=(N:Int)) (by omega) (by omega)
  rwa [kK] at this
 have x2:kI (aW l) (.int .i64 ((N:Int)+1))=some (dW (l.getD (N+1) default)):=by
  have:=iO (l:=l) (k:=.i64) (n:=(N:Int)+1) (by omega) (by omega)
  rwa [tN] at this
 have s1:fw (aW l) none (some (.int .i64 (N:Int)))=some (aW (l.take N)):=jz (by omega);generalize hA:(l.getD N default).toNat=A at *;generalize hB:(l.getD (N+1) default).toNat=B at *
 have a1:∀(tb tf:Bool)(k':IntKind),aX .shl tb tf (.int .i64 (A:Int)) (.int k' 8)=some (.int .i64 ((A*256:Nat):Int)):=λtb tf k'=>by
  have:=xa (k:=.i64) (k':=k') (a:=A) (b:=8) (tb:=tb) (tf:=tf) (by simp[IntKind.bits]) (by simp[IntKind.bits];omega)
  rwa [show((8:Nat):Int)=8 from rfl] at this
 have a2:∀(tb tf:Bool),aX .or tb tf (.int .i64 ((A*256:Nat):Int)) (.int .i64 (B:Int))=some (.int .i64 ((A*256+B:Nat):Int)):=λtb tf=>by
  have:=wx (k:=.i64) (a:=A*256) (b:=B) (tb:=tb) (tf:=tf) (by simp[IntKind.bits];omega) (by simp[IntKind.bits];omega);rw[this]
  congr 3
  have:=zl (n:=B) (x:=A) (k:=8) (by have:(2:Nat)^8=256:=rfl;omega);rw[show(2:Nat)^8=256 from rfl] at this;rw[Nat.or_comm,this,Nat.add_comm]
 generalize f7 (l.take N)=q at *;have zz:=aI @aH (aI @hsub (aI @x1 (aI @x2 (aI @s1 (aI @a1 (aI @a2 (aI @qL (aI @hA @hB))))))));repeat' (first|refine zW ?_|apply a_n|apply a_r|refine zO ?_|refine vZ ?_|refine cZ ?_ (hp:=hck) (hs:=by(first|refine aq ?_ rfl|apply az);(repeat' (first|exact ar|apply aO|apply ay|exact bv _));first|done|fail)|refine gTZ ?_|(refine zGZ ?_ ?_<;>(intro _hg;try (exfalso;omega)))|refine ae rfl ?_|refine r2Z ?_|fail)
 ·rw[hO,if_neg (by simpa using _hg),e0];exact(Dat.tup (DatL.cons Dat.str (DatL.cons .int DatL.nil))) _
 ·rw[hO,if_pos (by simpa using _hg)];exact(Dat.tup (DatL.cons (bv _) (DatL.cons .int DatL.nil))) _
theorem dp(b:Nat)(bs:List UInt8)(bad:Bool)(H:Hp)(nx:Nat)(hb:H b=some [bN bs,.bool bad])(hl:Sh bs):Abs.Fn Try.prog 36 [.ptr b 2 0] H nx λr H' nx'=>r=.int .i64 (ao bs bad).1/\H'=ah H b [bN (ao bs bad).2.1,.bool (ao bs bad).2.2]/\nx'=nx:=by
 refine fO CQ ?_;simp only[b36,aS];have hl':bs.length<=9223372036854775807:=hl;cases bad with
 |true=>
  have zz:=aI @hb @bm;repeat' (first|refine zW ?_|apply a_n|refine zO ?_|refine vZ ?_|fail)
  refine fg (X:=Unit) (λ_=>[(0,.ptr b 2 0),(4,.int .i64 0)]) (λ_=>True) (λ_=>0) () trivial ag0 ?_;rintro _ _;clear zz;have zz:=aI @NK (aI @hb (aI @eN (aI @kw (aI @np @bm))));repeat' (first|refine zW ?_|apply a_n|apply a_x|refine zO ?_|refine vZ ?_|refine stZ ?_|refine gTZ ?_|refine gFZ ?_|(refine zGZ ?_ ?_<;>(intro _hg;try (exfalso;omega)))|refine cFZ ?_|refine ae rfl ?_|refine r1Z ?_|fail)
  all_goals exact⟨rfl,rfl,rfl⟩
 |false=>
  have hR:ao bs false=match rq bs with
   |some (n,l)=>((n:Int),l,false)
   |none=>(0,bs,true):=by unfold ao;rw[if_neg (by simp)]
  have zz:=aI @hb @bm;repeat' (first|refine zW ?_|apply a_n|refine zO ?_|refine vZ ?_|fail)
  refine fg (X:=Nat×Nat) (λx=>[(0,.ptr b 2 0),(3,.int .i64 (x.2:Int)),(4,.int .i64 (x.1:Int))]) (λx=>x.1<=4/\x.2<128^x.1/\x.1<=bs.length/\rq bs=nk (decide (x.1=0)) (4-x.1) (128^x.1) x.2 (bs.drop x.1)) (λx=>4-x.1) (0,0) ⟨by omega,by simp,by omega,rfl⟩ ag0 ?_;rintro⟨i,n⟩ ⟨h1,h2,h3,h4⟩;dsimp only at h1 h2 h3 h4 |-;by_cases hi:i<4/\i<bs.length
  rotate_left
  ·have hnone:rq bs=none:=by
     rw[h4];by_cases h5:i<4
     ·rw[ml (by omega),zi]
     ·rw[show 4-i=0 by omega];rfl
   rw[hnone] at hR;rw[hR];clear zz;have zz:=aI @NK (aI @hb (aI @eN (aI @kw (aI @np @bm))));repeat' (first|refine zW ?_|apply a_n|apply a_x|refine zO ?_|refine vZ ?_|refine stZ ?_|refine gTZ ?_|refine gFZ ?_|(refine zGZ ?_ ?_<;>(intro _hg;try (exfalso;omega)))|refine cFZ ?_|refine ae rfl ?_|refine r1Z ?_|fail)
   all_goals exact⟨rfl,rfl,rfl⟩
  have hd:=cP hi.2;obtain⟨k,hk⟩:∃k,4-i=k+1:=⟨3-i,by omega⟩
  rw[hd,hk,nk] at h4;have hb4:128^i<=128^3:=Nat.pow_le_pow_right (by omega) (by omega);have hb4':(128:Nat)^3=2097152:=rfl;have hsucc:128^(i+1)=128^i*128:=Nat.pow_succ 128 i;have hc1:=ll (bs.getD i default);have hmul:(bs.getD i default).toNat%128*128^i<=127*128^i:=gF _ (by omega);have a1:=λtb tf=>Al (bs.getD i default) tb tf
  have a2:∀(tb tf:Bool)(k':IntKind),aX .shl tb tf (.int .i64 (((bs.getD i default).toNat%128:Nat):Int)) (.int k' (7*(i:Int)))=some (.int .i64 (((bs.getD i default).toNat%128*128^i:Nat):Int)):=λtb tf k'=>by
   have:=xa (k:=.i64) (k':=k') (a:=(bs.getD i default).toNat%128) (b:=7*i) (tb:=tb) (tf:=tf) (by simp[IntKind.bits];omega) (by rw[AS];simp only[IntKind.bits];omega);rw[AS] at this;rw[<-this];rfl
  have a3:∀(tb tf:Bool),aX .or tb tf (.int .i64 (n:Int)) (.int .i64 (((bs.getD i default).toNat%128*128^i:Nat):Int))=some (.int .i64 ((n+(bs.getD i default).toNat%128*128^i:Nat):Int)):=λtb tf=>by
   have:=wx (k:=.i64) (a:=n) (b:=(bs.getD i default).toNat%128*128^i) (tb:=tb) (tf:=tf) (by simp only[IntKind.bits];omega) (by simp only[IntKind.bits];omega);rw[this]
   congr 3
   rw[<-AS];exact zl (by rw[AS];exact h2)
  generalize hcc:(bs.getD i default)=c at *;generalize hun:128^i=u at *
  have hsl:xz 1 (bN bs) (some (.int .i64 ((i:Int)+1))) none none=some (bN (bs.drop (i+1))):=by
   have:=sK (sz:=1) (f:=dW) (l:=bs) (k:=i+1) (by omega)
   rwa [show((i+1:Nat):Int)=(i:Int)+1 by omega] at this
  have hcm:c.toNat<128->c.toNat%128=c.toNat:=λh=>Nat.mod_eq_of_lt h;clear zz;have zz:=aI @NK (aI @hb (aI @eN (aI @wH (aI @kw (aI @np (aI @qL (aI @hcc (aI @a1 (aI @a2 (aI @a3 (aI @hsl @bm)))))))))));repeat' (first|refine zW ?_|apply a_n|apply a_x|apply a_r|refine zO ?_|refine vZ ?_|refine stZ ?_|refine gTZ ?_|refine gFZ ?_|refine cTZ ?_|refine cFZ ?_|(refine zGZ ?_ ?_<;>(intro _hg;try (exfalso;omega)))|refine ae rfl ?_|refine r1Z ?_|fail)
  ·have hnone:rq bs=none:=by
     rw[h4,if_pos (by omega),if_pos ⟨bq (by omega),by omega⟩]
   rw[hnone] at hR;rw[hR];exact⟨rfl,rfl,rfl⟩
  ·have hsome:rq bs=some (n+c.toNat*u,bs.drop (i+1)):=by
     rw[h4,if_pos (by omega),if_neg (by omega)]
   rw[hsome] at hR;rw[hR,hcm (by omega)];exact⟨rfl,rfl,rfl⟩
  ·have hsome:rq bs=some (n+c.toNat*u,bs.drop (i+1)):=by
     rw[h4,if_pos (by omega),if_neg (by simp;omega)]
   rw[hsome] at hR;rw[hR,hcm (by omega)];exact⟨rfl,rfl,rfl⟩
  ·refine⟨(i+1,n+c.toNat%128*u),⟨by dsimp only;omega,by dsimp only;rw[hsucc];omega,by dsimp only;omega,?_⟩,by dsimp only;omega,ag0,rfl,rfl⟩;dsimp only;rw[h4,if_neg (by omega),hsucc,show 4-(i+1)=k by omega,bq (by omega)]
theorem yI(b:Nat)(bs:List UInt8)(bad:Bool)(H:Hp)(nx:Nat)(hb:H b=some [bN bs,.bool bad])(hl:Sh bs):Abs.Fn Try.prog 78 [.ptr b 2 0] H nx λr H' nx'=>r=.int .i64 ((ao bs bad).1-1)/\H'=ah H b [bN (ao bs bad).2.1,.bool (ao bs bad).2.2]/\nx'=nx:=by
 refine fO DV ?_;simp only[b78,aS];have hbd:=cf bs bad
 repeat' (first|refine zW ?_|apply a_n|refine zO ?_|refine vZ ?_|fail)
 refine aK ev0 ev0 (dp b bs bad H nx hb hl) ?_;rintro r H' nx' ⟨rfl,rfl,rfl⟩
 repeat' (first|apply a_n|refine zO ?_|refine vZ ?_|refine ae rfl ?_|refine r1Z ?_|fail)
 exact⟨rfl,rfl,rfl⟩
def im(sub:Int):Nat->List UInt8->Bool->List Int×List UInt8×Bool
 |0,bs,bad=>([],bs,bad)
 |k+1,bs,bad=>if bad=true then([],bs,true) else
  (((ao bs false).1-sub)::(im sub k (ao bs false).2.1 (ao bs false).2.2).1,(im sub k (ao bs false).2.1 (ao bs false).2.2).2)
theorem fJ(sub:Int)(k:Nat)(bs:List UInt8):im sub k bs true=([],bs,true):=by cases k<;>rfl
theorem n7(sub:Int)(k:Nat)(bs:List UInt8):im sub (k+1) bs false=(((ao bs false).1-sub)::(im sub k (ao bs false).2.1 (ao bs false).2.2).1,(im sub k (ao bs false).2.1 (ao bs false).2.2).2):=rfl
theorem pq(bs:List UInt8):(ao bs false).2.2=true\/(ao bs false).2.1.length<bs.length:=by
 unfold ao;rw[if_neg (by simp)];cases h:rq bs with
 |none=>exact .inl rfl
 |some p=>
  obtain⟨n,l⟩:=p;exact .inr (sL 4 true 1 0 bs n l h).2
theorem jq(sub:Int):∀(k:Nat)(bs:List UInt8)(bad:Bool),(im sub k bs bad).1.length<=bs.length+1/\(im sub k bs bad).2.1.length<=bs.length
 |0,bs,bad=>by simp[im]
 |k+1,bs,bad=>by
  cases bad with
  |true=>rw[fJ];simp
  |false=>
   rw[n7];have h1:=jq sub k (ao bs false).2.1 (ao bs false).2.2;have h2:=cf bs false;rcases pq bs with h|h
   ·rw[h,fJ];rw[h,fJ] at h1;simp only[gI,my] at h1 |-;omega
   ·simp only[gI];omega
theorem lY(g:Nat)(sub:Int)(hg:g=36/\sub=0\/g=78/\sub=1)(b:Nat)(bs:List UInt8)(bad:Bool)(n:Int)(H:Hp)(nx:Nat)(hb:H b=some [bN bs,.bool bad])(hlt:b<nx)(hl:bs.length<=1000000000)(hn:n<=4611686018427387904):
    Abs.Fn Try.prog 77 [.ptr b 2 0,.int .i64 n,.bfn g [.ptr b 2 0]] H nx λr H' nx'=>H' b=some [bN (im sub n.toNat bs bad).2.1,.bool (im sub n.toNat bs bad).2.2]/\Row H' 1 r ((im sub n.toNat bs bad).1.map (AV.int .i64))/\nx<=nx'/\(∀i,i<nx->i≠b->H' i=H i)/\(∀i,aY r=some i->nx<=i/\i<nx'):=by
 refine fO DD ?_;simp only[b77,aS]
 have hcall:∀(bs:List UInt8)(bad:Bool)(H:Hp)(nx:Nat),H b=some [bN bs,.bool bad]->bs.length<=1000000000->Abs.Fn Try.prog g [.ptr b 2 0] H nx λr H' nx'=>r=.int .i64 ((ao bs bad).1-sub)/\H'=ah H b [bN (ao bs bad).2.1,.bool (ao bs bad).2.2]/\nx'=nx:=by
  intro bs bad H nx hb hl;rcases hg with⟨rfl,rfl⟩|⟨rfl,rfl⟩
  ·have:=dp b bs bad H nx hb (by show _<=_;omega);simpa using this
  ·exact yI b bs bad H nx hb (by show _<=_;omega)
 have hsub:0<=sub/\sub<=1:=by omega
 repeat' (first|refine zW ?_|apply a_n|refine zO ?_|refine vZ ?_|fail)
 refine dL (X:=AV×Nat×List Int×List UInt8×Bool) (λx=>[(0,.ptr b 2 0),(1,.int .i64 n),(2,.bfn g [.ptr b 2 0]),(7,x.1),(8,.int .i64 x.2.1)])
  (fun x H' nx'=>x.2.1 ≤ n.toNat∧H' b=some [bN x.2.2.2.1,.bool x.2.2.2.2]∧x.2.2.2.1.length ≤ bs.length∧x.2.2.1.length + x.2.2.2.1.length ≤ bs.length + (if x.2.2.2.2=true then 1 else 0)∧nx ≤ nx'∧Row H' 1 x.1 (x.2.2.1.map (AV.int .i64))∧(∀ i,aY x.1=some i→nx ≤ i∧i < nx')∧(∀ i,i < nx→i ≠ b→H' i=H i) ∧
   im sub n.toNat bs bad=(x.2.2.1++(im sub (n.toNat-x.2.1) x.2.2.2.1 x.2.2.2.2).1,(im sub (n.toNat-x.2.1) x.2.2.2.1 x.2.2.2.2).2)) (λx=>n.toNat-x.2.1) (.esl,0,[],bs,bad)
  ⟨bZ _,hb,bj _,by simp,bj _,Row.nil,λi h=>(by cases h),λ_ _ _=>rfl,by simp⟩ ag0 ?_
 rintro⟨s,k,l,cs,bd⟩ H1 nx1 ⟨k1,k2,k3,k4,k5,k6,k7,k8,k9⟩;dsimp only at k1 k2 k3 k4 k6 k7 k9 |-;by_cases hgo:k<n.toNat/\bd=false
 rotate_left
 ·have hfin:im sub (n.toNat-k) cs bd=([],cs,bd):=by
    cases bd with
    |true=>exact fJ _ _ _
    |false=>
     have:¬k<n.toNat:=λh=>hgo ⟨h,rfl⟩;rw[show n.toNat-k=0 by omega];rfl
  rw[hfin,kp] at k9;rw[k9];by_cases hk:k<n.toNat
  ·have hbd:bd=true:=by simpa using λh=>hgo ⟨hk,h⟩
   subst hbd;have zz:=aI @NK (aI @k2 @bm);repeat' (first|refine zW ?_|apply a_n|apply a_x|refine zO ?_|refine vZ ?_|refine gTZ ?_|(refine zGZ ?_ ?_<;>(intro _hg;try (exfalso;omega)))|refine cFZ ?_|refine ae rfl ?_|refine r1Z ?_|fail)
   exact⟨k2,k6,k5,k8,k7⟩
  ·have zz:=aI @NK (aI @k2 @bm);repeat' (first|refine zW ?_|apply a_n|apply a_x|refine zO ?_|refine vZ ?_|refine gFZ ?_|(refine zGZ ?_ ?_<;>(intro _hg;try (exfalso;omega)))|refine cFZ ?_|refine ae rfl ?_|refine r1Z ?_|fail)
   all_goals exact⟨k2,k6,k5,k8,k7⟩
 obtain⟨hk,rfl⟩:=hgo;obtain⟨q,hq⟩:∃q,n.toNat-k=q+1:=⟨n.toNat-k-1,by omega⟩
 rw[hq,n7] at k9;have hbd:=cf cs false;have hcost:=pq cs;have hone:=k6.one;have k4':l.length+cs.length<=bs.length:=by simpa using k4
 have zz:=aI @NK (aI @k2 @bm);repeat' (first|refine zW ?_|apply a_n|refine zO ?_|refine vZ ?_|refine gTZ ?_|(refine zGZ ?_ ?_<;>(intro _hg;try (exfalso;omega)))|refine cTZ ?_|fail)
 refine AG ev0 ev0 (Abs.Fn.mono (hcall cs false H1 nx1 k2 (by omega)) ?_);rintro r H2 nx2 ⟨rfl,rfl,rfl⟩;generalize hnx:ao cs false=res at *;obtain⟨v,cs',bd'⟩:=res;dsimp only at k9 hbd hcost |-;clear zz;have zz:=aI hone.1 hone.2;repeat' (first|apply a_n|refine zO ?_|refine blY ?_|fail)
 have hll:(l.map (AV.int .i64)).length=l.length:=eG _
 have hr6:Row (ah (ah H1 b [bN cs',.bool bd']) nx2 [.int .i64 (v-sub)]) 1 s (l.map (AV.int .i64)):=k6.same λi hi=>by
  have:=k7 i hi;rw[ac (by omega),ac (by omega)]
 refine eL (k:=1) (new:=[.int .i64 (v - sub)]) rfl ev0 hr6 ev0 (by
  have:=jB (H:=ah (ah H1 b [bN cs',.bool bd']) nx2 [.int .i64 (v-sub)]) (sz:=1) (b:=nx2) (n:=1) (off:=0) (len:=1) (cs:=[.int .i64 (v-sub)]) ag rfl (by omega);exact this) rfl rfl f6 (by rw[hll];omega) (by rw[hll];omega) ?_
 rintro s' H3 nx3 hrow j1 j2 j3 j4;have hone':=hrow.one;clear zz;have zz:=aI hone'.1 hone'.2;repeat' (first|apply a_n|refine zO ?_|refine vY ?_|fail)
 refine⟨(s',k+1,l++[v-sub],cs',bd'),by dsimp only;omega,⟨by dsimp only;omega,?_,?_,?_,?_,?_,?_,?_,?_⟩,ag0⟩
 all_goals try dsimp only
 ·have hnr:aY s≠some b:=λh=>by have:=k7 b h;omega
  rw[j3 b (by omega) hnr,ac (by omega),ag]
 ·omega
 ·rw[cm,List.length_singleton];rcases hcost with h|h
  ·rw[if_pos h];omega
  ·omega
 ·omega
 ·rw[eU];exact hrow
 ·intro i hi;rcases j4 i hi with h|h
  ·have:=k7 i h;omega
  ·omega
 ·intro i hi hne;have hnr:aY s≠some i:=λh=>by have:=k7 i h;omega
  rw[j3 i (by omega) hnr,ac (by omega),ac (by omega),k8 i hi hne]
 ·rw[k9,show n.toNat-(k+1)=q by omega,f8];rfl
theorem pk{m:MachV}{bs:List UInt8}{H:Hp}{nx:Nat}(h:JW m bs H nx)(add:Int)(l:List Int)(hl:bs.length<=1000000000/\l.length<=1000000000)(hn:∀n∈l,0<=n+add/\n+add<=4611686018427387904)(ha:-1000<=add/\add<=1000):
    Abs.Fn Try.prog 92 [.int .i64 add,be l,.ptr 2 1 0] H nx λ_ H' nx'=>JW m (bs++aL add l) H' nx':=by
 obtain⟨h0,s,hO,hne⟩:=h;have h2:=hO.blt;refine Abs.Fn.mono (sW add l (be l) s 2 bs H nx hO (Reads.data l) (by omega) hn ha) ?_;rintro r H' nx' ⟨s',hO',hle,hrow,hfr⟩;refine⟨by rw[hfr 0 (by omega) (by omega) hne,h0],s',hO',?_⟩;rcases hrow with h|h
 ·rw[h];exact hne
 ·intro h';have:=h 0 h';omega
theorem mU{m:MachV}{bs:List UInt8}{H:Hp}{nx:Nat}(h:JW m bs H nx)(add:Int)(l:List Int)(n:Nat)(hnl:n=l.length)(hl:bs.length<=1000000000/\l.length<=1000000000)(hn:∀n∈l,0<=n+add/\n+add<=4611686018427387904)(ha:-1000<=add/\add<=1000):
    Abs.Fn Try.prog 92 [.int .i64 add,.msl nx n 1 0 n,.ptr 2 1 0] (ah H nx (l.map (AV.int .i64))) (nx+1) λ_ H' nx'=>JW m (bs++aL add l) H' nx':=by
 obtain⟨h0,s,hO,hne⟩:=h;have h2:=hO.blt;have hlt:=hO.lt;refine Abs.Fn.mono (sW add l (.msl nx n 1 0 n) s 2 bs _ (nx+1) hO.more (Reads.box ag (by omega) (by omega) (λh=>by have:=hlt nx h;omega) hnl) (by omega) hn ha) ?_;rintro r H' nx' ⟨s',hO',hle,hrow,hfr⟩;refine⟨by rw[hfr 0 (by omega) (by omega) hne,ac (by omega),h0],s',hO',?_⟩;rcases hrow with h|h
 ·rw[h];exact hne
 ·intro h';have:=h 0 h';omega
theorem eE{α β:Type}{l:List α}{f:α->List β}{x:α}:(l++[x]).flatMap f=l.flatMap f++f x:=by simp
theorem rZ(m:MachV)(hg:GoodM m):pU 42 [bV m] (aW (bM m)):=by
 refine pO D0 ?_;simp only[b42,aS];have hbl:=jj hg;have hn:=hg.n;have hrr:=hg.r;have hii:=hg.i;have hoo:=hg.o;obtain⟨l1,l2,l3⟩:=u6 hg;have e0:AV.str ⟨#[82,84,77,1]⟩=aW [82,84,77,1]:=rfl
 let B1:=jx m
 let B2:=B1++m.first.flatMap (aL 1)
 let B3:=B2++m.out.flatMap fk
 let B4:=B3++m.symbols.flatMap eK
 let B5:=B4++aL 0 [(m.steps.length:Int)]
 have hB:kQ m=B5++m.steps.flatMap (eh m.n.toNat):=rfl
 have hB5:B5.length<=1000000000:=by
  rw[hB,cm] at hbl;omega
 have hB4:B4.length<=1000000000:=by
  have:B5=B4++aL 0 [(m.steps.length:Int)]:=rfl;rw[this,cm] at hB5;omega
 have hB3:B3.length+(m.symbols.flatMap eK).length<=1000000000:=by
  have:B4=B3++m.symbols.flatMap eK:=rfl;rw[this,cm] at hB4;omega
 have hB2:B2.length+(m.out.flatMap fk).length<=1000000000:=by
  have:B3=B2++m.out.flatMap fk:=rfl;rw[this,cm] at hB3;omega
 have hB1:B1.length+(m.first.flatMap (aL 1)).length<=1000000000:=by
  have:B2=B1++m.first.flatMap (aL 1):=rfl
  rw[this,cm] at hB2;omega
 refine bW ?_;have zz:=@ME;repeat' (first|apply a_n|refine zO ?_|refine vZ ?_|refine bxZ ?_|fail)
 refine bW ?_;clear zz;have zz:=@ME;repeat' (first|apply a_n|refine zO ?_|fail)
 refine aK ev0 (by((try simp only[bS,ZA,reduceEqDiff,↓reduceIte,reduceAdd,reduceLeDiff]);(try with_reducible rfl));rfl) (uw [82,84,77,1] (by simp) _ _) ?_;rintro r H1 nx1 ⟨rfl,rfl,hfr,hO⟩;simp only[reduceAdd] at hO hfr;have h0:H1 0=some m.cells:=(hfr 0 (by omega)).trans rfl;have hJ:JW m [82,84,77,1] H1 3:=⟨h0,_,hO,by simp[aY]⟩
 repeat' (first|apply a_n|refine zO ?_|refine vZ ?_|fail)
 refine cw (λT H nx=>T 1=.ptr 0 8 0/\T 3=.func 92 [.ptr 2 1 0]/\T 4=.func 93 [.ptr 2 1 0]/\JW m B1 H nx) ?_ ?_
 ·clear zz;have zz:=aI @ME @h0;repeat' (first|apply a_n|refine zO ?_|refine vZ ?_|refine blZ ?_|fail)
  refine aK ev0 ev0 (mU hJ 0 [m.n,m.rounds,m.ins,m.outs] 4 rfl (by simp) (by simp;omega) (by omega)) ?_;rintro r H2 nx2 hJ2
  repeat' (first|apply a_n|refine zO ?_|fail)
  exact⟨rfl,rfl,rfl,hJ2⟩
 clear zz;clear hO hJ h0 hfr H1;rintro T H nx ⟨t1,t3,t4,hJ⟩;have h0:=hJ.m0;refine cw (λT H nx=>T 1=.ptr 0 8 0/\T 3=.func 92 [.ptr 2 1 0]/\T 4=.func 93 [.ptr 2 1 0]/\JW m B2 H nx) ?_ ?_
 ·have zz:=aI @ME (aI @t1 (aI @t3 (aI @t4 @h0)));repeat' (first|refine zW ?_|apply a_n|refine zO ?_|refine vZ ?_|fail)
  refine dL (X:=Nat) (λk=>[(1,.ptr 0 8 0),(3,.func 92 [.ptr 2 1 0]),(4,.func 93 [.ptr 2 1 0]),(35,aF m.first),(36,.int .i64 m.first.length),(37,.int .i64 k)]) (λk H nx=>k<=m.first.length/\JW m (B1++(m.first.take k).flatMap (aL 1)) H nx) (λk=>m.first.length-k) 0 ⟨bZ _,by simpa using hJ⟩ (have zz:=aI @t1 (aI @t3 @t4);agZ) ?_;clear zz;clear hJ h0 t1 t3 t4 H nx;rintro k H nx ⟨k1,hJ⟩;by_cases hk:k<m.first.length
  ·have hm:=aj hk;have hp:=d7 m.first (aL 1) k
   have hl:=qE hg hm;have zz:=@ME;repeat' (first|refine zW ?_|apply a_n|refine zO ?_|refine vZ ?_|(refine zGZ ?_ ?_<;>(intro _hg;try (exfalso;omega)))|fail)
   refine aK ev0 ev0 (pk hJ 1 (m.first.getD k default) ⟨by rw[cm];omega,by omega⟩ (λv hv=>w7 hg hm hv) (by omega)) ?_;rintro r H2 nx2 hJ2
   repeat' (first|apply a_n|refine zO ?_|refine vZ ?_|fail)
   refine⟨k+1,by omega,⟨by omega,?_⟩,ag0⟩;rw[bT hk,eE,<-f8];exact hJ2
  ·have zz:=@ME;repeat' (first|refine zW ?_|apply a_n|apply a_x|refine zO ?_|refine vZ ?_|(refine zGZ ?_ ?_<;>(intro _hg;try (exfalso;omega)))|fail)
   rw[gP (by omega)] at hJ;exact⟨rfl,rfl,rfl,hJ⟩
 clear hJ h0 t1 t3 t4 H nx;rintro T H nx ⟨t1,t3,t4,hJ⟩;have h0:=hJ.m0;refine cw (λT H nx=>T 1=.ptr 0 8 0/\T 3=.func 92 [.ptr 2 1 0]/\T 4=.func 93 [.ptr 2 1 0]/\JW m B3 H nx) ?_ ?_
 ·have zz:=aI @ME (aI @t1 (aI @t3 (aI @t4 @h0)));repeat' (first|refine zW ?_|apply a_n|refine zO ?_|refine vZ ?_|fail)
  refine dL (X:=Nat) (λk=>[(1,.ptr 0 8 0),(3,.func 92 [.ptr 2 1 0]),(4,.func 93 [.ptr 2 1 0]),(46,aN m.out),(47,.int .i64 m.out.length),(48,.int .i64 k)]) (λk H nx=>k<=m.out.length/\JW m (B2++(m.out.take k).flatMap fk) H nx) (λk=>m.out.length-k) 0 ⟨bZ _,by simpa using hJ⟩ (have zz:=aI @t1 (aI @t3 @t4);agZ) ?_;clear zz;clear hJ h0 t1 t3 t4 H nx;rintro k H nx ⟨k1,hJ⟩;by_cases hk:k<m.out.length
  ·have hm:=aj hk;have hp:=d7 m.out fk (k+1);rw[bT hk,eE,cm] at hp;have hsn:(m.out.take (k+1)).flatMap fk=(m.out.take k).flatMap fk++fk (m.out.getD k default):=by rw[bT hk,eE]
   obtain⟨q1,q2⟩:=iA hg hm;have hov:∀l∈m.out.getD k default,∀v∈l,0<=v+1/\v+1<=4611686018427387904:=λl hl v hv=>z4 hg hm hl hv;generalize hR:m.out.getD k default=R at *;have hBp:(B2++(m.out.take k).flatMap fk).length+(fk R).length<=1000000000:=by rw[cm];omega
   generalize hBB:B2++(m.out.take k).flatMap fk=BB at *;have zz:=aI @ME @hR;repeat' (first|refine zW ?_|apply a_n|refine zO ?_|refine vZ ?_|(refine zGZ ?_ ?_<;>(intro _hg;try (exfalso;omega)))|fail)
   refine dL (X:=Nat) (λp=>[(1,.ptr 0 8 0),(3,.func 92 [.ptr 2 1 0]),(4,.func 93 [.ptr 2 1 0]),(46,aN m.out),(47,.int .i64 m.out.length),(48,.int .i64 k),(52,aF R),(53,.int .i64 R.length),(54,.int .i64 p)]) (λp H nx=>p<=R.length/\JW m (BB++fk (R.take p)) H nx) (λp=>R.length-p) 0 ⟨bZ _,by simpa[fk] using hJ⟩ ag0 ?_;clear zz;clear hJ H nx;rintro p H nx ⟨p1,hJ⟩;by_cases hp:p<R.length
   ·have hm2:=aj hp;have hpp:(fk (R.take (p+1))).length<=(fk R).length:=d7 R _ (p+1)
    have hsn2:fk (R.take (p+1))=fk (R.take p)++(aL 0 [((R.getD p default).length:Int)]++aL 1 (R.getD p default)):=by
     unfold fk;rw[bT hp,eE]
    rw[hsn2] at hpp;simp only[cm] at hpp;have hl8:=q2 _ hm2;have hvv:=hov _ hm2;generalize hLL:R.getD p default=L at *;have zz:=aI @ME @hLL;repeat' (first|refine zW ?_|apply a_n|refine zO ?_|refine vZ ?_|refine blZ ?_|(refine zGZ ?_ ?_<;>(intro _hg;try (exfalso;omega)))|fail)
    refine aK ev0 ev0 (mU hJ 0 [(L.length:Int)] 1 rfl ⟨by rw[cm];omega,by simp⟩ (by simp;omega) (by omega)) ?_;rintro r H2 nx2 hJ2
    repeat' (first|apply a_n|refine zO ?_|refine vZ ?_|fail)
    refine aK ev0 ev0 (pk hJ2 1 L ⟨by simp only[cm];omega,by omega⟩ hvv (by omega)) ?_;rintro r H3 nx3 hJ3
    repeat' (first|apply a_n|refine zO ?_|refine vZ ?_|fail)
    refine⟨p+1,by omega,⟨by omega,?_⟩,ag0⟩;rw[hsn2];simpa only[f8] using hJ3
   ·have zz:=@ME;repeat' (first|refine zW ?_|apply a_n|apply a_x|refine zO ?_|refine vZ ?_|(refine zGZ ?_ ?_<;>(intro _hg;try (exfalso;omega)))|fail)
    rw[gP (by omega)] at hJ;refine⟨k+1,by omega,⟨by omega,?_⟩,ag0⟩;rw[hsn,<-f8,hBB];exact hJ
  ·have zz:=@ME;repeat' (first|refine zW ?_|apply a_n|apply a_x|refine zO ?_|refine vZ ?_|(refine zGZ ?_ ?_<;>(intro _hg;try (exfalso;omega)))|fail)
   rw[gP (by omega)] at hJ;exact⟨rfl,rfl,rfl,hJ⟩
 clear hJ h0 t1 t3 t4 H nx;rintro T H nx ⟨t1,t3,t4,hJ⟩;have h0:=hJ.m0;refine cw (λT H nx=>T 1=.ptr 0 8 0/\T 3=.func 92 [.ptr 2 1 0]/\T 4=.func 93 [.ptr 2 1 0]/\JW m B4 H nx) ?_ ?_
 ·have zz:=aI @ME (aI @t1 (aI @t3 (aI @t4 @h0)));repeat' (first|refine zW ?_|apply a_n|refine zO ?_|refine vZ ?_|fail)
  refine dL (X:=Nat) (λk=>[(1,.ptr 0 8 0),(3,.func 92 [.ptr 2 1 0]),(4,.func 93 [.ptr 2 1 0]),(69,b9 m.symbols),(70,.int .i64 m.symbols.length),(71,.int .i64 k)]) (λk H nx=>k<=m.symbols.length/\JW m (B3++(m.symbols.take k).flatMap eK) H nx) (λk=>m.symbols.length-k) 0 ⟨bZ _,by simpa using hJ⟩ (have zz:=aI @t1 (aI @t3 @t4);agZ) ?_;clear zz;clear hJ h0 t1 t3 t4 H nx;rintro k H nx ⟨k1,hJ⟩;by_cases hk:k<m.symbols.length
  rotate_left
  ·have zz:=@ME;repeat' (first|refine zW ?_|apply a_n|apply a_x|refine zO ?_|refine vZ ?_|(refine zGZ ?_ ?_<;>(intro _hg;try (exfalso;omega)))|fail)
   rw[gP (by omega)] at hJ;exact⟨rfl,rfl,rfl,hJ⟩
  have hm:=aj hk;have hp:=d7 m.symbols eK (k+1);rw[bT hk,eE,cm] at hp;have hsn:(m.symbols.take (k+1)).flatMap eK=(m.symbols.take k).flatMap eK++eK (m.symbols.getD k default):=by rw[bT hk,eE]
  obtain⟨q1,q2⟩:=qD hg hm;have hov:∀r∈m.symbols.getD k default,∀l∈r,∀v∈l,0<=v+0/\v+0<=4611686018427387904:=λr hr l hl v hv=>zV hg hm hr hl hv;generalize hR:m.symbols.getD k default=R at *;have hBp:(B3++(m.symbols.take k).flatMap eK).length+(eK R).length<=1000000000:=by rw[cm];omega
  generalize hBB:B3++(m.symbols.take k).flatMap eK=BB at *;have zz:=aI @ME @hR;repeat' (first|refine zW ?_|apply a_n|refine zO ?_|refine vZ ?_|(refine zGZ ?_ ?_<;>(intro _hg;try (exfalso;omega)))|fail)
  refine dL (X:=Nat) (λp=>[(1,.ptr 0 8 0),(3,.func 92 [.ptr 2 1 0]),(4,.func 93 [.ptr 2 1 0]),(69,b9 m.symbols),(70,.int .i64 m.symbols.length),(71,.int .i64 k),(75,aN R),(76,.int .i64 R.length),(77,.int .i64 p)]) (λp H nx=>p<=R.length/\JW m (BB++eK (R.take p)) H nx) (λp=>R.length-p) 0 ⟨bZ _,by simpa[eK] using hJ⟩ ag0 ?_;clear zz;clear hJ H nx;rintro p H nx ⟨p1,hJ⟩;by_cases hp:p<R.length
  rotate_left
  ·have zz:=@ME;repeat' (first|refine zW ?_|apply a_n|apply a_x|refine zO ?_|refine vZ ?_|(refine zGZ ?_ ?_<;>(intro _hg;try (exfalso;omega)))|fail)
   rw[gP (by omega)] at hJ;refine⟨k+1,by omega,⟨by omega,?_⟩,ag0⟩;rw[hsn,<-f8,hBB];exact hJ
  have hm2:=aj hp;have hpp:(eK (R.take (p+1))).length<=(eK R).length:=d7 R _ (p+1)
  have hsn2:eK (R.take (p+1))=eK (R.take p)++ga (R.getD p default):=by
   unfold eK;rw[bT hp,eE]
  rw[hsn2,cm] at hpp;obtain⟨q3,q4⟩:=q2 _ hm2;have hvv:=hov _ hm2;generalize hLL:R.getD p default=S at *;have hBp2:(BB++eK (R.take p)).length+(ga S).length<=1000000000:=by rw[cm];omega
  generalize hCC:BB++eK (R.take p)=CC at *;have zz:=aI @ME @hLL;repeat' (first|refine zW ?_|apply a_n|refine zO ?_|refine vZ ?_|(refine zGZ ?_ ?_<;>(intro _hg;try (exfalso;omega)))|fail)
  refine dL (X:=Nat) (λq=>[(1,.ptr 0 8 0),(3,.func 92 [.ptr 2 1 0]),(4,.func 93 [.ptr 2 1 0]),(69,b9 m.symbols),(70,.int .i64 m.symbols.length),(71,.int .i64 k),(75,aN R),(76,.int .i64 R.length),(77,.int .i64 p),(81,aF S),(82,.int .i64 S.length),(83,.int .i64 q)]) (λq H nx=>q<=S.length/\JW m (CC++ga (S.take q)) H nx) (λq=>S.length-q) 0 ⟨bZ _,by simpa[ga] using hJ⟩ ag0 ?_;clear zz;clear hJ H nx;rintro q H nx ⟨q1',hJ⟩;by_cases hq:q<S.length
  rotate_left
  ·have zz:=@ME;repeat' (first|refine zW ?_|apply a_n|apply a_x|refine zO ?_|refine vZ ?_|(refine zGZ ?_ ?_<;>(intro _hg;try (exfalso;omega)))|fail)
   rw[gP (by omega)] at hJ;refine⟨p+1,by omega,⟨by omega,?_⟩,ag0⟩;rw[hsn2,<-f8,hCC];exact hJ
  have hm3:=aj hq;have hqq:(ga (S.take q)).length<=(ga S).length:=d7 S _ q;have hl8:=q4 _ hm3;have zz:=@ME;repeat' (first|refine zW ?_|apply a_n|refine zO ?_|refine vZ ?_|(refine zGZ ?_ ?_<;>(intro _hg;try (exfalso;omega)))|fail)
  refine aK ev0 ev0 (pk hJ 0 (S.getD q default) ⟨by rw[cm];omega,by omega⟩ (hvv _ hm3) (by omega)) ?_;rintro r H2 nx2 hJ2
  repeat' (first|apply a_n|refine zO ?_|refine vZ ?_|fail)
  refine⟨q+1,by omega,⟨by omega,?_⟩,ag0⟩;unfold ga at hJ2 |-;rw[bT hq,eE,<-f8];exact hJ2
 clear hJ h0 t1 t3 t4 H nx;rintro T H nx ⟨t1,t3,t4,hJ⟩;have h0:=hJ.m0;have hsl:=hg.sl;refine cw (λT H nx=>T 1=.ptr 0 8 0/\T 3=.func 92 [.ptr 2 1 0]/\T 4=.func 93 [.ptr 2 1 0]/\JW m B5 H nx) ?_ ?_
 ·have zz:=aI @ME (aI @t1 (aI @t3 (aI @t4 @h0)));repeat' (first|apply a_n|refine zO ?_|refine vZ ?_|refine blZ ?_|fail)
  refine aK (have zz:=@t3;evZ) ev0 (mU hJ 0 [(m.steps.length:Int)] 1 rfl ⟨by omega,by simp⟩ (by simp;omega) (by omega)) ?_;rintro r H2 nx2 hJ2
  repeat' (first|apply a_n|refine zO ?_|fail)
  exact⟨(have zz:=@t1;evZ),(have zz:=@t3;evZ),(have zz:=@t4;evZ),hJ2⟩
 clear hJ h0 t1 t3 t4 H nx;rintro T H nx ⟨t1,t3,t4,hJ⟩;have h0:=hJ.m0;refine cw (λT H nx=>T 4=.func 93 [.ptr 2 1 0]/\JW m (kQ m) H nx) ?_ ?_
 ·have zz:=aI @ME (aI @t1 (aI @t3 (aI @t4 @h0)));repeat' (first|refine zW ?_|apply a_n|refine zO ?_|refine vZ ?_|fail)
  refine dL (X:=Nat) (λk=>[(1,.ptr 0 8 0),(3,.func 92 [.ptr 2 1 0]),(4,.func 93 [.ptr 2 1 0]),(100,bh m.steps),(101,.int .i64 m.steps.length),(102,.int .i64 k)]) (λk H nx=>k<=m.steps.length/\JW m (B5++(m.steps.take k).flatMap (eh m.n.toNat)) H nx) (λk=>m.steps.length-k) 0 ⟨bZ _,by simpa using hJ⟩ (have zz:=aI @t1 (aI @t3 @t4);agZ) ?_;clear zz;clear hJ h0 t1 t3 t4 H nx;rintro k H nx ⟨k1,hJ⟩;by_cases hk:k<m.steps.length
  rotate_left
  ·have zz:=@ME;repeat' (first|refine zW ?_|apply a_n|apply a_x|refine zO ?_|refine vZ ?_|(refine zGZ ?_ ?_<;>(intro _hg;try (exfalso;omega)))|fail)
   rw[gP (by omega)] at hJ;exact⟨rfl,hJ⟩
  have hm:=aj hk;obtain⟨g1,g2,g3,g4⟩:=rU hg hm;have hp:=d7 m.steps (eh m.n.toNat) (k+1);rw[bT hk,eE,cm] at hp;have hsn:(m.steps.take (k+1)).flatMap (eh m.n.toNat)=(m.steps.take k).flatMap (eh m.n.toNat)++eh m.n.toNat (m.steps.getD k default):=by rw[bT hk,eE]
  rw[hB,cm] at hbl;generalize hR:m.steps.getD k default=x at *;have hsb:eh m.n.toNat x=aL 0 [x.round,x.proc]++aL 1 (x.heard.take m.n.toNat)++aL 0 [x.to]:=rfl;rw[hsb] at hp;simp only[cm] at hp;have hBp:(B5++(m.steps.take k).flatMap (eh m.n.toNat)).length+((aL 0 [x.round,x.proc]).length+(aL 1 (x.heard.take m.n.toNat)).length+(aL 0 [x.to]).length)<=1000000000:=by rw[cm];omega
  rw[hsb] at hsn;clear hsb hp hbl;generalize hBB:B5++(m.steps.take k).flatMap (eh m.n.toNat)=BB at *;have h2nx:=hJ.lt;have hh:x.heard=[x.h0,x.h1,x.h2,x.h3,x.h4]:=rfl
  have hvT:∀v∈x.heard.take m.n.toNat,0<=v+1/\v+1<=4611686018427387904:=λv hv=>by
   obtain⟨q,hq,rfl⟩:=ft hv;rw[gN] at hq;rw[nP (by omega)];have:=g4 q (by omega);omega
  refine bW ?_
  repeat' (first|apply a_n|refine zO ?_|refine vZ ?_|fail)
  refine bW ?_;have zz:=@ME;repeat' (first|apply a_n|refine zO ?_|(refine zGZ ?_ ?_<;>(intro _hg;try (exfalso;omega)))|fail)
  refine bW (pn (bW ?_));clear zz;have zz:=aI @ME (aI @hR @vT);repeat' (first|apply a_n|refine zO ?_|refine vY ?_|refine alY ?_|refine stY ?_|fail)
  refine bW ?_;refine eJ (only nx x.cells) _ [(1,.ptr 0 8 0),(3,.func 92 [.ptr 2 1 0]),(4,.func 93 [.ptr 2 1 0]),(18,.iptr x.cells 0),(100,bh m.steps),(101,.int .i64 m.steps.length),(102,.int .i64 k)] (Fz.one ag) ⟨.inl ev0,.inl ev0,.inl ev0,.inr ?_,.inl ev0,.inl ev0,.inl ev0,trivial⟩ ?_
  ·((try simp only[bS,ZA,reduceEqDiff,↓reduceIte,reduceAdd,reduceLeDiff]);(try with_reducible rfl))
   exact gu (cs:=x.cells) j7 rfl (dV (fp x))
  clear zz;have zz:=aI @ME @vT;repeat' (first|apply a_n|refine zO ?_|refine vY ?_|refine blY ?_|fail)
  refine aK ev0 ev0 (mU hJ.box 0 [x.round,x.proc] 2 rfl ⟨by omega,by simp⟩ (by simp;omega) (by omega)) ?_;clear zz;clear hJ h2nx;rintro r H nx hJ;have h0:=hJ.m0
  repeat' (first|apply a_n|refine zO ?_|fail)
  refine bW ?_;have zz:=aI @ME (aI @h0 ((sY (show 0<=m.n/\m.n<=5 by omega))));repeat' (first|apply a_n|refine zO ?_|refine vZ ?_|fail)
  refine aK ev0 (have zz:=@hh;evZ) (pk hJ 1 (x.heard.take m.n.toNat) ⟨by rw[cm];omega,by rw[gN];simp[hh];omega⟩ hvT (by omega)) ?_;clear zz;clear hJ h0;rintro r H nx hJ;have zz:=@ME;repeat' (first|apply a_n|refine zO ?_|refine vZ ?_|refine blZ ?_|fail)
  refine aK ev0 ev0 (mU hJ 0 [x.to] 1 rfl ⟨by rw[cm,cm];omega,by simp⟩ (by simp;omega) (by omega)) ?_;clear zz;clear hJ;rintro r H nx hJ
  repeat' (first|apply a_n|refine zO ?_|refine vZ ?_|fail)
  refine⟨k+1,by omega,⟨by omega,?_⟩,ag0⟩;rw[hsn,<-f8,hBB];simpa only[f8] using hJ
 clear hJ h0 t1 t3 t4 H nx;rintro T H nx ⟨t4,hJ⟩;obtain⟨s,hs,hne⟩:=hJ.out;have zz:=@t4;repeat' (first|refine zW ?_|apply a_n|refine zO ?_|refine vZ ?_|fail)
 refine aK (have zz:=@t4;evZ) ev0 (zo 2 s H nx hs.box) ?_;rintro v3 H3 nx3 ⟨rfl,rfl,rfl⟩
 skip
 refine aK ev0 ev0 (ue _ _ _ _ hs.row hs.lt (by omega)) ?_;rintro v4 H4 nx4 rfl
 repeat' (first|apply a_n|refine zO ?_|refine vZ ?_|refine ae rfl ?_|refine r1Z ?_|fail)
 exact bv _ _
theorem sq(m:MachV)(hs:ShM m):pU 19 [bV m] (.tup [aW (dX m).1,.int .i64 (dX m).2]):=by
 refine pO Dn ?_;simp only[b19,aS];have hp:=sJ m hs;have em:=cp m;have e0:aW []=.str ⟨⟨[]⟩⟩:=rfl;by_cases h0:dx m=0
 rotate_left
 ·have e:dX m=([],dx m):=by unfold dX;rw[if_pos h0]
  rw[e];unfold bV MachV.cells at hp em;have hne:decide (dx m≠0)=true:=bk h0;have zz:=aI @ME @hne;repeat' (first|refine zW ?_|apply a_n|apply a_r|refine zO ?_|refine vZ ?_|refine cZ ?_ (hp:=hp)|refine bxZ ?_|refine cTZ ?_|refine ae rfl ?_|refine r2Z ?_|fail)
  exact(Dat.tup (DatL.cons Dat.str (DatL.cons .int DatL.nil))) _
 have hg:=mL h0;have hw:=rZ m hg;have hwl:=mE hg;rw[h0] at hp;have e:dX m=if 65536<(bM m).length then([],13) else(bM m,0):=by unfold dX;rw[if_neg (by simpa using h0)]
 rw[e];clear e;generalize bM m=W at *;unfold bV MachV.cells at hp em hw;by_cases hl:65536<W.length
 ·rw[if_pos hl];have zz:=aI @ME @aH;repeat' (first|refine zW ?_|apply a_n|apply a_r|refine zO ?_|refine vZ ?_|refine cZ ?_ (hp:=by first|exact hp|exact hw)|refine bxZ ?_|(refine zGZ ?_ ?_<;>(intro _hg;try (exfalso;omega)))|refine ae rfl ?_|refine r2Z ?_|fail)
  all_goals exact(Dat.tup (DatL.cons Dat.str (DatL.cons .int DatL.nil))) _
 ·rw[if_neg hl];have zz:=aI @ME @aH;repeat' (first|refine zW ?_|apply a_n|refine zO ?_|refine vZ ?_|refine cZ ?_ (hp:=by first|exact hp|exact hw) (hs:=by(first|refine aq ?_ rfl|apply az);(repeat' (first|exact ar|apply aO|apply ay|exact em|exact bv _));first|done|fail)|refine bxZ ?_|(refine zGZ ?_ ?_<;>(intro _hg;try (exfalso;omega)))|refine ae rfl ?_|refine r2Z ?_|fail)
  all_goals exact(Dat.tup (DatL.cons (bv _) (DatL.cons .int DatL.nil))) _
theorem zZ(b1 b2 n1 n2:Nat)(l1 l2:List UInt8)(H:Hp)(nx:Nat)(h1:H b1=some (l1.map dW))(h2:H b2=some (l2.map dW))(e1:n1=l1.length)(e2:n2=l2.length):
    Abs.Fn Try.prog 37 [.msl b1 n1 1 0 n1,.msl b2 n2 1 0 n2] H nx λr H' nx'=>r=.bool (decide (l1=l2))/\H'=H/\nx'=nx:=by
 refine fO Dh ?_;simp only[b37,aS]
 repeat' (first|refine zW ?_|apply a_n|refine zO ?_|refine vZ ?_|fail)
 refine rO (n:=n1) (bs:=l1) (by((try simp only[bS,ZA,reduceEqDiff,↓reduceIte,reduceAdd,reduceLeDiff]);(try with_reducible rfl));exact gi h1 e1) ?_
 repeat' (first|apply a_n|refine zO ?_|refine vZ ?_|fail)
 refine rO (n:=n2) (bs:=l2) (by((try simp only[bS,ZA,reduceEqDiff,↓reduceIte,reduceAdd,reduceLeDiff]);(try with_reducible rfl));exact gi h2 e2) ?_;have zz:=@wk;repeat' (first|apply a_n|refine zO ?_|refine vZ ?_|refine ae rfl ?_|refine r1Z ?_|fail)
 exact⟨rfl,rfl,rfl⟩
theorem qv(m:MachV)(r f t:Int)(l:List UInt8)(hs:ShM m)(hl:Sh l):pU 17 [bV m,.int .i64 r,.int .i64 f,.int .i64 t,aW l] (.tup [.int .i64 (fL m r f t l).1,.int .i64 (fL m r f t l).2]):=by
 refine pO Dw ?_;simp only[b17,aS];have hp:=sE m r f t hs;have em:=cp m;have ep:=qY ⟨r,f,t⟩;have ho:=up l hl;have hl':l.length<=9223372036854775807:=hl;by_cases h0:dF m r f t=0
 rotate_left
 ·have e:fL m r f t l=(0,dF m r f t):=by unfold fL;rw[if_pos h0]
  rw[e];unfold bV MachV.cells at hp em;unfold fS at hp ep;have hne:decide (dF m r f t≠0)=true:=bk h0;have zz:=aI @ME @hne;repeat' (first|refine zW ?_|apply a_n|apply a_r|refine zO ?_|refine vZ ?_|refine cZ ?_ (hp:=hp)|refine alZ ?_|refine bxZ ?_|refine stZ ?_|refine cTZ ?_|refine ae rfl ?_|refine r2Z ?_|fail)
  exact(Dat.tup (DatL.cons .int (DatL.cons .int DatL.nil))) _
 rw[h0] at hp;have hy:=yG m r f t hs h0;have hsh:=tA hs h0
 have e:fL m r f t l=if eo l=true then zt m r f t (l.take (l.length-2)) else(0,24):=by
  unfold fL;rw[if_neg (by simpa using h0)]
 rw[e];clear e;by_cases hr:eo l=true
 rotate_left
 ·rw[if_neg hr];unfold gp at ho;rw[if_neg hr] at ho;unfold bV MachV.cells at hp em;unfold fS at hp ep;have zz:=@ME;repeat' (first|refine zW ?_|apply a_n|apply a_r|refine zO ?_|refine vZ ?_|refine cZ ?_ (hp:=by first|exact hp|exact ho) (hs:=by(first|refine aq ?_ rfl|apply az);(repeat' (first|exact ar|apply aO|apply ay|exact em|exact ep|exact bv _));first|done|fail)|refine alZ ?_|refine bxZ ?_|refine stZ ?_|(refine zGZ ?_ ?_<;>(intro _hg;try (exfalso;omega)))|refine ae rfl ?_|refine r2Z ?_|fail)
  exact(Dat.tup (DatL.cons .int (DatL.cons .int DatL.nil))) _
 rw[if_pos hr];unfold gp at ho;rw[if_pos hr] at ho
 have h6:6<=l.length:=by
  unfold eo at hr;simp only[cE,lc] at hr;exact hr.1
 have hLl:(l.take (l.length-2)).length=l.length-2:=by rw[gN];omega
 generalize hL:l.take (l.length-2)=L at *;have x1:fw (aW L) (some (.int .i64 3)) none=some (aW (L.drop 3)):=rH (k:=3) (by omega);have x2:fw (aW L) none (some (.int .i64 3))=some (aW (L.take 3)):=jz (k:=3) (by omega);have e3:(L.drop 3).length=l.length-5:=by rw[rz];omega
 have e4:(L.take 3).length=3:=by rw[gN];omega
 unfold zt;generalize hR:L.drop 3=R at *;generalize hF:L.take 3=F at *;have hrs:Sh R:=by show _<=_;omega
 unfold bV MachV.cells at hp em hy;unfold fS at hp hy ep;have zz:=aI @ME @x1;repeat' (first|refine zW ?_|apply a_n|refine zO ?_|refine vZ ?_|refine cZ ?_ (hp:=by first|exact hp|exact ho) (hs:=by(first|refine aq ?_ rfl|apply az);(repeat' (first|exact ar|apply aO|apply ay|exact em|exact ep|exact bv _));first|done|fail)|refine alZ ?_|refine bxZ ?_|refine stZ ?_|(refine zGZ ?_ ?_<;>(intro _hg;try (exfalso;omega)))|fail)
 refine tJ (bs:=⟨R.toArray⟩) (by((try simp only[bS,ZA,reduceEqDiff,↓reduceIte,reduceAdd,reduceLeDiff]);(try with_reducible rfl));rfl) (λh=>absurd h (by rw[dg];omega)) (λ_=>?_);clear zz;have zz:=aI @dg @jy;repeat' (first|apply a_n|refine zO ?_|refine vZ ?_|refine bxZ ?_|fail)
 refine bW ?_;refine eJ (only 2 (R.map dW)) _ [(1,.int .i64 r),(2,.int .i64 f),(3,.int .i64 t),(5,.ptr 0 8 0),(12,.ptr 1 3 0),(14,aW L),(16,.ptr 3 2 0)] (Fz.bytes (b:=2) (c:=3) (n:=R.length) (len:=R.length) ev0 ev0 (by omega) rfl rfl) ⟨.inl ev0,.inl ev0,.inl ev0,.inl ev0,.inl ev0,.inl ev0,.inl ev0,trivial⟩ ?_
 repeat' (first|apply a_n|refine zO ?_|refine vZ ?_|fail)
 refine aK ev0 ev0 (dp 3 R false _ _ ev0 hrs) ?_;rintro v H2 nx2 ⟨rfl,rfl,rfl⟩
 repeat' (first|apply a_n|refine zO ?_|refine vZ ?_|fail)
 have hbd:=cf R false;generalize ao R false=res at *;obtain⟨v,cs,bd⟩:=res;dsimp only at hbd |-
 have w:∀n:Int,IntKind.wrap .u8 n=((UInt8.ofNat (n%256).toNat).toNat:Int):=λn=>by
  rw[nY,UInt8.toNat_ofNat'];have:(2:Nat)^8=256:=rfl;omega
 have dt:∀a b:Int,Dat (AV.tup [.int .i64 a,.int .i64 b]):=λa b=>Dat.tup (DatL.cons .int (DatL.cons .int DatL.nil));cases bd with
 |true=>
  rw[if_pos (.inl rfl)];clear zz;have zz:=aI @ME @NK;repeat' (first|refine zW ?_|apply a_n|apply a_r|refine zO ?_|refine vZ ?_|refine gFZ ?_|refine cTZ ?_|refine ae rfl ?_|refine r2Z ?_|fail)
  exact dt _ _ _
 |false=>
 by_cases hc:0<cs.length
 ·rw[if_pos (.inr (.inl hc))];clear zz;have zz:=aI @ME (aI @NK (aI @eN @bm));repeat' (first|refine zW ?_|apply a_n|apply a_r|refine zO ?_|refine vZ ?_|refine gTZ ?_|refine gFZ ?_|(refine zGZ ?_ ?_<;>(intro _hg;try (exfalso;omega)))|refine cTZ ?_|refine ae rfl ?_|refine r2Z ?_|fail)
  exact dt _ _ _
 by_cases hv:1048576<v
 ·rw[if_pos (.inr (.inr hv))];clear zz;have zz:=aI @ME (aI @NK (aI @eN @bm));repeat' (first|refine zW ?_|apply a_n|apply a_r|refine zO ?_|refine vZ ?_|refine gTZ ?_|(refine zGZ ?_ ?_<;>(intro _hg;try (exfalso;omega)))|refine ae rfl ?_|refine r2Z ?_|fail)
  exact dt _ _ _
 rw[if_neg (by rintro(h|h|h);exact absurd h (by decide);exact hc h;exact hv h)];clear zz;have zz:=aI @ME (aI @NK (aI @eN (aI @bm (aI @x2 (aI (w r) (aI (w f) ((w t))))))));repeat' (first|refine zW ?_|apply a_n|refine zO ?_|refine vZ ?_|refine gTZ ?_|(refine zGZ ?_ ?_<;>(intro _hg;try (exfalso;omega)))|fail)
 refine tJ (bs:=⟨F.toArray⟩) (by((try simp only[bS,ZA,reduceEqDiff,↓reduceIte,reduceAdd,reduceLeDiff]);(try with_reducible rfl));rfl) (λh=>absurd h (by rw[dg];omega)) (λ_=>?_);clear zz;have zz:=aI @ME (aI @NK (aI @eN (aI @bm (aI @x2 (aI (w r) (aI (w f) (aI (w t) (aI @dg @jy))))))));repeat' (first|apply a_n|refine zO ?_|refine vZ ?_|refine blZ ?_|fail)
 refine aK ev0 (by((try simp only[bS,ZA,reduceEqDiff,↓reduceIte,reduceAdd,reduceLeDiff]);(try with_reducible rfl));rw[dg]) (zZ 4 5 F.length 3 F (wc r f t) _ _ ev0 (by((try simp only[bS,ZA,reduceEqDiff,↓reduceIte,reduceAdd,reduceLeDiff]);(try with_reducible rfl));rfl) rfl rfl) ?_;rintro v2 H2 nx2 ⟨rfl,rfl,rfl⟩;by_cases hF:F=wc r f t
 rotate_left
 ·rw[if_pos hF];clear zz;have zz:=aI @hF @decide_false;repeat' (first|refine zW ?_|apply a_n|apply a_r|refine zO ?_|refine vZ ?_|refine cTZ ?_|refine ae rfl ?_|refine r2Z ?_|fail)
  exact dt _ _ _
 rw[if_neg (by simpa using hF)];have hcn:=vJ _ v hsh;by_cases hm:v∈ki m ⟨r,f,t⟩
 ·rw[if_neg (by simpa using hm)];rw[bk hm] at hcn;clear zz;have zz:=aI @hF (aI @decide_true @ME);repeat' (first|refine zW ?_|apply a_n|refine zO ?_|refine vZ ?_|refine cZ ?_ (hp:=by first|exact hy|exact hcn)|refine cFZ ?_|refine ae rfl ?_|refine r2Z ?_|fail)
  exact dt _ _ _
 ·rw[if_pos hm];rw[bq hm] at hcn;clear zz;have zz:=aI @hF (aI @decide_true @ME);repeat' (first|refine zW ?_|apply a_n|apply a_r|refine zO ?_|refine vZ ?_|refine cZ ?_ (hp:=by first|exact hy|exact hcn)|refine cTZ ?_|refine cFZ ?_|refine ae rfl ?_|refine r2Z ?_|fail)
  exact dt _ _ _
theorem yV(l m:List StepV)(hl:Sh l)(hm:Sh m):pU 64 [bh l,bh m] (.bool (decide (l=m))):=by
 refine pO CU ?_;simp only[b64,aS];have hl':l.length<=9223372036854775807:=hl;have hm':m.length<=9223372036854775807:=hm;have zz:=@ME;repeat' (first|refine zW ?_|apply a_n|apply a_r|refine zO ?_|refine vZ ?_|(refine zGZ ?_ ?_<;>(intro _hg;try (exfalso;omega)))|refine ae rfl ?_|refine r1Z ?_|fail)
 ·refine ap ?_
  symm;rw[decide_eq_false_iff_not];rintro rfl;omega
 refine fg (X:=Nat) (λk=>[(0,bh l),(1,bh m),(12,.int .i64 l.length),(13,.int .i64 k)]) (λk=>k<=l.length/\∀i,i<k->l.getD i default=m.getD i default) (λk=>l.length-k) 0 ⟨bZ _,by simp⟩ ag0 ?_;rintro k ⟨h1,h2⟩;have hcmp:=qX (l.getD k default) (m.getD k default);by_cases he:l.getD k default=m.getD k default
 ·rw[bk he] at hcmp;unfold StepV.cells at hcmp;clear zz;have zz:=aI @ME @hcmp;repeat' (first|refine zW ?_|apply a_n|apply a_x|refine zO ?_|refine vZ ?_|refine cFZ ?_|(refine zGZ ?_ ?_<;>(intro _hg;try (exfalso;omega)))|refine ae rfl ?_|refine r1Z ?_|fail)
  ·refine⟨k+1,⟨by omega,λi hi=>?_⟩,by omega,ag0,rfl,rfl⟩;rcases sP.1 hi with h|rfl
   ·exact h2 i h
   ·exact he
  ·refine ap ?_
   symm;rw[qz]
   refine List.ext_getElem (by omega) (λi h3 h4=>?_);have:=h2 i (by omega);simpa[List.getD,h3,h4] using this
 ·rw[bq he] at hcmp;unfold StepV.cells at hcmp;clear zz;have zz:=aI @ME @hcmp;repeat' (first|refine zW ?_|apply a_n|apply a_x|apply a_r|refine zO ?_|refine vZ ?_|refine cTZ ?_|(refine zGZ ?_ ?_<;>(intro _hg;try (exfalso;omega)))|refine ae rfl ?_|refine r1Z ?_|fail)
  ·refine ap ?_
   symm;rw[decide_eq_false_iff_not];rintro rfl;exact he rfl
  ·refine ap ?_
   symm;rw[qz]
   refine List.ext_getElem (by omega) (λi h3 h4=>?_);have:=h2 i (by omega);simpa[List.getD,h3,h4] using this
theorem pW{α:Type}[DecidableEq α][Inhabited α](e:α->AV)(n g:Nat)(hn:Is Try.prog n b99)(hc:∀x,(e x).cells=[e x])(ho:∀x,(e x).one=true)(hd:∀x,Dat (e x))(l m:List α)(hl:Sh l)(hm:Sh m)
    (hg:∀a∈l,∀b∈m,pU g [e a,e b] (.bool (decide (a=b)))):pU n [iK 1 e l,iK 1 e m,.func g []] (.bool (decide (l=m))):=by
 refine Pure.of_c2 follows hn (Nat.le_of_ble_eq_true rfl) ?_;simp only[b99,aS];have hl':l.length<=9223372036854775807:=hl;have hm':m.length<=9223372036854775807:=hm;have x1:∀(k:IntKind)(n:Int),ja 1 (iK 1 e l) (.int k n)=if 0<=n/\n<l.length then some (.iptr [e (l.getD n.toNat default)] 0) else none:=λk n=>by rw[io,hc]
 have x2:∀(k:IntKind)(n:Int),ja 1 (iK 1 e m) (.int k n)=if 0<=n/\n<m.length then some (.iptr [e (m.getD n.toNat default)] 0) else none:=λk n=>by rw[io,hc]
 have x3:ef (iK 1 e l)=some (.int .i64 l.length):=gg;have x4:ef (iK 1 e m)=some (.int .i64 m.length):=gg;have zz:=aI @x3 @x4;repeat' (first|refine zW ?_|apply a_n|apply a_r|refine zO ?_|refine vZ ?_|(refine zGZ ?_ ?_<;>(intro _hg;try (exfalso;omega)))|refine ae rfl ?_|refine r1Z ?_|fail)
 ·refine ap ?_
  symm;rw[decide_eq_false_iff_not];rintro rfl;omega
 rename_i hlen;refine fg (X:=Nat) (λk=>[(0,iK 1 e l),(1,iK 1 e m),(2,.func g []),(15,iK 1 e l),(16,.int .i64 l.length),(17,.int .i64 k)]) (λk=>k<=l.length/\∀i,i<k->l.getD i default=m.getD i default) (λk=>l.length-k) 0 ⟨bZ _,by simp⟩ ag0 ?_;rintro k ⟨h1,h2⟩;by_cases hk:k<l.length
 rotate_left
 ·clear zz;have zz:=aI @x1 (aI @x2 (aI @x3 @x4));repeat' (first|refine zW ?_|apply a_n|apply a_x|refine zO ?_|refine vZ ?_|(refine zGZ ?_ ?_<;>(intro _hg;try (exfalso;omega)))|refine ae rfl ?_|refine r1Z ?_|fail)
  refine ap ?_
  symm;rw[qz]
  refine List.ext_getElem (by omega) (λi h3 h4=>?_);have:=h2 i (by omega);simpa[List.getD,h3,h4] using this
 have hcall:=hg _ (aj hk) _ (aj (l:=m) (k:=k) (by omega));by_cases he:l.getD k default=m.getD k default
 ·rw[bk he] at hcall;clear zz;have zz:=aI @x1 (aI @x2 (aI @x3 @x4));repeat' (first|refine zW ?_|apply a_n|refine zO ?_|refine vZ ?_|refine cZ ?_ (hp:=hcall) (hs:=by(first|refine aq ?_ rfl|apply az);(repeat' (first|exact ar|apply aO|apply ay|exact hd _));first|done|fail)|refine cFZ ?_|(refine zGZ ?_ ?_<;>(intro _hg;try (exfalso;omega)))|fail)
  refine⟨k+1,⟨by omega,λi hi=>?_⟩,by omega,ag0,rfl,rfl⟩;rcases sP.1 hi with h|rfl
  ·exact h2 i h
  ·exact he
 ·rw[bq he] at hcall;clear zz;have zz:=aI @x1 (aI @x2 (aI @x3 @x4));repeat' (first|refine zW ?_|apply a_n|apply a_r|refine zO ?_|refine vZ ?_|refine cZ ?_ (hp:=hcall) (hs:=by(first|refine aq ?_ rfl|apply az);(repeat' (first|exact ar|apply aO|apply ay|exact hd _));first|done|fail)|refine cTZ ?_|(refine zGZ ?_ ?_<;>(intro _hg;try (exfalso;omega)))|refine ae rfl ?_|refine r1Z ?_|fail)
  refine ap ?_
  symm;rw[decide_eq_false_iff_not];rintro rfl;exact he rfl
theorem zU(l m:List (List Int))(hl:Sh2 l)(hm:Sh2 m):pU 99 [aF l,aF m,.func 89 []] (.bool (decide (l=m))):=
 pW be 99 89 Dc (λ_=>rfl) (λ_=>rfl) cW l m hl.1 hm.1 (λa ha b hb=>zA a b (hl.2 a ha) (hm.2 b hb))
theorem An(l m:List (List Int))(hl:Sh2 l)(hm:Sh2 m):pU 88 [aF l,aF m,.func 89 []] (.bool (decide (l=m))):=by
 refine pO C6 ?_;simp only[b88,aS]
 repeat' (first|refine zW ?_|apply a_n|refine zO ?_|refine vZ ?_|refine cZ ?_ (hp:=by exact zU l m hl hm) (hs:=by(first|refine aq ?_ rfl|apply az);(repeat' (first|exact ar|apply aO|apply ay|exact de _|exact Dat.func (by simp)));first|done|fail)|refine ae rfl ?_|refine r1Z ?_|fail)
 exact ap rfl
theorem Bf(l m:List (List Int))(hl:Sh2 l)(hm:Sh2 m):pU 61 [aF l,aF m] (.bool (decide (l=m))):=by
 refine pO Db ?_;simp only[b61,aS]
 repeat' (first|refine zW ?_|apply a_n|refine zO ?_|refine vZ ?_|refine cZ ?_ (hp:=by exact An l m hl hm) (hs:=by(first|refine aq ?_ rfl|apply az);(repeat' (first|exact ar|apply aO|apply ay|exact de _|exact Dat.func (by simp)));first|done|fail)|refine ae rfl ?_|refine r1Z ?_|fail)
 exact ap rfl
theorem vK(l m:List (List (List Int)))(hl:Sh3 l)(hm:Sh3 m):pU 100 [aN l,aN m,.func 61 []] (.bool (decide (l=m))):=
 pW aF 100 61 Cz (λ_=>rfl) (λ_=>rfl) de l m hl.1 hm.1 (λa ha b hb=>Bf a b (hl.2 a ha) (hm.2 b hb))
theorem yr(l m:List (List (List Int)))(hl:Sh3 l)(hm:Sh3 m):pU 90 [aN l,aN m,.func 61 []] (.bool (decide (l=m))):=by
 refine pO DL ?_;simp only[b90,aS];have zz:=@ME;repeat' (first|refine zW ?_|apply a_n|refine zO ?_|refine vZ ?_|refine cZ ?_ (hp:=by exact vK l m hl hm) (hs:=by(first|refine aq ?_ rfl|apply az);(repeat' (first|exact ar|apply aO|apply ay|exact dy _|exact Dat.func (by simp)));first|done|fail)|refine ae rfl ?_|refine r1Z ?_|fail)
 exact ap rfl
theorem w5(l m:List (List (List Int)))(hl:Sh3 l)(hm:Sh3 m):pU 62 [aN l,aN m] (.bool (decide (l=m))):=by
 refine pO C1 ?_;simp only[b62,aS];have zz:=@ME;repeat' (first|refine zW ?_|apply a_n|refine zO ?_|refine vZ ?_|refine cZ ?_ (hp:=by exact yr l m hl hm) (hs:=by(first|refine aq ?_ rfl|apply az);(repeat' (first|exact ar|apply aO|apply ay|exact dy _|exact Dat.func (by simp)));first|done|fail)|refine ae rfl ?_|refine r1Z ?_|fail)
 exact ap rfl
theorem yQ(l m:List (List (List (List Int))))(hl:Sh4 l)(hm:Sh4 m):pU 91 [b9 l,b9 m,.func 62 []] (.bool (decide (l=m))):=
 pW aN 91 62 DP (λ_=>rfl) (λ_=>rfl) dy l m hl.1 hm.1 (λa ha b hb=>w5 a b (hl.2 a ha) (hm.2 b hb))
theorem BG(l m:List (List (List (List Int))))(hl:Sh4 l)(hm:Sh4 m):pU 63 [b9 l,b9 m,.func 62 []] (.bool (decide (l=m))):=by
 refine pO Dj ?_;simp only[b63,aS];have zz:=@ME;repeat' (first|refine zW ?_|apply a_n|refine zO ?_|refine vZ ?_|refine cZ ?_ (hp:=by exact yQ l m hl hm) (hs:=by(first|refine aq ?_ rfl|apply az);(repeat' (first|exact ar|apply aO|apply ay|exact nM _|exact Dat.func (by simp)));first|done|fail)|refine ae rfl ?_|refine r1Z ?_|fail)
 exact ap rfl
theorem ShM.first'{m:MachV}(h:ShM m):Sh2 m.first:=⟨h.first,h.first1⟩
theorem ShM.out'{m:MachV}(h:ShM m):Sh3 m.out:=⟨h.out,λl hl=>⟨h.out1 l hl,h.out2 l hl⟩⟩
theorem ShM.symbols'{m:MachV}(h:ShM m):Sh4 m.symbols:=⟨h.symbols,λl hl=>⟨h.symbols1 l hl,λx hx=>⟨h.symbols2 l hl x hx,h.symbols3 l hl x hx⟩⟩⟩
theorem Cd(a b:MachV)(ha:ShM a)(hb:ShM b):pU 27 [bV a,bV b] (.bool (decide (a=b))):=by
 refine pO CS ?_;simp only[b27,aS];have c1:=Bf _ _ ha.first' hb.first'
 have c2:=w5 _ _ ha.out' hb.out';have c3:=BG _ _ ha.symbols' hb.symbols';have c4:=yV _ _ ha.steps hb.steps
 have hab:decide (a=b)=(decide (a.n=b.n)&&(decide (a.rounds=b.rounds)&&(decide (a.ins=b.ins)&&(decide (a.outs=b.outs)&&(decide (a.first=b.first)&&(decide (a.out=b.out)&&(decide (a.symbols=b.symbols)&&decide (a.steps=b.steps)))))))):=by
  obtain⟨a1,a2,a3,a4,a5,a6,a7,a8⟩:=a;obtain⟨b1,b2,b3,b4,b5,b6,b7,b8⟩:=b;simp only[MachV.mk.injEq,Bool.decide_and];cases decide (a1=b1)<;>cases decide (a2=b2)<;>cases decide (a3=b3)<;>cases decide (a4=b4)<;>cases decide (a5=b5)<;>cases decide (a6=b6)<;>cases decide (a7=b7)<;>cases decide (a8=b8)<;>rfl
 rw[hab];have zz:=@ME;repeat' (first|refine zW ?_|apply a_n|refine zO ?_|refine vZ ?_|refine cZ ?_ (hp:=by first|exact c1|exact c2|exact c3|exact c4) (hs:=by(first|refine aq ?_ rfl|apply az);(repeat' (first|exact ar|apply aO|apply ay|exact de _|exact dy _|exact nM _|exact mj _|exact Dat.func (by simp)));first|done|fail)|refine bxZ ?_|refine gTZ ?_|refine gFZ ?_|(refine zGZ ?_ ?_<;>(intro _hg;try (exfalso;omega)))|refine ae rfl ?_|refine r1Z ?_|fail)
 all_goals
  refine ap ?_;clear zz;clear hab c1 c2 c3 c4 ha hb
  simp_all
theorem Af(a b:Int):pU 65 [.int .i64 a,.int .i64 b] (.agg [.int .i64 a,.int .i64 b,.int .i64 (-1),.int .i64 (-1),.int .i64 (-1)]):=by
 refine pO C9 ?_;simp only[b65,aS]
 repeat' (first|refine zW ?_|apply a_n|refine zO ?_|refine vZ ?_|refine alZ ?_|refine stZ ?_|refine ae rfl ?_|refine r1Z ?_|fail)
 exact Dat.agg (DatL.cons .int (DatL.cons .int (DatL.cons .int (DatL.cons .int (DatL.cons .int DatL.nil))))) _
theorem yq:pU 29 [] (bV exM):=by
 refine pO C4 ?_;simp only[b29,aS]
 repeat' (first|refine zW ?_|apply a_n|refine zO ?_|refine vZ ?_|refine cZ ?_ (hp:=by exact Af _ _)|refine alZ ?_|refine stZ ?_|refine blZ ?_|refine ae rfl ?_|refine r1Z ?_|fail)
 generalize hH:ah _ _ _=H;have g1:H 1=some [.int .i64 0,.int .i64 (-1)]:=by rw[<-hH];rfl
 have g2:H 2=some [.int .i64 0,.int .i64 1]:=by rw[<-hH];rfl
 have g3:H 3=some [.msl 1 2 1 0 2,.msl 2 2 1 0 2]:=by rw[<-hH];rfl
 have g4:H 4=some [.int .i64 0]:=by rw[<-hH];rfl
 have g5:H 5=some [.esl,.msl 4 1 1 0 1]:=by rw[<-hH];rfl
 have g6:H 6=some [.int .i64 0,.int .i64 0]:=by rw[<-hH];rfl
 have g7:H 7=some [.msl 6 2 1 0 2,.esl]:=by rw[<-hH];rfl
 have g8:H 8=some [.msl 5 2 1 0 2,.msl 7 2 1 0 2]:=by rw[<-hH];rfl
 have g9:H 9=some [.msl 8 2 1 0 2]:=by rw[<-hH];rfl
 have g10:H 10=some (exM.steps.flatMap StepV.cells):=by rw[<-hH];rfl
 have g11:H 11=some [.int .i64 (-1)]:=by rw[<-hH];rfl
 have g12:H 12=some [.int .i64 (-1),.int .i64 (-1)]:=by rw[<-hH];rfl
 have g13:H 13=some [.msl 11 1 1 0 1,.msl 12 2 1 0 2]:=by rw[<-hH];rfl
 have g14:H 14=some [.int .i64 (-1)]:=by rw[<-hH];rfl
 have g15:H 15=some [.int .i64 (-1),.int .i64 1]:=by rw[<-hH];rfl
 have g16:H 16=some [.msl 14 1 1 0 1,.msl 15 2 1 0 2]:=by rw[<-hH];rfl
 have g17:H 17=some [.msl 13 2 1 0 2,.msl 16 2 1 0 2]:=by rw[<-hH];rfl
 clear hH;have r1:Snap H (.msl 1 2 1 0 2) (be [0,-1]):=f5 g1 rfl rfl;have r2:Snap H (.msl 2 2 1 0 2) (be [0,1]):=f5 g2 rfl rfl;have r4:Snap H (.msl 4 1 1 0 1) (be [0]):=f5 g4 rfl rfl;have r6:Snap H (.msl 6 2 1 0 2) (be [0,0]):=f5 g6 rfl rfl;have r11:Snap H (.msl 11 1 1 0 1) (be [-1]):=f5 g11 rfl rfl;have r12:Snap H (.msl 12 2 1 0 2) (be [-1,-1]):=f5 g12 rfl rfl;have r14:Snap H (.msl 14 1 1 0 1) (be [-1]):=f5 g14 rfl rfl;have r15:Snap H (.msl 15 2 1 0 2) (be [-1,1]):=f5 g15 rfl rfl;have re:Snap H .esl (be []):=uJ rfl;have vv:∀(b:Nat)(x y:AV)(l m:List Int),H b=some [x,y]->Snap H x (be l)->Snap H y (be m)->Snap H (.msl b 2 1 0 2) (aF [l,m]):=λb x y l m hb h1 h2=>nq hb rfl rfl (aV h1 (aV h2 ar)) (λz hz=>by simp at hz;rcases hz with rfl|rfl<;>rfl);have v3:=vv 3 _ _ _ _ g3 r1 r2;have v5:=vv 5 _ _ _ _ g5 re r4;have v7:=vv 7 _ _ _ _ g7 r6 re;have v13:=vv 13 _ _ _ _ g13 r11 r12;have v16:=vv 16 _ _ _ _ g16 r14 r15;have ww:∀(b:Nat)(x y:AV)(l m:List (List Int)),H b=some [x,y]->Snap H x (aF l)->Snap H y (aF m)->Snap H (.msl b 2 1 0 2) (aN [l,m]):=λb x y l m hb h1 h2=>nq hb rfl rfl (aV h1 (aV h2 ar)) (λz hz=>by simp at hz;rcases hz with rfl|rfl<;>rfl);have v8:=ww 8 _ _ _ _ g8 v5 v7;have v17:=ww 17 _ _ _ _ g17 v13 v16;have v9:Snap H (.msl 9 1 1 0 1) (b9 [[[[],[0]],[[0,0],[]]]]):=nq g9 rfl rfl (aV v8 ar) (λz hz=>by simp at hz;subst hz;rfl)
 have v10:Snap H (.msl 10 32 8 0 4) (bh exM.steps):=by
  refine ye g10 rfl rfl rfl ?_ (λy hy=>?_) (by omega) (λy hy c hc=>?_)
  ·simp only[List.flatMap_map];rfl
  ·simp only[gL] at hy;obtain⟨s,_,rfl⟩:=hy;rfl
  ·simp only[gL] at hy;obtain⟨s,_,rfl⟩:=hy;exact fp s c hc
 exact vE (aV (.int _ _) (aV (.int _ _) (aV (.int _ _) (aV (.int _ _) (aV v3 (aV v9 (aV v10 (aV v17 ar))))))))
end
def b0{α:Type}(f:Nat->List UInt8->Bool->α×List UInt8×Bool):Nat->List UInt8->Bool->List α×List UInt8×Bool
 |0,bs,bad=>([],bs,bad)
 |k+1,bs,bad=>((b0 f k bs bad).1++[(f k (b0 f k bs bad).2.1 (b0 f k bs bad).2.2).1],(f k (b0 f k bs bad).2.1 (b0 f k bs bad).2.2).2)
theorem dK{α:Type}(f:Nat->List UInt8->Bool->α×List UInt8×Bool)(k:Nat)(bs:List UInt8)(bad:Bool):b0 f (k+1) bs bad=((b0 f k bs bad).1++[(f k (b0 f k bs bad).2.1 (b0 f k bs bad).2.2).1],(f k (b0 f k bs bad).2.1 (b0 f k bs bad).2.2).2):=rfl
theorem ce{α:Type}(f:Nat->List UInt8->Bool->α×List UInt8×Bool)(hf:∀i bs bad,(f i bs bad).2.1.length<=bs.length):∀(k:Nat)(bs:List UInt8)(bad:Bool),(b0 f k bs bad).1.length=k/\(b0 f k bs bad).2.1.length<=bs.length
 |0,bs,bad=>⟨rfl,bj _⟩
 |k+1,bs,bad=>by
  obtain⟨h1,h2⟩:=ce f hf k bs bad;rw[dK];exact⟨by simp[h1],gK (hf _ _ _) h2⟩
def fm(n:Int):List UInt8->Bool->List Int×List UInt8×Bool:=λbs bad=>im 1 n.toNat bs bad
theorem jp(n:Int)(bs:List UInt8)(bad:Bool):(fm n bs bad).2.1.length<=bs.length:=(jq 1 n.toNat bs bad).2
def mf(bs:List UInt8)(bad:Bool):List Int×List UInt8×Bool:=fm (ao bs bad).1 (ao bs bad).2.1 (ao bs bad).2.2
theorem m9(bs:List UInt8)(bad:Bool):(mf bs bad).2.1.length<=bs.length:=gK (jp _ _ _) (cf bs bad).2.2
def eu(n:Nat)(bs:List UInt8)(bad:Bool):List (List Int)×List UInt8×Bool:=b0 (λ_=>mf) n bs bad
theorem jX(n:Nat)(bs:List UInt8)(bad:Bool):(eu n bs bad).2.1.length<=bs.length:=(ce _ (λ_=>m9) n bs bad).2
def mkF(n r i o:Int)(f:AV):List AV:=[.int .i64 n,.int .i64 r,.int .i64 i,.int .i64 o,f,.esl,.esl,.esl]
def mkO(n r i o:Int)(F:List (List Int))(x:AV):List AV:=[.int .i64 n,.int .i64 r,.int .i64 i,.int .i64 o,aF F,.esl,.esl,x]
def mkS(n r i o:Int)(F:List (List Int))(O:List (List (List Int)))(x:AV):List AV:=[.int .i64 n,.int .i64 r,.int .i64 i,.int .i64 o,aF F,x,.esl,aN O]
def mkT(n r i o:Int)(F:List (List Int))(O:List (List (List Int)))(S:List (List (List (List Int))))(x:AV):List AV:=[.int .i64 n,.int .i64 r,.int .i64 i,.int .i64 o,aF F,b9 S,x,aN O]
def ec(B:Nat->Bool)(H:Hp):Hp:=λb=>if B b=true then H b else none
def rR(B:Nat->Bool)(H:Hp):Hp:=λb=>if B b=true then none else H b
theorem av.nil{Hf:Hp}:av Hf [] []:=av.refl _ _
theorem av.cons{Hf:Hp}{x x':AV}{cs cs':List AV}(h:x'=x\/Snap Hf x x')(h2:av Hf cs cs'):av Hf (x::cs) (x'::cs'):=by
 refine⟨by simp[h2.1],λi y y' e1 e2=>?_⟩;cases i with
 |zero=>simp at e1 e2;subst e1 e2;exact h
 |succ i=>simp at e1 e2;exact h2.2 i y y' e1 e2
theorem Fz.put{H:Hp}{B:Nat->Bool}{x:Nat}{cs cs':List AV}(hx:B x=false)(h:H x=some cs)(hc:av (ec B H) cs cs'):Fz (ec B H) H (ah (rR B H) x cs'):=by
 refine⟨λb c hb=>?_,λb c hb=>?_⟩
 ·unfold ec at hb;split at hb
  ·exact hb
  ·cases hb
 ·by_cases e:b=x
  ·subst e;rw[ag] at hb;cases hb;exact⟨cs,h,by simp[ec,hx],hc⟩
  ·rw[ac e] at hb;unfold rR at hb;split at hb
   ·cases hb
   ·rename_i hB;exact⟨c,hb,by simp[ec,hB],av.refl _ _⟩
theorem kZ{B:Nat->Bool}{H:Hp}{x:Nat}(h:B x=false):rR B H x=H x:=by simp[rR,h]
structure PH(mk:AV->List AV)(sz:Nat)(bs:List UInt8)(bad:Bool)(s:AV)(cs:List AV)(H0 H:Hp)(nx:Nat):Prop where
 rd:H 2=some [bN bs,.bool bad]
 mc:H 3=some (mk s)
 row:Row H sz s cs
 rlt:∀x,aY s=some x->4<=x/\x<nx
 lt:4<=nx
 fr:∀i,i<2->H i=H0 i
theorem vq{H:Hp}{sz:Nat}{s:AV}{cs:List AV}{B:Nat->Bool}(h:Row H sz s cs)(hb:∀b,aY s=some b->B b=true):Row (ec B H) sz s cs:=h.same λb e=>by simp[ec,hb b e]
theorem lq{H:Hp}{s x x':AV}{cs:List AV}(hrow:Row H 1 s (cs++[x]))(hne:∀b,aY x=some b->aY s≠some b)(hs:∀Hf:Hp,(∀b,aY x=some b->Hf b=H b)->Snap Hf x x'):
    ∃Hf H'',Fz Hf H H''/\Row H'' 1 s (cs++[x'])/\(∀i,aY x≠some i->aY s≠some i->H'' i=H i):=by
 generalize hc:cs++[x]=cs1 at hrow;cases hrow with
 |nil=>simp at hc
 |box b len cs1 hb hl=>
  subst hc;have hnb:¬aY x=some b:=λe=>hne b e rfl;refine⟨_,_,Fz.put (B:=λy=>decide (aY x=some y)) (x:=b) (cs':=cs++[x']) (by simpa using hnb) hb (av.snoc (hs _ λy hy=>by simp[ec,hy])),?_,λi h1 h2=>?_⟩
  ·have hl':(cs++[x']).length=len*1:=by rw[<-hl];simp
   exact Row.box (H:=ah (rR (λy=>decide (aY x=some y)) H) b (cs++[x'])) (sz:=1) b len (cs++[x']) ag hl'
  ·rw[ac (λe=>h2 (by rw[e];rfl)),kZ (by simpa using h1)]
theorem jd{H:Hp}{b:Nat}{cs:List AV}(h:H b=some cs):Sub (only b cs) H:=λx c hx=>by
 unfold only at hx;split at hx
 ·cases hx;subst_vars;exact h
 ·cases hx
theorem PH.step{mk:AV->List AV}{sz:Nat}{bs bs':List UInt8}{bad bad':Bool}{s:AV}{cs:List AV}{H0 H H':Hp}{nx nx':Nat}(h:PH mk sz bs bad s cs H0 H nx)(hrd:H' 2=some [bN bs',.bool bad'])(hfr:∀i,i<nx->i≠2->H' i=H i)(hle:nx<=nx'):PH mk sz bs' bad' s cs H0 H' nx':=by
 obtain⟨g1,g2,g3,g4,g5,g6⟩:=h;refine⟨hrd,by rw[hfr 3 (by omega) (by omega),g2],g3.same λb hb=>?_,λx hx=>?_,by omega,λi hi=>by rw[hfr i (by omega) (by omega),g6 i hi]⟩
 ·have:=g4 b hb;exact hfr b (by omega) (by omega)
 ·have:=g4 x hx;omega
theorem PH.push{mk:AV->List AV}{bs:List UInt8}{bad:Bool}{s:AV}{cs:List AV}{H0 H:Hp}{nx:Nat}(h:PH mk 1 bs bad s cs H0 H nx){v v':AV}(hv:∀b,aY v=some b->4<=b/\b<nx/\aY s≠some b)(hs:∀Hf:Hp,(∀b,aY v=some b->Hf b=H b)->Snap Hf v v')
    {s':AV} {H3:Hp} {nx3:Nat} (hrow:Row H3 1 s' (cs++[v])) (j1:nx+1<=nx3) (j3:∀i,i<nx+1->aY s≠some i->H3 i=ah H nx [v] i) (j4:∀b,aY s'=some b->aY s=some b\/b=nx+1/\nx3=nx+1+1):
    H3 3=some (mk s)/\∃Hf H'',Fz Hf (ah H3 3 (mk s')) H''/\PH mk 1 bs bad s' (cs++[v']) H0 H'' nx3:=by
 obtain⟨g1,g2,g3,g4,g5,g6⟩:=h
 have hlow:∀i,i<4->H3 i=H i:=λi hi=>by
  rw[j3 i (by omega) (λh=>by have:=g4 i h;omega),ac (by omega)]
 have hsB:∀b,aY s'=some b->4<=b/\b<nx3/\aY v≠some b:=λb hb=>by
  rcases j4 b hb with h|h
  ·have:=g4 b h;exact⟨by omega,by omega,λhv'=>(hv b hv').2.2 h⟩
  ·exact⟨by omega,by omega,λhv'=>by have:=hv b hv';omega⟩
 refine⟨by rw[hlow 3 (by omega),g2],?_⟩
 have hrow2:Row (ah H3 3 (mk s')) 1 s' (cs++[v]):=hrow.same λb hb=>by
  have:=hsB b hb;rw[ac (by omega)]
 obtain ⟨Hf,H'',f1,f2,f3⟩:=lq (x':=v') hrow2 (fun b hb h=>(hsB b h).2.2 hb) (fun Hf hf=>hs Hf fun b hb=>by
  have:=hv b hb;rw[hf b hb,ac (by omega),j3 b (by omega) this.2.2,ac (by omega)])
 have hv23:∀x,x<4->aY v≠some x/\aY s'≠some x:=λx hx=>⟨λh=>by have:=hv x h;omega,λh=>by have:=hsB x h;omega⟩
 refine⟨Hf,H'',f1,?_,?_,f2,λb hb=>⟨(hsB b hb).1,(hsB b hb).2.1⟩,by omega,λx hx=>?_⟩
 ·rw[f3 2 (hv23 2 (by omega)).1 (hv23 2 (by omega)).2,ac (by omega),hlow 2 (by omega),g1]
 ·rw[f3 3 (hv23 3 (by omega)).1 (hv23 3 (by omega)).2,ag]
 ·rw[f3 x (hv23 x (by omega)).1 (hv23 x (by omega)).2,ac (by omega),hlow x (by omega),g6 x hx]
structure PL(mk:AV->List AV)(bs:List UInt8)(bad:Bool)(s:AV)(cs:List AV)(t:AV)(ds:List AV)(H0 H:Hp)(nx:Nat):Prop where
 ph:PH mk 1 bs bad s cs H0 H nx
 row2:Row H 1 t ds
 rlt2:∀x,aY t=some x->4<=x/\x<nx/\aY s≠some x
theorem PL.step{mk:AV->List AV}{bs bs':List UInt8}{bad bad':Bool}{s t:AV}{cs ds:List AV}{H0 H H':Hp}{nx nx':Nat}(h:PL mk bs bad s cs t ds H0 H nx)(hrd:H' 2=some [bN bs',.bool bad'])(hfr:∀i,i<nx->i≠2->H' i=H i)(hle:nx<=nx'):PL mk bs' bad' s cs t ds H0 H' nx':=by
 obtain⟨g1,g2,g3⟩:=h;refine⟨g1.step hrd hfr hle,g2.same λb hb=>?_,λx hx=>?_⟩
 ·have:=g3 b hb;exact hfr b (by omega) (by omega)
 ·have:=g3 x hx;exact⟨this.1,by omega,this.2.2⟩
theorem PL.push{mk:AV->List AV}{bs:List UInt8}{bad:Bool}{s t:AV}{cs ds:List AV}{H0 H:Hp}{nx:Nat}(h:PL mk bs bad s cs t ds H0 H nx){v v':AV}(hv:∀b,aY v=some b->4<=b/\b<nx/\aY s≠some b/\aY t≠some b)(hs:∀Hf:Hp,(∀b,aY v=some b->Hf b=H b)->Snap Hf v v')
    {t':AV} {H3:Hp} {nx3:Nat} (hrow:Row H3 1 t' (ds++[v])) (j1:nx+1<=nx3) (j3:∀i,i<nx+1->aY t≠some i->H3 i=ah H nx [v] i) (j4:∀b,aY t'=some b->aY t=some b\/b=nx+1/\nx3=nx+1+1):
    ∃Hf H'',Fz Hf H3 H''/\PL mk bs bad s cs t' (ds++[v']) H0 H'' nx3:=by
 obtain⟨⟨g1,g2,g3,g4,g5,g6⟩,g7,g8⟩:=h
 have hlow:∀i,i<4->H3 i=H i:=λi hi=>by
  rw[j3 i (by omega) (λh=>by have:=g8 i h;omega),ac (by omega)]
 have hsB:∀b,aY t'=some b->4<=b/\b<nx3/\aY v≠some b/\aY s≠some b:=λb hb=>by
  rcases j4 b hb with h|h
  ·have:=g8 b h;exact⟨by omega,by omega,λhv'=>(hv b hv').2.2.2 h,this.2.2⟩
  ·exact⟨by omega,by omega,λhv'=>by have:=hv b hv';omega,λh'=>by have:=g4 b h';omega⟩
 obtain ⟨Hf,H'',f1,f2,f3⟩:=lq (x':=v') hrow (fun b hb h=>(hsB b h).2.2.1 hb) (fun Hf hf=>hs Hf fun b hb=>by
  have:=hv b hb;rw[hf b hb,j3 b (by omega) this.2.2.2,ac (by omega)])
 have hv23:∀x,x<4->aY v≠some x/\aY t'≠some x:=λx hx=>⟨λh=>by have:=hv x h;omega,λh=>by have:=hsB x h;omega⟩
 refine⟨Hf,H'',f1,⟨?_,?_,g3.same λb hb=>?_,λx hx=>by have:=g4 x hx;omega,by omega,λx hx=>?_⟩,f2,λb hb=>⟨(hsB b hb).1,(hsB b hb).2.1,(hsB b hb).2.2.2⟩⟩
 ·rw[f3 2 (hv23 2 (by omega)).1 (hv23 2 (by omega)).2,hlow 2 (by omega),g1]
 ·rw[f3 3 (hv23 3 (by omega)).1 (hv23 3 (by omega)).2,hlow 3 (by omega),g2]
 ·have:=g4 b hb;rw[f3 b (λh=>(hv b h).2.2.1 hb) (λh=>(hsB b h).2.2.2 hb),j3 b (by omega) (λh=>(g8 b h).2.2 hb),ac (by omega)]
 ·rw[f3 x (hv23 x (by omega)).1 (hv23 x (by omega)).2,hlow x (by omega),g6 x hx]
theorem dB{H:Hp}{nx:Nat}{v:AV}:fV 1 (ah H nx [v]) (.msl nx 1 1 0 1)=some (1,[v]):=jB (cs:=[v]) ag rfl (by omega)
theorem PH.freeze{mk mk':AV->List AV}{sz sz':Nat}{bs:List UInt8}{bad:Bool}{s v:AV}{cs:List AV}{H0 H:Hp}{nx:Nat}(h:PH mk sz bs bad s cs H0 H nx)(hs:∀Hf:Hp,Row Hf sz s cs->Snap Hf s v)(hct:∀Hf:Hp,Snap Hf s v->av Hf (mk s) (mk' .esl)):
    ∃Hf H'',Fz Hf H H''/\PH mk' sz' bs bad .esl [] H0 H'' nx:=by
 obtain⟨g1,g2,g3,g4,g5,g6⟩:=h
 have hB:∀x,x<4->decide (aY s=some x)=false:=λx hx=>by
  rw[decide_eq_false_iff_not];intro h;have:=g4 x h;omega
 refine⟨_,_,Fz.put (B:=λy=>decide (aY s=some y)) (hB 3 (by omega)) g2 (hct _ (hs _ (vq g3 λb hb=>by simpa using hb))),?_,ag,Row.nil,λx h=>(by cases h),g5,λx hx=>?_⟩
 ·rw[ac (by omega),kZ (hB 2 (by omega)),g1]
 ·rw[ac (by omega),kZ (hB x (by omega)),g6 x hx]
theorem ctF{n r i o:Int}{F:List (List Int)}{s:AV}{Hf:Hp}(h:Snap Hf s (aF F)):av Hf (mkF n r i o s) (mkO n r i o F .esl):=
 av.cons (.inl rfl) (av.cons (.inl rfl) (av.cons (.inl rfl) (av.cons (.inl rfl) (av.cons (.inr h) (av.refl _ _)))))
theorem ctO{n r i o:Int}{F:List (List Int)}{O:List (List (List Int))}{s:AV}{Hf:Hp}(h:Snap Hf s (aN O)):av Hf (mkO n r i o F s) (mkS n r i o F O .esl):=
 av.cons (.inl rfl) (av.cons (.inl rfl) (av.cons (.inl rfl) (av.cons (.inl rfl) (av.cons (.inl rfl) (av.cons (.inl rfl) (av.cons (.inl rfl) (av.cons (.inr h) av.nil)))))))
theorem ctS{n r i o:Int}{F:List (List Int)}{O:List (List (List Int))}{S:List (List (List (List Int)))}{s:AV}{Hf:Hp}(h:Snap Hf s (b9 S)):av Hf (mkS n r i o F O s) (mkT n r i o F O S .esl):=
 av.cons (.inl rfl) (av.cons (.inl rfl) (av.cons (.inl rfl) (av.cons (.inl rfl) (av.cons (.inl rfl) (av.cons (.inr h) (av.refl _ _))))))
structure PB(mk:AV->List AV)(bs:List UInt8)(bad:Bool)(s:AV)(cs:List AV)(t:AV)(ds:List AV)(b:Nat)(es:List AV)(H0 H:Hp)(nx:Nat):Prop where
 pl:PL mk bs bad s cs t ds H0 H nx
 bx:H b=some es
 b1:4<=b/\b<nx
 b2:aY s≠some b
 b3:aY t≠some b
theorem PB.step{mk:AV->List AV}{bs bs':List UInt8}{bad bad':Bool}{s t:AV}{cs ds es:List AV}{b:Nat}{H0 H H':Hp}{nx nx':Nat}(h:PB mk bs bad s cs t ds b es H0 H nx)(hrd:H' 2=some [bN bs',.bool bad'])(hfr:∀i,i<nx->i≠2->H' i=H i)(hle:nx<=nx'):PB mk bs' bad' s cs t ds b es H0 H' nx':=by
 obtain⟨g1,g2,g3,g4,g5⟩:=h;exact⟨g1.step hrd hfr hle,by rw[hfr b g3.2 (by omega),g2],⟨g3.1,by omega⟩,g4,g5⟩
theorem av.mid{Hf:Hp}{A C:List AV}{v v':AV}(h:v'=v\/Snap Hf v v'):av Hf (A++v::C) (A++v'::C):=by
 induction A with
 |nil=>exact av.cons h (av.refl _ _)
 |cons a A ih=>exact av.cons (.inl rfl) ih
theorem kY{A C:List AV}{x v:AV}{q:Nat}(h:A.length=q):dr (A++x::C) q [v]=A++v::C:=by
 subst h;simp[dr]
theorem PB.put{mk:AV->List AV}{bs:List UInt8}{bad:Bool}{s t:AV}{cs ds A C:List AV}{x:AV}{b:Nat}{H0 H:Hp}{nx:Nat}(h:PB mk bs bad s cs t ds b (A++x::C) H0 H nx){v v':AV}(hv:∀y,aY v=some y->4<=y/\y<nx/\y≠b/\aY s≠some y/\aY t≠some y)
    (hs:∀Hf:Hp,(∀y,aY v=some y->Hf y=H y)->Snap Hf v v'):∃Hf H'',Fz Hf (ah H b (A++v::C)) H''/\PB mk bs bad s cs t ds b (A++v'::C) H0 H'' nx:=by
 obtain⟨⟨⟨g1,g2,g3,g4,g5,g6⟩,g7,g8⟩,g9,g10,g11,g12⟩:=h
 have hB:decide (aY v=some b)=false:=by
  rw[decide_eq_false_iff_not];exact λh=>(hv b h).2.2.1 rfl
 have hoth:∀i,i≠b->aY v≠some i->ah (rR (λy=>decide (aY v=some y)) (ah H b (A++v::C))) b (A++v'::C) i=H i:=λi h1 h2=>by
  rw[ac h1,kZ (by simpa using h2),ac h1]
 have hlow:∀i,i<4->aY v≠some i:=λi hi h=>by have:=hv i h;omega
 refine⟨_,_,Fz.put (B:=λy=>decide (aY v=some y)) (cs:=A++v::C) (cs':=A++v'::C) hB ag (av.mid (.inr (hs _ λy hy=>?_))),⟨⟨?_,?_,g3.same λy hy=>?_,g4,g5,λy hy=>?_⟩,g7.same λy hy=>?_,g8⟩,ag,g10,g11,g12⟩
 ·have:=hv y hy;simp only[ec,hy,decide_true,if_true];rw[ac this.2.2.1]
 ·rw[hoth 2 (by omega) (hlow 2 (by omega)),g1]
 ·rw[hoth 3 (by omega) (hlow 3 (by omega)),g2]
 ·exact hoth y (λh=>g11 (h▸hy)) (λh=>(hv y h).2.2.2.1 hy)
 ·rw[hoth y (by omega) (hlow y (by omega)),g6 y hy]
 ·exact hoth y (λh=>g12 (h▸hy)) (λh=>(hv y h).2.2.2.2 hy)
theorem gB{α:Type}(f:Nat->List UInt8->Bool->α×List UInt8×Bool)(hf:∀i bs bad,(f i bs bad).2.1.length<=bs.length):∀(k:Nat)(bs:List UInt8)(bad:Bool)(x:α),x∈(b0 f k bs bad).1->∃i bs' bad',bs'.length<=bs.length/\x=(f i bs' bad').1
 |0,bs,bad,x,h=>by cases h
 |k+1,bs,bad,x,h=>by
  rw[dK] at h;simp only[th,qZ] at h;rcases h with h|h
  ·exact gB f hf k bs bad x h
  ·exact⟨k,_,_,(ce f hf k bs bad).2,h⟩
theorem AZ(bs:List UInt8)(bad:Bool):(mf bs bad).1.length<=bs.length+1:=by
 have h1:=(jq 1 (ao bs bad).1.toNat (ao bs bad).2.1 (ao bs bad).2.2).1;have h2:=(cf bs bad).2.2;unfold mf fm;omega
theorem se{n k:Nat}{bs:List UInt8}{bad:Bool}{x:List (List Int)}(h:x∈(b0 (λ_=>eu n) k bs bad).1):x.length=n/\∀y∈x,y.length<=bs.length+1:=by
 obtain⟨i,bs',bad',h1,rfl⟩:=gB _ (λ_=>jX n) k bs bad x h;refine⟨(ce _ (λ_=>m9) n bs' bad').1,λy hy=>?_⟩;obtain⟨j,bs2,bad2,h2,rfl⟩:=gB _ (λ_=>m9) n bs' bad' y hy;have:=AZ bs2 bad2;show(mf bs2 bad2).1.length<=_;omega
def eA(O:List (List (List Int)))(k p q:Nat)(bs:List UInt8)(bad:Bool):List Int×List UInt8×Bool:=if p=q then([],bs,bad) else im 0 ((O.getD k default).getD p default).length bs bad
theorem lD(O:List (List (List Int)))(k p q:Nat)(bs:List UInt8)(bad:Bool):(eA O k p q bs bad).2.1.length<=bs.length:=by
 unfold eA;split
 ·exact bj _
 ·exact(jq 0 _ bs bad).2
def ie(O:List (List (List Int)))(n k p:Nat)(bs:List UInt8)(bad:Bool):List (List Int)×List UInt8×Bool:=b0 (eA O k p) n bs bad
theorem ji(O:List (List (List Int)))(n k p:Nat)(bs:List UInt8)(bad:Bool):(ie O n k p bs bad).2.1.length<=bs.length:=(ce _ (lD O k p) n bs bad).2
def jr(O:List (List (List Int)))(n k:Nat)(bs:List UInt8)(bad:Bool):List (List (List Int))×List UInt8×Bool:=b0 (ie O n k) n bs bad
theorem ms(O:List (List (List Int)))(n k:Nat)(bs:List UInt8)(bad:Bool):(jr O n k bs bad).2.1.length<=bs.length:=(ce _ (ji O n k) n bs bad).2
theorem je{H:Hp}{s:AV}{l:List (List (List Int))}(h:Row H 1 s (l.map aF)):Snap H s (aN l):=h.snapL' (λ_=>rfl) (λx _=>de x)
theorem r5{H:Hp}{s:AV}{l:List (List (List (List Int)))}(h:Row H 1 s (l.map aN)):Snap H s (b9 l):=h.snapL' (λ_=>rfl) (λx _=>dy x)
structure PX(mk:AV->List AV)(sz:Nat)(bs:List UInt8)(bad:Bool)(s:AV)(cs:List AV)(b:Nat)(es:List AV)(H0 H:Hp)(nx:Nat):Prop where
 ph:PH mk sz bs bad s cs H0 H nx
 bx:H b=some es
 b1:4<=b/\b<nx
 b2:aY s≠some b
theorem PX.step{mk:AV->List AV}{sz:Nat}{bs bs':List UInt8}{bad bad':Bool}{s:AV}{cs es:List AV}{b:Nat}{H0 H H':Hp}{nx nx':Nat}(h:PX mk sz bs bad s cs b es H0 H nx)(hrd:H' 2=some [bN bs',.bool bad'])(hfr:∀i,i<nx->i≠2->H' i=H i)(hle:nx<=nx'):PX mk sz bs' bad' s cs b es H0 H' nx':=by
 obtain⟨g1,g2,g3,g4⟩:=h;exact⟨g1.step hrd hfr hle,by rw[hfr b g3.2 (by omega),g2],⟨g3.1,by omega⟩,g4⟩
theorem PX.set{mk:AV->List AV}{sz:Nat}{bs:List UInt8}{bad:Bool}{s:AV}{cs es es':List AV}{b:Nat}{H0 H:Hp}{nx:Nat}(h:PX mk sz bs bad s cs b es H0 H nx):PX mk sz bs bad s cs b es' H0 (ah H b es') nx:=by
 obtain⟨⟨g1,g2,g3,g4,g5,g6⟩,g7,g8,g9⟩:=h;refine⟨⟨by rw[ac (by omega),g1],by rw[ac (by omega),g2],g3.same λy hy=>ac (λh=>g9 (h▸hy)),g4,g5,λx hx=>by rw[ac (by omega),g6 x hx]⟩,ag,g8,g9⟩
def fh(n q:Nat)(bs:List UInt8)(bad:Bool):Int×List UInt8×Bool:=if q<n then((ao bs bad).1-1,(ao bs bad).2) else(-1,bs,bad)
theorem wM(n q:Nat)(bs:List UInt8)(bad:Bool):(fh n q bs bad).2.1.length<=bs.length:=by
 unfold fh;split
 ·exact(cf bs bad).2.2
 ·exact bj _
def f9(n:Nat)(bs:List UInt8)(bad:Bool):StepV×List UInt8×Bool:=
 let a:=ao bs bad
 let b:=ao a.2.1 a.2.2
 let h:=b0 (fh n) 5 b.2.1 b.2.2
 let t:=ao h.2.1 h.2.2
 (⟨a.1,b.1,h.1.getD 0 default,h.1.getD 1 default,h.1.getD 2 default,h.1.getD 3 default,h.1.getD 4 default,t.1⟩,t.2)
def fX(n:Nat):Nat->List UInt8->Bool->List StepV×List UInt8×Bool
 |0,bs,bad=>([],bs,bad)
 |k+1,bs,bad=>if bad=true then([],bs,bad) else((f9 n bs bad).1::(fX n k (f9 n bs bad).2.1 (f9 n bs bad).2.2).1,(fX n k (f9 n bs bad).2.1 (f9 n bs bad).2.2).2)
theorem jY(n k:Nat)(bs:List UInt8):fX n k bs true=([],bs,true):=by cases k<;>rfl
theorem kV(n k:Nat)(bs:List UInt8):fX n (k+1) bs false=((f9 n bs false).1::(fX n k (f9 n bs false).2.1 (f9 n bs false).2.2).1,(fX n k (f9 n bs false).2.1 (f9 n bs false).2.2).2):=rfl
def pF(n i:Int)(bs:List UInt8)(bad:Bool):List (List Int)×List UInt8×Bool:=b0 (λ_=>fm i) n.toNat bs bad
def ptO(n r:Int)(bs:List UInt8)(bad:Bool):List (List (List Int))×List UInt8×Bool:=b0 (λ_=>eu n.toNat) (r+1).toNat bs bad
def pS(n r:Int)(O:List (List (List Int)))(bs:List UInt8)(bad:Bool):List (List (List (List Int)))×List UInt8×Bool:=b0 (jr O n.toNat) r.toNat bs bad
def pT(n:Int)(bs:List UInt8)(bad:Bool):List StepV×List UInt8×Bool:=fX n.toNat (ao bs bad).1.toNat (ao bs bad).2.1 (ao bs bad).2.2
def eT(n r i o:Int)(bs:List UInt8)(bad:Bool):MachV×List UInt8×Bool:=
 let f:=pF n i bs bad
 let O:=ptO n r f.2.1 f.2.2
 let S:=pS n r O.1 O.2.1 O.2.2
 let t:=pT n S.2.1 S.2.2
 (⟨n,r,i,o,f.1,S.1,t.1,O.1⟩,t.2)
theorem js{T:Tm}{H:Hp}{b n off len sz q:Nat}{x i:Opd}(hx:ov T x=.ptr b n off)(hi:ov T i=.int .i64 (q:Int))(h:q<len):bo T H (.ixaA len sz x i)=some (.ptr b n (off+q*sz)):=by
 simp only[bo,hx,hi,lH];rw[if_pos ⟨by omega,by omega⟩,kK];rfl
theorem lX(D:List StepV):(D.flatMap StepV.cells).length=D.length*8:=by
 induction D with
 |nil=>rfl
 |cons d D ih=>rw[rh,cm,ih,gI];show 8+_=_;omega
theorem lR{α:Type}{l:List α}{b:Nat}(h:l.length<=b)(hb:b<=1000000000):Sh l:=by
 show _<=_;omega
theorem qN(n:Nat):∀(k:Nat)(bs:List UInt8)(bad:Bool),(fX n k bs bad).1.length<=k
 |0,bs,bad=>bj _
 |k+1,bs,true=>bZ _
 |k+1,bs,false=>by
  rw[kV];have:=qN n k (f9 n bs false).2.1 (f9 n bs false).2.2;simp only[gI];omega
theorem zQ(O:List (List (List Int)))(k p q:Nat)(bs:List UInt8)(bad:Bool):(eA O k p q bs bad).1.length<=bs.length+1:=by
 unfold eA;split
 ·simp
 ·exact(jq 0 _ bs bad).1
theorem uR(n r i o:Int)(bs:List UInt8)(bad:Bool)(hl:bs.length<=100000)(hn:0<=n/\n<=5)(hr:0<=r/\r<=6):ShM (eT n r i o bs bad).1:=by
 unfold eT;dsimp only;have f1:=ce (λ_=>fm i) (λ_=>jp i) n.toNat bs bad;have f2:=gB (λ_=>fm i) (λ_=>jp i) n.toNat bs bad;change (pF n i bs bad).1.length=n.toNat/\(pF n i bs bad).2.1.length<=bs.length at f1;change ∀x,x∈(pF n i bs bad).1->_ at f2;generalize pF n i bs bad=F at *;obtain⟨F,b1,d1⟩:=F;dsimp only at f1 f2 |-;have o1:=ce (λ_=>eu n.toNat) (λ_=>jX n.toNat) (r+1).toNat b1 d1;have o2:=λx=>se (x:=x) (n:=n.toNat) (k:=(r+1).toNat) (bs:=b1) (bad:=d1);change (ptO n r b1 d1).1.length=_/\(ptO n r b1 d1).2.1.length<=_ at o1;change ∀x,x∈(ptO n r b1 d1).1->_ at o2;generalize ptO n r b1 d1=O at *;obtain⟨O,b2,d2⟩:=O;dsimp only at o1 o2 |-;have s1:=ce (jr O n.toNat) (ms O n.toNat) r.toNat b2 d2;have s2:=gB (jr O n.toNat) (ms O n.toNat) r.toNat b2 d2;change (pS n r O b2 d2).1.length=_/\(pS n r O b2 d2).2.1.length<=_ at s1;change ∀x,x∈(pS n r O b2 d2).1->_ at s2;generalize pS n r O b2 d2=S at *;obtain⟨S,b3,d3⟩:=S;dsimp only at s1 s2 |-;have t1:=qN n.toNat (ao b3 d3).1.toNat (ao b3 d3).2.1 (ao b3 d3).2.2;have t2:=cf b3 d3;refine⟨lR (b:=5) (by show F.length<=_;omega) (by omega),λl hl'=>?_,lR (b:=7) (by show O.length<=_;omega) (by omega),λl hl'=>?_,λl hl' x hx=>?_,λl hl' x hx=>?_,lR (b:=6) (by show S.length<=_;omega) (by omega),λl hl'=>?_,λl hl' x hx=>?_,λl hl' x hx y hy=>?_,lR (b:=268435456) (by show(fX _ _ _ _).1.length<=_;omega) (by omega)⟩
 ·obtain⟨j,c,d,h1,rfl⟩:=f2 l hl';have:=(jq 1 i.toNat c d).1;exact lR (b:=100001) (by show(im 1 i.toNat c d).1.length<=_;omega) (by omega)
 ·exact lR (b:=5) (by have:=(o2 l hl').1;omega) (by omega)
 ·exact lR (b:=100001) (by have:=(o2 l hl').2 x hx;omega) (by omega)
 ·have:=(o2 l hl').2 x hx;omega
 ·obtain⟨j,c,d,h1,rfl⟩:=s2 l hl';have:=(ce (ie O n.toNat j) (ji O n.toNat j) n.toNat c d).1;exact lR (b:=5) (by show(b0 (ie O n.toNat j) n.toNat c d).1.length<=_;omega) (by omega)
 ·obtain⟨j,c,d,h1,rfl⟩:=s2 l hl';obtain⟨j2,c2,d2',h2,rfl⟩:=gB (ie O n.toNat j) (ji O n.toNat j) n.toNat c d x hx;have:=(ce (eA O j j2) (lD O j j2) n.toNat c2 d2').1;exact lR (b:=5) (by show(b0 (eA O j j2) n.toNat c2 d2').1.length<=_;omega) (by omega)
 ·obtain⟨j,c,d,h1,rfl⟩:=s2 l hl';obtain⟨j2,c2,d2',h2,rfl⟩:=gB (ie O n.toNat j) (ji O n.toNat j) n.toNat c d x hx;obtain⟨j3,c3,d3',h3,rfl⟩:=gB (eA O j j2) (lD O j j2) n.toNat c2 d2' y hy;have:=zQ O j j2 j3 c3 d3';exact lR (b:=100001) (by omega) (by omega)
def gX:MachV:=⟨0,0,0,0,[],[],[],[]⟩
def ju(R:List UInt8):MachV×List UInt8×Bool:=
 let a:=ao R false
 let b:=ao a.2.1 a.2.2
 let c:=ao b.2.1 b.2.2
 let d:=ao c.2.1 c.2.2
 if d.2.2=true\/5<a.1\/6<b.1\/8<c.1 then(gX,[],true) else eT a.1 b.1 c.1 d.1 d.2.1 d.2.2
def dC(l:List UInt8):MachV×Int:=
 if 65536<l.length then(gX,13) else if eo l=true then
  (let m:=ju ((l.take (l.length - 2)).drop 4)
   if m.2.2=true\/dx m.1≠0\/bM m.1≠l then(gX,3) else(m.1,0))
 else(gX,24)
theorem A0{H:Hp}:aQ H [.int .i64 0,.int .i64 0,.int .i64 0,.int .i64 0,.esl,.esl,.esl,.esl] gX.cells:=
 aV (.int _ _) (aV (.int _ _) (aV (.int _ _) (aV (.int _ _) (aV (.eslsl 1) (aV (.eslsl 1) (aV (.eslsl 8) (aV (.eslsl 1) ar)))))))
theorem fy{H:Hp}{e:Int}:Snap H (.tup [.agg [.int .i64 0,.int .i64 0,.int .i64 0,.int .i64 0,.esl,.esl,.esl,.esl],.int .i64 e]) (.tup [bV gX,.int .i64 e]):=zu (aV (vE A0) (aV (.int _ _) ar))
theorem ni{a b:List UInt8}{tb tf:Bool}:aX .neq tb tf (aW a) (aW b)=some (.bool (decide (a≠b))):=by
 rw[BF]
 congr 2
 by_cases h:a=b<;>simp[h]
theorem xG:ao [] false=(0,[],true):=rfl
theorem iu(bs:List UInt8):ao bs true=(0,bs,true):=rfl
theorem ctT{n r i o:Int}{F:List (List Int)}{O:List (List (List Int))}{S:List (List (List (List Int)))}{s v:AV}{Hf:Hp}(h:Snap Hf s v):av Hf (mkT n r i o F O S s) (mkT n r i o F O S v):=
 av.cons (.inl rfl) (av.cons (.inl rfl) (av.cons (.inl rfl) (av.cons (.inl rfl) (av.cons (.inl rfl) (av.cons (.inl rfl) (av.cons (.inr h) (av.refl _ _)))))))
theorem r9{H:Hp}{s:AV}{l:List StepV}(h:Row H 8 s (l.flatMap StepV.cells)):Snap H s (bh l):=by
 refine Row.snap (elems:=l.map ew) (by simp only[List.flatMap_map];exact h) (λy hy=>?_) (by omega) (λy hy c hc=>?_)
 ·simp only[gL] at hy;obtain⟨s,_,rfl⟩:=hy;rfl
 ·simp only[gL] at hy;obtain⟨s,_,rfl⟩:=hy;exact fp s c hc
theorem yl:jP exM 0 1 0 1=([0,1,0,0,0,6],0):=by decide+kernel
theorem xQ:jM exM 0 1 0=(6,0):=by decide+kernel
theorem yk:fL exM 0 1 0 [0,1,0,0,0,6]=(0,0):=by decide+kernel
theorem we:(fL exM 0 1 0 [0,1,0,0,0,7]).2=24:=by decide+kernel
theorem wm:(fL exM 0 0 1 [0,1,0,0,0,6]).2=22:=by decide+kernel
theorem As:(dX exM).2=0:=by decide+kernel
theorem yP:dC (dX exM).1=(exM,0):=by decide+kernel
theorem yH:6<(dX exM).1.length/\(dX exM).1.length<=65536:=by decide+kernel
theorem AX:(dX exM).1.take 4=[82,84,77,1]:=by decide+kernel
theorem Bk:f7 [1,2,3]=17/\f7 []=0:=by decide+kernel
section
attribute [local irreducible] aJ ak bI bA bl bf aC bn bF cb Go.Abs.Fn bD Go.Abs.Pure ax aQ Yl
theorem Ai(n r i o:Int)(bs:List UInt8)(bad:Bool)(H:Hp)(nx:Nat)(hr:H 2=some [bN bs,.bool bad])(hm:H 3=some (mkF n r i o .esl))(hx:4<=nx)(hl:bs.length<=100000)(hn:0<=n/\n<=5)(hr':0<=r/\r<=6)(hi:0<=i/\i<=8):
    Abs.Fn Try.prog 48 [.ptr 2 2 0,.ptr 3 8 0] H nx λ_ H' nx'=>∃s,PH (mkT n r i o (eT n r i o bs bad).1.first (eT n r i o bs bad).1.out (eT n r i o bs bad).1.symbols) 8 (eT n r i o bs bad).2.1 (eT n r i o bs bad).2.2 s ((eT n r i o bs bad).1.steps.flatMap StepV.cells) H H' nx':=by
 refine fO Ef ?_;simp only[b48,aS];refine cw (λT H1 nx1=>T 0=.ptr 2 2 0/\T 1=.ptr 3 8 0/\∃s,PH (mkF n r i o) 1 (b0 (λ_=>fm i) n.toNat bs bad).2.1 (b0 (λ_=>fm i) n.toNat bs bad).2.2 s ((b0 (λ_=>fm i) n.toNat bs bad).1.map be) H H1 nx1) ?_ ?_
 ·have hm':=hm;unfold mkF at hm';have zz:=aI @NK @hm';repeat' (first|refine zW ?_|apply a_n|refine zO ?_|refine vZ ?_|fail)
  refine iV (X:=Nat×AV) (λx=>[(0,.ptr 2 2 0),(1,.ptr 3 8 0),(16,.int .i64 n),(17,.int .i64 x.1)]) (λx H1 nx1=>x.1<=n.toNat/\PH (mkF n r i o) 1 (b0 (λ_=>fm i) x.1 bs bad).2.1 (b0 (λ_=>fm i) x.1 bs bad).2.2 x.2 ((b0 (λ_=>fm i) x.1 bs bad).1.map be) H H1 nx1) (λx=>n.toNat-x.1) (0,.esl)
   ⟨_,_,Fz.none,⟨bZ _,⟨hr,hm,Row.nil,λx h=>(by cases h),hx,λ_ _=>rfl⟩⟩,bz ag0⟩ ?_
  rintro⟨k,s⟩ H1 nx1 ⟨k1,hP⟩;dsimp only at k1 hP |-;obtain⟨p1,p2⟩:=ce (λ_=>fm i) (λ_=>jp i) k bs bad;have hsucc:=dK (λ_=>fm i) k bs bad;generalize hst:b0 (λ_=>fm i) k bs bad=st at *;obtain⟨l,bs1,bad1⟩:=st;dsimp only at hP p1 p2 hsucc;by_cases hk:k<n.toNat
  rotate_left
  ·repeat' (first|refine zW ?_|apply a_n|apply a_x|refine zO ?_|refine vZ ?_|(refine zGZ ?_ ?_<;>(intro _hg;try (exfalso;omega)))|fail)
   have:k=n.toNat:=by omega
   subst this;exact⟨ev0,ev0,s,by rw[hst];exact hP⟩
  obtain⟨g1,g2,g3,g4,g5,g6⟩:=hP;have hP:PH (mkF n r i o) 1 bs1 bad1 s (l.map be) H H1 nx1:=⟨g1,g2,g3,g4,g5,g6⟩
  have hone:=g3.one
  repeat' (first|refine zW ?_|apply a_n|refine zO ?_|refine vZ ?_|(refine zGZ ?_ ?_<;>(intro _hg;try (exfalso;omega)))|fail)
  refine wi (only 3 (mkF n r i o s)) rfl (jd g2) ?_;have hS:only 3 (mkF n r i o s) 3=some [.int .i64 n,.int .i64 r,.int .i64 i,.int .i64 o,s,.esl,.esl,.esl]:=j7;clear zz;have zz:=aI @NK @hS;repeat' (first|apply a_n|refine zO ?_|refine nvZ ?_|fail)
  refine qj ?_;refine aK ev0 ev0 (lY 78 1 (.inr ⟨rfl,rfl⟩) 2 bs1 bad1 i H1 nx1 g1 (by omega) (by omega) (by omega)) ?_;rintro v H2 nx2 ⟨q1,q2,q3,q4,q5⟩
  repeat' (first|apply a_n|refine zO ?_|fail)
  have h3:H2 3=some (mkF n r i o s):=by rw[q4 3 (by omega) (by omega),g2]
  have hvo:=q2.one;refine⟨jd h3,?_⟩;refine qj ?_;clear zz;have zz:=aI hvo.1 hvo.2;repeat' (first|apply a_n|refine zO ?_|refine blY ?_|fail)
  refine⟨jd (by rw[ac (by omega)];exact h3),?_⟩
  repeat' (first|apply a_n|refine zO ?_|apply rI|fail)
  have hP2:=hP.step (H':=H2) (nx':=nx2) q1 q4 q3;refine eL (k:=1) (new:=[v]) rfl ev0 (hP2.row.same λb hb=>ac (by have:=hP2.rlt b hb;omega)) ev0 dB (by simp[AV.ones,hvo.1]) rfl f6 (by simp;omega) (by simp;omega) ?_;rintro s' H3 nx3 hrow j1 _ j3 j4;have hone':=hrow.one;obtain⟨h33,Hf,H'',f1,f2⟩:=hP2.push (v':=be (im 1 i.toNat bs1 bad1).1) (λb hb=>⟨by have:=q5 b hb;omega,(q5 b hb).2,λh=>by have:=q5 b hb;have:=g4 b h;omega⟩) (λHf hf=>(q2.same hf).snapI) hrow j1 j3 j4;unfold mkF at h33;clear zz;have zz:=aI @NK (aI @h33 (aI hone'.1 hone'.2));repeat' (first|apply a_n|refine zO ?_|refine vZ ?_|refine nvZ ?_|apply rI|refine stZ ?_|fail)
  refine⟨(k+1,s'),by dsimp only;omega,Hf,H'',f1,⟨by dsimp only;omega,?_⟩,bz ag0⟩;dsimp only;rw[hsucc,eU];exact f2
 rintro T H1 nx1 ⟨t0,t1,s1,hP⟩;obtain⟨p1,p2⟩:=ce (λ_=>fm i) (λ_=>jp i) n.toNat bs bad;generalize hst:b0 (λ_=>fm i) n.toNat bs bad=st at *;obtain⟨F,bs1,bad1⟩:=st;dsimp only at hP p1 p2;refine cw (λT H1 nx1=>T 0=.ptr 2 2 0/\T 1=.ptr 3 8 0/\∃s,PH (mkO n r i o F) 1 (b0 (λ_=>eu n.toNat) (r+1).toNat bs1 bad1).2.1 (b0 (λ_=>eu n.toNat) (r+1).toNat bs1 bad1).2.2 s ((b0 (λ_=>eu n.toNat) (r+1).toNat bs1 bad1).1.map aF) H H1 nx1) ?_ ?_
 ·obtain⟨Hf,H2,f1,f2⟩:=hP.freeze (mk':=mkO n r i o F) (sz':=1) (v:=aF F) (λHf h=>h.snapV) (λHf h=>ctF h);refine bW ?_;refine eJ Hf H2 [(0,.ptr 2 2 0),(1,.ptr 3 8 0)] f1 (bz (have zz:=aI @t0 @t1;agZ)) ?_;clear hP;have hm2:=f2.mc;unfold mkO at hm2;have hr1:r+1=((r+1).toNat:Int):=by omega
  have zz:=aI @NK @hm2;repeat' (first|refine zW ?_|apply a_n|refine zO ?_|refine vZ ?_|fail)
  refine iV (X:=Nat×AV) (λx=>[(0,.ptr 2 2 0),(1,.ptr 3 8 0),(41,.int .i64 (r+1)),(42,.int .i64 x.1)]) (λx H1 nx1=>x.1<=(r+1).toNat/\PH (mkO n r i o F) 1 (b0 (λ_=>eu n.toNat) x.1 bs1 bad1).2.1 (b0 (λ_=>eu n.toNat) x.1 bs1 bad1).2.2 x.2 ((b0 (λ_=>eu n.toNat) x.1 bs1 bad1).1.map aF) H H1 nx1) (λx=>(r+1).toNat-x.1) (0,.esl)
   ⟨_,_,Fz.none,⟨bZ _,f2⟩,bz ag0⟩ ?_
  clear zz;clear f1 f2 hm2;rintro⟨k,s⟩ H3 nx3 ⟨k1,hP⟩;dsimp only at k1 hP |-;obtain⟨p3,p4⟩:=ce (λ_=>eu n.toNat) (λ_=>jX n.toNat) k bs1 bad1;have hsucc:=dK (λ_=>eu n.toNat) k bs1 bad1;generalize hst2:b0 (λ_=>eu n.toNat) k bs1 bad1=st2 at *;obtain⟨O,bs2,bad2⟩:=st2;dsimp only at hP p3 p4 hsucc;by_cases hk:k<(r+1).toNat
  rotate_left
  ·repeat' (first|refine zW ?_|apply a_n|apply a_x|refine zO ?_|refine vZ ?_|(refine zGZ ?_ ?_<;>(intro _hg;try (exfalso;omega)))|fail)
   have:k=(r+1).toNat:=by omega
   subst this;exact⟨ev0,ev0,s,by rw[hst2];exact hP⟩
  have hm3:=hP.mc;unfold mkO at hm3;have zz:=aI @NK @hm3;repeat' (first|refine zW ?_|apply a_n|refine zO ?_|refine vZ ?_|(refine zGZ ?_ ?_<;>(intro _hg;try (exfalso;omega)))|fail)
  refine iV (X:=Nat×AV) (λx=>[(0,.ptr 2 2 0),(1,.ptr 3 8 0),(41,.int .i64 (r+1)),(42,.int .i64 k),(4,x.2),(47,.int .i64 n),(48,.int .i64 x.1)]) (λx H1 nx1=>x.1<=n.toNat/\PL (mkO n r i o F) (b0 (λ_=>mf) x.1 bs2 bad2).2.1 (b0 (λ_=>mf) x.1 bs2 bad2).2.2 s (O.map aF) x.2 ((b0 (λ_=>mf) x.1 bs2 bad2).1.map be) H H1 nx1) (λx=>n.toNat-x.1) (0,.esl)
   ⟨_,_,Fz.none,⟨bZ _,⟨hP,Row.nil,λx h=>(by cases h)⟩⟩,bz ag0⟩ ?_
  clear zz;clear hP hm3;rintro⟨k2,t⟩ H4 nx4 ⟨k3,hP⟩;dsimp only at k3 hP |-;obtain⟨p5,p6⟩:=ce (λ_=>mf) (λ_=>m9) k2 bs2 bad2;have hsucc2:=dK (λ_=>mf) k2 bs2 bad2;generalize hst3:b0 (λ_=>mf) k2 bs2 bad2=st3 at *;obtain⟨l,bs3,bad3⟩:=st3;dsimp only at hP p5 p6 hsucc2;have honet:=hP.row2.one;by_cases hk2:k2<n.toNat
  rotate_left
  ·have:k2=n.toNat:=by omega
   subst this;have hm4:=hP.ph.mc;unfold mkO at hm4;have hones:=hP.ph.row.one;have zz:=aI @NK (aI @hm4 (aI honet.1 honet.2));repeat' (first|refine zW ?_|apply a_n|apply a_x|refine zO ?_|refine vY ?_|refine blY ?_|(refine zGY ?_ ?_<;>(intro _hg;try (exfalso;omega)))|fail)
   refine eL (k:=1) (new:=[t]) rfl ev0 (hP.ph.row.same λb hb=>ac (by have:=hP.ph.rlt b hb;omega)) ev0 dB (by simp[AV.ones,honet.1]) rfl f6 (by simp;omega) (by simp;omega) ?_;rintro s' H5 nx5 hrow j1 _ j3 j4;have hone':=hrow.one;obtain⟨h53,Hf,H'',f1,f2⟩:=hP.ph.push (v':=aF l) hP.rlt2 (λHf hf=>(hP.row2.same hf).snapV) hrow j1 j3 j4;unfold mkO at h53;clear zz;have zz:=aI @NK (aI @h53 (aI hone'.1 hone'.2));repeat' (first|apply a_n|refine zO ?_|refine vZ ?_|refine stZ ?_|fail)
   refine⟨(k+1,s'),by dsimp only;omega,Hf,H'',f1,⟨by dsimp only;omega,?_⟩,bz ag0⟩;have hst3':eu n.toNat bs2 bad2=(l,bs3,bad3):=hst3;dsimp only;rw[hsucc,hst3',eU];exact f2
  repeat' (first|refine zW ?_|apply a_n|refine zO ?_|refine vZ ?_|(refine zGZ ?_ ?_<;>(intro _hg;try (exfalso;omega)))|fail)
  have hnb:=cf bs3 bad3;refine aK ev0 ev0 (dp 2 bs3 bad3 H4 nx4 hP.ph.rd (by show _<=_;omega)) ?_;rintro v0 H5 nx5 ⟨rfl,rfl,rfl⟩;have hnx4:=hP.ph.lt
  repeat' (first|apply a_n|refine zO ?_|refine vZ ?_|fail)
  refine aK ev0 ev0 (lY 78 1 (.inr ⟨rfl,rfl⟩) 2 (ao bs3 bad3).2.1 (ao bs3 bad3).2.2 (ao bs3 bad3).1 _ _ ag (by omega) (by omega) (by omega)) ?_;rintro v H6 nx6 ⟨q1,q2,q3,q4,q5⟩;have hP2:=hP.step (H':=H6) (nx':=nx6) q1 (λi hi h2=>by rw[q4 i hi h2,ac h2]) q3;have hvo:=q2.one;have zz:=aI hvo.1 hvo.2;repeat' (first|apply a_n|refine zO ?_|refine blY ?_|fail)
  refine eL (k:=1) (new:=[v]) rfl ev0 (hP2.row2.same λb hb=>ac (by have:=hP2.rlt2 b hb;omega)) ev0 dB (by simp[AV.ones,hvo.1]) rfl f6 (by simp;omega) (by simp;omega) ?_;rintro t' H7 nx7 hrow j1 _ j3 j4;obtain⟨Hf,H'',f1,f2⟩:=hP2.push (v':=be (im 1 (ao bs3 bad3).1.toNat (ao bs3 bad3).2.1 (ao bs3 bad3).2.2).1) (λb hb=>⟨by have:=q5 b hb;omega,(q5 b hb).2,λh=>by have:=q5 b hb;have:=hP.ph.rlt b h;omega,λh=>by have:=q5 b hb;have:=hP.rlt2 b h;omega⟩) (λHf hf=>(q2.same hf).snapI) hrow j1 j3 j4
  repeat' (first|apply a_n|refine zO ?_|refine vZ ?_|fail)
  refine⟨(k2+1,t'),by dsimp only;omega,Hf,H'',f1,⟨by dsimp only;omega,?_⟩,bz ag0⟩;dsimp only;rw[hsucc2,eU];exact f2
 clear hP t0 t1;rintro T H1 nx1 ⟨t0,t1,s1,hP⟩;obtain⟨p3,p4⟩:=ce (λ_=>eu n.toNat) (λ_=>jX n.toNat) (r+1).toNat bs1 bad1;have hO:=λx=>se (x:=x) (n:=n.toNat) (k:=(r+1).toNat) (bs:=bs1) (bad:=bad1);generalize hst2:b0 (λ_=>eu n.toNat) (r+1).toNat bs1 bad1=st at *;obtain⟨O,bs2,bad2⟩:=st;dsimp only at hP p3 p4 hO;refine cw (λT H1 nx1=>T 0=.ptr 2 2 0/\T 1=.ptr 3 8 0/\∃s,PH (mkS n r i o F O) 1 (b0 (jr O n.toNat) r.toNat bs2 bad2).2.1 (b0 (jr O n.toNat) r.toNat bs2 bad2).2.2 s ((b0 (jr O n.toNat) r.toNat bs2 bad2).1.map aN) H H1 nx1) ?_ ?_
 ·obtain⟨Hf,H2,f1,f2⟩:=hP.freeze (mk':=mkS n r i o F O) (sz':=1) (v:=aN O) (λHf h=>je h) (λHf h=>ctO h);refine bW ?_;refine eJ Hf H2 [(0,.ptr 2 2 0),(1,.ptr 3 8 0)] f1 (bz (have zz:=aI @t0 @t1;agZ)) ?_;clear hP;have hm2:=f2.mc;unfold mkS at hm2;have zz:=aI @NK @hm2;repeat' (first|refine zW ?_|apply a_n|refine zO ?_|refine vZ ?_|fail)
  refine iV (X:=Nat×AV) (λx=>[(0,.ptr 2 2 0),(1,.ptr 3 8 0),(74,.int .i64 r),(75,.int .i64 x.1)]) (λx H1 nx1=>x.1<=r.toNat/\PH (mkS n r i o F O) 1 (b0 (jr O n.toNat) x.1 bs2 bad2).2.1 (b0 (jr O n.toNat) x.1 bs2 bad2).2.2 x.2 ((b0 (jr O n.toNat) x.1 bs2 bad2).1.map aN) H H1 nx1) (λx=>r.toNat-x.1) (0,.esl)
   ⟨_,_,Fz.none,⟨bZ _,f2⟩,bz ag0⟩ ?_
  clear zz;clear f1 f2 hm2;rintro⟨k,s⟩ H3 nx3 ⟨k1,hP⟩;dsimp only at k1 hP |-;obtain⟨p5,p6⟩:=ce (jr O n.toNat) (ms O n.toNat) k bs2 bad2;have hsucc:=dK (jr O n.toNat) k bs2 bad2;generalize hst3:b0 (jr O n.toNat) k bs2 bad2=st3 at *;obtain⟨S,bs3,bad3⟩:=st3;dsimp only at hP p5 p6 hsucc;by_cases hk:k<r.toNat
  rotate_left
  ·repeat' (first|refine zW ?_|apply a_n|apply a_x|refine zO ?_|refine vZ ?_|(refine zGZ ?_ ?_<;>(intro _hg;try (exfalso;omega)))|fail)
   have:k=r.toNat:=by omega
   subst this;exact⟨ev0,ev0,s,by rw[hst3];exact hP⟩
  obtain⟨o1,o2⟩:=hO _ (aj (l:=O) (k:=k) (by omega));have hm3:=hP.mc;unfold mkS at hm3;have zz:=aI @NK @hm3;repeat' (first|refine zW ?_|apply a_n|refine zO ?_|refine vZ ?_|(refine zGZ ?_ ?_<;>(intro _hg;try (exfalso;omega)))|fail)
  refine iV (X:=Nat×AV) (λx=>[(0,.ptr 2 2 0),(1,.ptr 3 8 0),(74,.int .i64 r),(75,.int .i64 k),(5,.int .i64 k),(6,x.2),(81,.int .i64 n),(82,.int .i64 x.1)]) (λx H1 nx1=>x.1<=n.toNat/\PL (mkS n r i o F O) (b0 (ie O n.toNat k) x.1 bs3 bad3).2.1 (b0 (ie O n.toNat k) x.1 bs3 bad3).2.2 s (S.map aN) x.2 ((b0 (ie O n.toNat k) x.1 bs3 bad3).1.map aF) H H1 nx1) (λx=>n.toNat-x.1) (0,.esl)
   ⟨_,_,Fz.none,⟨bZ _,⟨hP,Row.nil,λx h=>(by cases h)⟩⟩,bz ag0⟩ ?_
  clear zz;clear hP hm3;rintro⟨p,t⟩ H4 nx4 ⟨k3,hP⟩;dsimp only at k3 hP |-;obtain⟨p7,p8⟩:=ce (ie O n.toNat k) (ji O n.toNat k) p bs3 bad3;have hsucc2:=dK (ie O n.toNat k) p bs3 bad3;generalize hst4:b0 (ie O n.toNat k) p bs3 bad3=st4 at *;obtain⟨l,bs4,bad4⟩:=st4;dsimp only at hP p7 p8 hsucc2;have honet:=hP.row2.one;have hm4:=hP.ph.mc;unfold mkS at hm4;by_cases hp:p<n.toNat
  rotate_left
  ·have:p=n.toNat:=by omega
   subst this;have zz:=aI @NK (aI @hm4 (aI honet.1 honet.2));repeat' (first|refine zW ?_|apply a_n|apply a_x|refine zO ?_|refine vY ?_|refine blY ?_|(refine zGY ?_ ?_<;>(intro _hg;try (exfalso;omega)))|fail)
   refine eL (k:=1) (new:=[t]) rfl ev0 (hP.ph.row.same λb hb=>ac (by have:=hP.ph.rlt b hb;omega)) ev0 dB (by simp[AV.ones,honet.1]) rfl f6 (by simp;omega) (by simp;omega) ?_;rintro s' H5 nx5 hrow j1 _ j3 j4;have hone':=hrow.one;obtain⟨h53,Hf,H'',f1,f2⟩:=hP.ph.push (v':=aN l) hP.rlt2 (λHf hf=>je (hP.row2.same hf)) hrow j1 j3 j4;unfold mkS at h53;clear zz;have zz:=aI @NK (aI @h53 (aI hone'.1 hone'.2));repeat' (first|apply a_n|refine zO ?_|refine vZ ?_|refine stZ ?_|fail)
   refine⟨(k+1,s'),by dsimp only;omega,Hf,H'',f1,⟨by dsimp only;omega,?_⟩,bz ag0⟩;have hst4':jr O n.toNat k bs3 bad3=(l,bs4,bad4):=hst4;dsimp only;rw[hsucc,hst4',eU];exact f2
  have zz:=aI @NK @hm4;repeat' (first|refine zW ?_|apply a_n|refine zO ?_|refine vZ ?_|(refine zGZ ?_ ?_<;>(intro _hg;try (exfalso;omega)))|fail)
  refine Co rfl ev0 ev0 (by omega) (by omega) (by omega) (by omega) ?_
  have hz:bC (.agg [.esl]) n.toNat=([]:List (List Int)).map be++List.replicate (n.toNat-0) .esl:=by
   rw[List.map_nil,List.nil_append,Nat.sub_zero];unfold bC
   induction n.toNat with
   |zero=>rfl
   |succ m ih=>rw[List.replicate_succ,List.flatten_cons,ih];rfl
  rw[hz,Nat.mul_one]
  have hB:PB (mkS n r i o F O) bs4 bad4 s (S.map aN) t (l.map aF) nx4 (([]:List (List Int)).map be++List.replicate (n.toNat-0) .esl) H (ah H4 nx4 (([]:List (List Int)).map be++List.replicate (n.toNat-0) .esl)) (nx4+1):=
   ⟨hP.step (by rw[ac (by have:=hP.ph.lt;omega),hP.ph.rd]) (λi hi _=>ac (by omega)) (by omega),ag,⟨hP.ph.lt,by omega⟩,λh=>by have:=hP.ph.rlt _ h;omega,λh=>by have:=hP.rlt2 _ h;omega⟩
  generalize ah H4 nx4 (([]:List (List Int)).map be++List.replicate (n.toNat-0) .esl)=H5 at *;clear zz;clear hP hm4 hz;have hnN:n=(n.toNat:Int):=by omega
  repeat' (first|refine zW ?_|apply a_n|refine zO ?_|refine vZ ?_|fail)
  refine iV (X:=Nat) (λq=>[(0,.ptr 2 2 0),(1,.ptr 3 8 0),(74,.int .i64 r),(75,.int .i64 k),(5,.int .i64 k),(6,t),(81,.int .i64 n),(82,.int .i64 p),(7,.int .i64 p),(8,.msl nx4 n.toNat 1 0 n.toNat),(91,.int .i64 n.toNat),(92,.int .i64 q)]) (λq H1 nx1=>q<=n.toNat/\PB (mkS n r i o F O) (b0 (eA O k p) q bs4 bad4).2.1 (b0 (eA O k p) q bs4 bad4).2.2 s (S.map aN) t (l.map aF) nx4 ((b0 (eA O k p) q bs4 bad4).1.map be++List.replicate (n.toNat-q) AV.esl) H H1 nx1) (λq=>n.toNat-q) 0
   ⟨_,_,Fz.none,⟨bZ _,hB⟩,bz ag0⟩ ?_
  clear hB;rintro q H6 nx6 ⟨k4,hB⟩;obtain⟨p9,p10⟩:=ce (eA O k p) (lD O k p) q bs4 bad4;have hsucc3:=dK (eA O k p) q bs4 bad4;generalize hst5:b0 (eA O k p) q bs4 bad4=st5 at *;obtain⟨e,bs5,bad5⟩:=st5;dsimp only at hB p9 p10 hsucc3;by_cases hq:q<n.toNat
  rotate_left
  ·have hqn:q=n.toNat:=by omega
   subst hqn;have hBx:=hB.bx;rw[Nat.sub_self,List.replicate_zero,kp] at hBx
   have hrowB:Row H6 1 (.msl nx4 n.toNat 1 0 n.toNat) (e.map be):=by
    have:=Row.box (H:=H6) (sz:=1) nx4 n.toNat (e.map be) hBx (by simp[p9])
    rwa [Nat.mul_one] at this
   repeat' (first|refine zW ?_|apply a_n|apply a_x|refine zO ?_|refine vZ ?_|refine blZ ?_|(refine zGZ ?_ ?_<;>(intro _hg;try (exfalso;omega)))|fail)
   refine eL (k:=1) (new:=[.msl nx4 n.toNat 1 0 n.toNat]) rfl ev0 (hB.pl.row2.same λb hb=>ac (by have:=hB.pl.rlt2 b hb;omega)) ev0 dB rfl rfl f6 (by simp;omega) (by simp;omega) ?_;rintro t' H7 nx7 hrow j1 _ j3 j4;obtain⟨Hf,H'',f1,f2⟩:=hB.pl.push (v:=.msl nx4 n.toNat 1 0 n.toNat) (v':=aF e) (λb hb=>by cases hb;exact⟨hB.b1.1,hB.b1.2,hB.b2,hB.b3⟩) (λHf hf=>(hrowB.same hf).snapV) hrow j1 j3 j4
   repeat' (first|apply a_n|refine zO ?_|refine vZ ?_|fail)
   refine⟨(p+1,t'),by dsimp only;omega,Hf,H'',f1,⟨by dsimp only;omega,?_⟩,bz ag0⟩;have hst5':ie O n.toNat k p bs4 bad4=(e,bs5,bad5):=hst5;dsimp only;rw[hsucc2,hst5',eU];exact f2
  obtain⟨z,hz⟩:∃z,n.toNat-q=z+1:=⟨n.toNat-q-1,by omega⟩
  rw[hz,List.replicate_succ] at hB;have hz':n.toNat-(q+1)=z:=by omega
  have helen:(e.map be).length=q:=by simp[p9]
  by_cases hpq:p=q
  ·have hsame:ah H6 nx4 (e.map be++.esl::List.replicate z .esl)=H6:=lB hB.bx;obtain⟨Hf,H'',f1,f2⟩:=hB.put (v:=.esl) (v':=be []) (λy hy=>(by cases hy)) (λHf _=>uJ rfl);rw[hsame] at f1;have dpq:decide ((p:Int)≠q)=false:=bq (λh=>h (by omega));have zz:=@dpq;repeat' (first|refine zW ?_|apply a_n|refine zO ?_|refine vZ ?_|refine cFZ ?_|(refine zGZ ?_ ?_<;>(intro _hg;try (exfalso;omega)))|fail)
   refine⟨q+1,by omega,Hf,H'',f1,⟨by omega,?_⟩,bz ag0⟩;have hrec:eA O k p q bs5 bad5=([],bs5,bad5):=by unfold eA;rw[if_pos hpq]
   rw[hsucc3,hrec,hz',eU,f8];exact f2
  ·have dpq:decide ((p:Int)≠q)=true:=bk (λh=>hpq (by omega));have hm5:=hB.pl.ph.mc;unfold mkS at hm5;have ho2:=o2 _ (aj (l:=O.getD k default) (k:=p) (by omega));have zz:=aI @dpq (aI @NK (aI @hm5 @ME));repeat' (first|refine zW ?_|apply a_n|refine zO ?_|refine vZ ?_|refine cTZ ?_|(refine zGZ ?_ ?_<;>(intro _hg;try (exfalso;omega)))|fail)
   refine aK ev0 ev0 (lY 36 0 (.inl ⟨rfl,rfl⟩) 2 bs5 bad5 (((O.getD k default).getD p default).length:Int) _ _ hB.pl.ph.rd (by have:=hB.pl.ph.lt;omega) (by omega) (by omega)) ?_;rintro v H7 nx7 ⟨q1,q2,q3,q4,q5⟩;have hB2:=hB.step (H':=H7) (nx':=nx7) q1 q4 q3;have hvo:=q2.one
   repeat' (first|apply a_n|refine zO ?_|refine vZ ?_|fail)
   refine tp rfl (b:=nx4) (n:=n.toNat) (off:=q) ev0 ev0 hB2.bx hvo.2 (by simp[AV.ones,hvo.1]) (by simp;omega) rfl (by omega) ?_;rw[kY helen];obtain⟨Hf,H'',f1,f2⟩:=hB2.put (v:=v) (v':=be (im 0 (((O.getD k default).getD p default).length:Int).toNat bs5 bad5).1) (λy hy=>⟨by have:=q5 y hy;have:=hB.pl.ph.lt;omega,(q5 y hy).2,λh=>by have:=q5 y hy;have:=hB.b1;omega,λh=>by have:=q5 y hy;have:=hB.pl.ph.rlt y h;omega,λh=>by have:=q5 y hy;have:=hB.pl.rlt2 y h;omega⟩) (λHf hf=>(q2.same hf).snapI)
   repeat' (first|apply a_n|refine zO ?_|refine vZ ?_|fail)
   refine⟨q+1,by omega,Hf,H'',f1,⟨by omega,?_⟩,bz ag0⟩;have hrec:eA O k p q bs5 bad5=im 0 ((O.getD k default).getD p default).length bs5 bad5:=by unfold eA;rw[if_neg hpq]
   rw[hsucc3,hrec,hz',eU,f8];exact f2
 clear hP t0 t1;rintro T H1 nx1 ⟨t0,t1,s1,hP⟩;obtain⟨p5,p6⟩:=ce (jr O n.toNat) (ms O n.toNat) r.toNat bs2 bad2;generalize hst3:b0 (jr O n.toNat) r.toNat bs2 bad2=st at *;obtain⟨S,bs3,bad3⟩:=st;dsimp only at hP p5 p6
 have hfin:eT n r i o bs bad=(⟨n,r,i,o,F,S,(pT n bs3 bad3).1,O⟩,(pT n bs3 bad3).2):=by
  unfold eT pF ptO pS;simp only[hst,hst2,hst3]
 rw[hfin];dsimp only;clear hfin hst hst2 hst3 hO;obtain⟨Hf,H2,f1,f2⟩:=hP.freeze (mk':=mkT n r i o F O S) (sz':=8) (v:=b9 S) (λHf h=>r5 h) (λHf h=>ctS h);refine bW ?_;refine eJ Hf H2 [(0,.ptr 2 2 0),(1,.ptr 3 8 0)] f1 (bz (have zz:=aI @t0 @t1;agZ)) ?_;clear hP f1;have hnb:=cf bs3 bad3
 repeat' (first|apply a_n|refine zO ?_|refine vZ ?_|fail)
 refine aK ev0 ev0 (dp 2 bs3 bad3 H2 nx1 f2.rd (by show _<=_;omega)) ?_;rintro v0 H3 nx3 ⟨rfl,rfl,rfl⟩;have hP:=f2.step (H':=ah H2 2 [bN (ao bs3 bad3).2.1,.bool (ao bs3 bad3).2.2]) (nx':=nx3) ag (λi hi h2=>ac h2) (bj _);clear f2;generalize ah H2 2 [bN (ao bs3 bad3).2.1,.bool (ao bs3 bad3).2.2]=H3 at *;unfold pT;generalize ao bs3 bad3=c at *;obtain⟨c,bs4,bad4⟩:=c;dsimp only at hnb hP |-;obtain⟨tot,htot⟩:∃tot:Nat,c=tot:=⟨c.toNat,by omega⟩
 subst htot;rw[kK]
 repeat' (first|refine zW ?_|apply a_n|refine zO ?_|refine vZ ?_|fail)
 refine dL (X:=AV×Nat×List StepV×List UInt8×Bool) (λx=>[(0,.ptr 2 2 0),(1,.ptr 3 8 0),(10,.int .i64 x.2.1)]) (λx H1 nx1=>x.2.2.1.length+x.2.1<=tot/\x.2.2.2.1.length<=bs4.length/\PH (mkT n r i o F O S) 8 x.2.2.2.1 x.2.2.2.2 x.1 (x.2.2.1.flatMap StepV.cells) H H1 nx1/\fX n.toNat tot bs4 bad4=(x.2.2.1++(fX n.toNat x.2.1 x.2.2.2.1 x.2.2.2.2).1,(fX n.toNat x.2.1 x.2.2.2.1 x.2.2.2.2).2)) (λx=>x.2.1) (.esl,tot,[],bs4,bad4)
  ⟨by simp,bj _,hP,rfl⟩ ag0 ?_
 clear hP;rintro⟨s,j,D,bs5,bad5⟩ H4 nx4 ⟨k1,k2,hP,k4⟩;dsimp only at k1 k2 hP k4 |-;have hrd:=hP.rd;by_cases hgo:0<j/\bad5=false
 rotate_left
 ·have hfin:fX n.toNat j bs5 bad5=([],bs5,bad5):=by
    cases bad5 with
    |true=>exact jY _ _ _
    |false=>
     have:j=0:=by
      rcases Nat.eq_zero_or_pos j with h|h
      ·exact h
      ·exact absurd ⟨h,rfl⟩ hgo
     rw[this];rfl
  rw[hfin,kp] at k4;rw[k4];by_cases hk:0<j
  ·have hbd:bad5=true:=by simpa using λh=>hgo ⟨hk,h⟩
   subst hbd;have zz:=aI @NK (aI @hrd @bm);repeat' (first|refine zW ?_|apply a_n|apply a_x|refine zO ?_|refine vZ ?_|refine gTZ ?_|(refine zGZ ?_ ?_<;>(intro _hg;try (exfalso;omega)))|refine cFZ ?_|refine ae rfl ?_|fail)
   exact⟨s,hP⟩
  ·have zz:=aI @NK (aI @hrd @bm);repeat' (first|refine zW ?_|apply a_n|apply a_x|refine zO ?_|refine vZ ?_|refine gFZ ?_|(refine zGZ ?_ ?_<;>(intro _hg;try (exfalso;omega)))|refine cFZ ?_|refine ae rfl ?_|fail)
   all_goals exact⟨s,hP⟩
 obtain⟨hj,rfl⟩:=hgo;obtain⟨z,rfl⟩:∃z,j=z+1:=⟨j-1,by omega⟩
 rw[kV] at k4;have zz:=aI @NK (aI @hrd @bm);repeat' (first|refine zW ?_|apply a_n|refine zO ?_|refine vZ ?_|refine gTZ ?_|(refine zGZ ?_ ?_<;>(intro _hg;try (exfalso;omega)))|refine cTZ ?_|fail)
 have hlt4:=hP.lt;have hn1:=cf bs5 false;refine aK ev0 ev0 (dp 2 bs5 false H4 nx4 hP.rd (by show _<=_;omega)) ?_;rintro v0 H5 nx5 ⟨rfl,rfl,rfl⟩;have hP1:=hP.step (H':=ah H4 2 [bN (ao bs5 false).2.1,.bool (ao bs5 false).2.2]) (nx':=nx5) ag (λi hi h2=>ac h2) (bj _);have hst:f9 n.toNat bs5 false=f9 n.toNat bs5 false:=rfl
 conv at hst=>rhs;unfold f9
 dsimp only at hst;generalize ah H4 2 [bN (ao bs5 false).2.1,.bool (ao bs5 false).2.2]=H5 at *;generalize ao bs5 false=ra at *;obtain⟨a,bs6,bad6⟩:=ra;dsimp only at hn1 hP1 hst |-
 repeat' (first|apply a_n|refine zO ?_|refine vZ ?_|fail)
 have hn2:=cf bs6 bad6;refine aK ev0 ev0 (dp 2 bs6 bad6 H5 nx5 hP1.rd (by show _<=_;omega)) ?_;rintro v0 H6 nx6 ⟨rfl,rfl,rfl⟩;have hP2:=hP1.step (H':=ah H5 2 [bN (ao bs6 bad6).2.1,.bool (ao bs6 bad6).2.2]) (nx':=nx6) ag (λi hi h2=>ac h2) (bj _);generalize ah H5 2 [bN (ao bs6 bad6).2.1,.bool (ao bs6 bad6).2.2]=H6 at *;generalize ao bs6 bad6=rb at *;obtain⟨b,bs7,bad7⟩:=rb;dsimp only at hn2 hP2 hst |-;clear zz;clear hP hP1 hrd
 repeat' (first|refine zW ?_|apply a_n|refine zO ?_|refine vY ?_|refine alY ?_|refine stY ?_|fail)
 have hX:PX (mkT n r i o F O S) 8 bs7 bad7 s (D.flatMap StepV.cells) nx6 ((.int .i64 a::.int .i64 b::([]:List Int).map (AV.int .i64))++((List.replicate (5-0) (0:Int)).map (AV.int .i64)++[.int .i64 0])) H (ah (ah H6 nx6 [.int .i64 0,.int .i64 0,.int .i64 0,.int .i64 0,.int .i64 0,.int .i64 0,.int .i64 0,.int .i64 0]) nx6 ((.int .i64 a::.int .i64 b::([]:List Int).map (AV.int .i64))++((List.replicate (5-0) (0:Int)).map (AV.int .i64)++[.int .i64 0]))) (nx6+1):=by
  have h1:=hP2.step (H':=ah H6 nx6 [.int .i64 0,.int .i64 0,.int .i64 0,.int .i64 0,.int .i64 0,.int .i64 0,.int .i64 0,.int .i64 0]) (nx':=nx6+1) (by rw[ac (by omega)];exact hP2.rd) (λi hi h2=>ac (by omega)) (by omega);exact PX.set ⟨h1,ag,⟨hP2.lt,by omega⟩,λh=>by have:=hP2.rlt _ h;omega⟩
 refine dL (X:=Nat) (λq=>[(0,.ptr 2 2 0),(1,.ptr 3 8 0),(10,.int .i64 ((z+1:Nat):Int)),(11,.ptr nx6 8 0),(151,.int .i64 q)]) (λq H1 nx1=>q<=5/\PX (mkT n r i o F O S) 8 (b0 (fh n.toNat) q bs7 bad7).2.1 (b0 (fh n.toNat) q bs7 bad7).2.2 s (D.flatMap StepV.cells) nx6 ((.int .i64 a::.int .i64 b::(b0 (fh n.toNat) q bs7 bad7).1.map (AV.int .i64))++((List.replicate (5-q) (0:Int)).map (AV.int .i64)++[AV.int .i64 0])) H H1 nx1) (λq=>5-q) 0
  ⟨by omega,hX⟩ (by simp (disch:=omega) only[agr,ZG,reduceEqDiff,↓reduceIte,gI,my,reduceAdd]) ?_
 clear hX hP2;rintro q H7 nx7 ⟨u1,hX⟩;obtain⟨p9,p10⟩:=ce (fh n.toNat) (wM n.toNat) q bs7 bad7;have hsucc:=dK (fh n.toNat) q bs7 bad7;generalize hst5:b0 (fh n.toNat) q bs7 bad7=st5 at *;obtain⟨e,bs8,bad8⟩:=st5;dsimp only at hX p9 p10 hsucc;by_cases hq:q<5
 rotate_left
 ·have:q=5:=by omega
  subst this;rw[hst5] at hst;dsimp only at hst
  repeat' (first|refine zW ?_|apply a_n|apply a_x|refine zO ?_|refine vZ ?_|(refine zGZ ?_ ?_<;>(intro _hg;try (exfalso;omega)))|fail)
  refine aK ev0 ev0 (dp 2 bs8 bad8 H7 nx7 hX.ph.rd (by show _<=_;omega)) ?_;rintro v0 H8 nx8 ⟨rfl,rfl,rfl⟩;have hn3:=cf bs8 bad8;have hX2:=hX.step (H':=ah H7 2 [bN (ao bs8 bad8).2.1,.bool (ao bs8 bad8).2.2]) (nx':=nx8) ag (λi hi h2=>ac h2) (bj _);generalize ah H7 2 [bN (ao bs8 bad8).2.1,.bool (ao bs8 bad8).2.2]=H8 at *;generalize ao bs8 bad8=rt at *;obtain⟨tt,bs9,bad9⟩:=rt;dsimp only at hn3 hX2 hst |-;rw[Nat.sub_self,List.replicate_zero,List.map_nil,List.nil_append] at hX2;clear hX
  obtain⟨h0,h1,h2,h3,h4,rfl⟩:∃h0 h1 h2 h3 h4,e=[h0,h1,h2,h3,h4]:=by
   match e,p9 with
   |[h0,h1,h2,h3,h4],_=>exact⟨_,_,_,_,_,rfl⟩
  have hX3:=hX2.set (es':=(⟨a,b,h0,h1,h2,h3,h4,tt⟩:StepV).cells);have hbx:=hX2.bx;simp only[gD,List.map_nil,List.cons_append,List.nil_append] at hbx
  repeat' (first|apply a_n|refine zO ?_|refine vZ ?_|fail)
  refine tp rfl (b:=nx6) (n:=8) (off:=7) (vs:=[.int .i64 tt]) ev0 ev0 hbx rfl rfl rfl rfl (by omega) ?_;have hl8:dr [.int .i64 a,.int .i64 b,.int .i64 h0,.int .i64 h1,.int .i64 h2,.int .i64 h3,.int .i64 h4,.int .i64 0] 7 [.int .i64 tt]=(⟨a,b,h0,h1,h2,h3,h4,tt⟩:StepV).cells:=rfl;rw[hl8];clear hbx hl8;generalize ah H8 nx6 (⟨a,b,h0,h1,h2,h3,h4,tt⟩:StepV).cells=H9 at *;have hst':f9 n.toNat bs5 false=(⟨a,b,h0,h1,h2,h3,h4,tt⟩,bs9,bad9):=hst;have hbx:=hX3.bx;unfold StepV.cells at hbx;have hm9:=hX3.ph.mc;unfold mkT at hm9;have hone:=hX3.ph.row.one;have zz:=aI @NK (aI @hm9 @hbx);repeat' (first|apply a_n|refine zO ?_|refine vZ ?_|refine blZ ?_|fail)
  have hDl:=lX D;refine eL (k:=1) (new:=(⟨a,b,h0,h1,h2,h3,h4,tt⟩:StepV).cells) rfl ev0 (hX3.ph.row.same λb hb=>ac (by have:=hX3.ph.rlt b hb;omega)) (xv:=.msl nx8 8 8 0 1) ev0 (jB (sz:=8) (b:=nx8) (n:=8) (off:=0) (len:=1) (cs:=(⟨a,b,h0,h1,h2,h3,h4,tt⟩:StepV).cells) ag rfl (by omega)) rfl rfl (by omega) (by omega) (by omega) ?_;rintro s' H10 nx10 hrow j1 _ j3 j4;have hone':=hrow.one
  have hlow:∀x,x<4->H10 x=H9 x:=λx hx=>by
   have:=hX3.ph.lt;rw[j3 x (by omega) (λh=>by have:=hX3.ph.rlt x h;omega),ac (by omega)]
  have h10:=hX3.ph.mc;rw[<-hlow 3 (by omega)] at h10;unfold mkT at h10;clear zz;have zz:=aI @NK (aI @h10 (aI hone'.1 hone'.2));repeat' (first|apply a_n|refine zO ?_|refine vZ ?_|refine stZ ?_|fail)
  have hrlt:∀x,aY s'=some x->4<=x/\x<nx10:=λx hx=>by
   have:=hX3.ph.lt;rcases j4 x hx with h|h
   ·have:=hX3.ph.rlt x h;omega
   ·omega
  have hlt8:=hX3.ph.lt;refine⟨(s',z,D++[⟨a,b,h0,h1,h2,h3,h4,tt⟩],bs9,bad9),by dsimp only;omega,⟨?_,?_,⟨?_,?_,?_,hrlt,by omega,λx hx=>?_⟩,?_⟩,by simp (disch:=omega) only[agr,ZG,reduceEqDiff,↓reduceIte,Int.add_sub_cancel]⟩
  ·simp only[cm,List.length_singleton];omega
  ·dsimp only;omega
  ·rw[ac (by omega),hlow 2 (by omega),hX3.ph.rd]
  ·rw[ag];rfl
  ·dsimp only;rw[List.flatMap_append,rh,List.flatMap_nil,kp];exact hrow.same λx hx=>ac (by have:=hrlt x hx;omega)
  ·rw[ac (by omega),hlow x (by omega),hX3.ph.fr x hx]
  ·dsimp only;rw[k4,hst',f8];rfl
 obtain⟨y,hy⟩:∃y,5-q=y+1:=⟨4-q,by omega⟩
 have hy':5-(q+1)=y:=by omega
 rw[hy,List.replicate_succ,gD,List.cons_append (a:=AV.int .i64 0)] at hX;have hb1:=hX.b1
 repeat' (first|refine zW ?_|apply a_n|refine zO ?_|refine vZ ?_|(refine zGZ ?_ ?_<;>(intro _hg;try (exfalso;omega)))|fail)
 refine lQ rfl rfl (js ev0 ev0 hq) ?_;refine tp rfl (b:=nx6) (n:=8) (off:=2+q*1) (vs:=[.int .i64 (-1)]) ev0 ev0 hX.bx rfl rfl (by simp;omega) rfl (by omega) ?_;rw[kY (by simp;omega)];have hX2:=hX.set (es':=(.int .i64 a::.int .i64 b::e.map (AV.int .i64))++.int .i64 (-1)::((List.replicate y (0:Int)).map (AV.int .i64)++[.int .i64 0]));clear hX;generalize ah H7 nx6 ((.int .i64 a::.int .i64 b::e.map (AV.int .i64))++.int .i64 (-1)::((List.replicate y (0:Int)).map (AV.int .i64)++[.int .i64 0]))=H8 at *;have hm8:=hX2.ph.mc;unfold mkT at hm8;by_cases hqn:q<n.toNat
 ·have zz:=aI @NK @hm8;repeat' (first|refine zW ?_|apply a_n|refine zO ?_|refine vZ ?_|(refine zGZ ?_ ?_<;>(intro _hg;try (exfalso;omega)))|fail)
  refine aK ev0 ev0 (yI 2 bs8 bad8 H8 nx7 hX2.ph.rd (by show _<=_;omega)) ?_;rintro v0 H9 nx9 ⟨rfl,rfl,rfl⟩;have hX3:=hX2.step (H':=ah H8 2 [bN (ao bs8 bad8).2.1,.bool (ao bs8 bad8).2.2]) (nx':=nx9) ag (λi hi h2=>ac h2) (bj _);clear zz;clear hX2
  repeat' (first|apply a_n|refine zO ?_|refine vZ ?_|fail)
  refine lQ rfl rfl (js ev0 ev0 hq) ?_;refine tp rfl (b:=nx6) (n:=8) (off:=2+q*1) (vs:=[.int .i64 ((ao bs8 bad8).1-1)]) ev0 ev0 hX3.bx rfl rfl (by simp;omega) rfl (by omega) ?_;rw[kY (by simp;omega)];have hX4:=hX3.set (es':=(.int .i64 a::.int .i64 b::e.map (AV.int .i64))++.int .i64 ((ao bs8 bad8).1-1)::((List.replicate y (0:Int)).map (AV.int .i64)++[.int .i64 0]))
  repeat' (first|apply a_n|refine zO ?_|refine vZ ?_|fail)
  refine⟨q+1,by omega,⟨by omega,?_⟩,ag0⟩;have hrec:fh n.toNat q bs8 bad8=((ao bs8 bad8).1-1,(ao bs8 bad8).2):=by unfold fh;rw[if_pos hqn]
  rw[hsucc,hrec,hy'];simpa using hX4
 ·have zz:=aI @NK @hm8;repeat' (first|refine zW ?_|apply a_n|refine zO ?_|refine vZ ?_|(refine zGZ ?_ ?_<;>(intro _hg;try (exfalso;omega)))|fail)
  refine⟨q+1,by omega,⟨by omega,?_⟩,ag0⟩;have hrec:fh n.toNat q bs8 bad8=(-1,bs8,bad8):=by unfold fh;rw[if_neg hqn]
  rw[hsucc,hrec,hy'];simpa using hX2
theorem wS(l:List UInt8)(hl:Sh l):pU 21 [aW l] (.tup [bV (dC l).1,.int .i64 (dC l).2]):=by
 refine pO CN ?_;simp only[b21,aS];have ho:=up l hl;have hl':l.length<=9223372036854775807:=hl;by_cases hlong:65536<l.length
 ·have e:dC l=(gX,13):=by unfold dC;rw[if_pos hlong]
  rw[e];have zz:=@aH;repeat' (first|refine zW ?_|apply a_n|apply a_r|refine zO ?_|refine vZ ?_|refine alZ ?_|refine stZ ?_|(refine zGZ ?_ ?_<;>(intro _hg;try (exfalso;omega)))|refine ae rfl ?_|refine r2Z ?_|fail)
  all_goals exact fy
 by_cases hr:eo l=true
 rotate_left
 ·have e:dC l=(gX,24):=by unfold dC;rw[if_neg hlong,if_neg hr]
  rw[e];unfold gp at ho;rw[if_neg hr] at ho;have zz:=@aH;repeat' (first|refine zW ?_|apply a_n|apply a_r|refine zO ?_|refine vZ ?_|refine cZ ?_ (hp:=ho) (hs:=by(first|refine aq ?_ rfl|apply az);(repeat' (first|exact ar|apply aO|apply ay|exact bv _));first|done|fail)|refine alZ ?_|refine stZ ?_|(refine zGZ ?_ ?_<;>(intro _hg;try (exfalso;omega)))|refine ae rfl ?_|refine r2Z ?_|fail)
  all_goals exact fy
 unfold gp at ho;rw[if_pos hr] at ho
 have h6:6<=l.length:=by
  unfold eo at hr;simp only[cE,lc] at hr;exact hr.1
 have e:dC l=(let m:=ju ((l.take (l.length-2)).drop 4);if m.2.2=true\/dx m.1≠0\/bM m.1≠l then(gX,3) else(m.1,0)):=by unfold dC;rw[if_neg hlong,if_pos hr]
 rw[e];clear e;have hLl:(l.take (l.length-2)).length=l.length-2:=by rw[gN];omega
 generalize hL:l.take (l.length-2)=L at *;have x1:fw (aW L) (some (.int .i64 4)) none=some (aW (L.drop 4)):=rH (k:=4) (by omega);have e3:(L.drop 4).length=l.length-6:=by rw[rz];omega
 generalize hR:L.drop 4=R at *;have hzs:∀x∈([]:List AV),Dat x:=DatL.nil;have zz:=aI @aH @x1;repeat' (first|refine zW ?_|apply a_n|refine zO ?_|refine vZ ?_|refine cZ ?_ (hp:=ho) (hs:=by(first|refine aq ?_ rfl|apply az);(repeat' (first|exact ar|apply aO|apply ay|exact bv _));first|done|fail)|refine alZ ?_|(refine zGZ ?_ ?_<;>(intro _hg;try (exfalso;omega)))|fail)
 refine tJ (bs:=⟨R.toArray⟩) (by((try simp only[bS,ZA,reduceEqDiff,↓reduceIte,reduceAdd,reduceLeDiff]);(try with_reducible rfl));rfl) (λhz=>?_) (λhnz=>?_)
 ·have hRn:R=[]:=by
    rw[dg] at hz;exact fI.1 hz
  subst hRn;have em:ju []=(gX,[],true):=rfl;rw[em];dsimp only;rw[if_pos (.inl rfl)]
  repeat' (first|refine zW ?_|apply a_n|refine zO ?_|refine vZ ?_|refine bxZ ?_|fail)
  refine aK ev0 ev0 (dp 1 [] false _ _ (by((try simp only[bS,ZA,reduceEqDiff,↓reduceIte,reduceAdd,reduceLeDiff]);(try with_reducible rfl));rfl) (by show _<=_;simp)) ?_;rintro v0 H2 nx2 ⟨rfl,rfl,rfl⟩;rw[xG]
  repeat' (first|apply a_n|refine zO ?_|refine vZ ?_|fail)
  refine aK ev0 ev0 (dp 1 [] true _ _ ag (by show _<=_;simp)) ?_;rintro v0 H2 nx2 ⟨rfl,rfl,rfl⟩;rw[iu]
  repeat' (first|apply a_n|refine zO ?_|refine vZ ?_|fail)
  refine aK ev0 ev0 (dp 1 [] true _ _ ag (by show _<=_;simp)) ?_;rintro v0 H2 nx2 ⟨rfl,rfl,rfl⟩;rw[iu]
  repeat' (first|apply a_n|refine zO ?_|refine vZ ?_|fail)
  refine aK ev0 ev0 (dp 1 [] true _ _ ag (by show _<=_;simp)) ?_;rintro v0 H2 nx2 ⟨rfl,rfl,rfl⟩;rw[iu];clear zz;have zz:=@NK;repeat' (first|refine zW ?_|apply a_n|apply a_r|refine zO ?_|refine vZ ?_|refine alZ ?_|refine stZ ?_|refine gFZ ?_|refine cTZ ?_|refine ae rfl ?_|refine r2Z ?_|fail)
  exact fy
 clear zz;have zz:=aI @dg @jy;repeat' (first|apply a_n|refine zO ?_|refine vZ ?_|refine bxZ ?_|fail)
 refine bW ?_;refine eJ (only 1 (R.map dW)) _ [(0,aW l),(2,.ptr 0 8 0),(6,.ptr 2 2 0)] (Fz.bytes (b:=1) (c:=2) (n:=R.length) (len:=R.length) ev0 ev0 (by omega) rfl rfl) ⟨.inl ev0,.inl ev0,.inl ev0,trivial⟩ ?_
 repeat' (first|apply a_n|refine zO ?_|refine vZ ?_|fail)
 have hrd:ju R=ju R:=rfl
 conv at hrd=>rhs;unfold ju
 dsimp only at hrd;rw[hrd];clear zz;clear hrd;generalize hH:ah (e8 _ _) _ _=K0;have q2:K0 2=some [bN R,.bool false]:=by rw[<-hH];rfl
 have q0:K0 0=some [.int .i64 0,.int .i64 0,.int .i64 0,.int .i64 0,.esl,.esl,.esl,.esl]:=by rw[<-hH];rfl
 clear hH;have hrd:=()
 have hn1:=cf R false;refine aK ev0 ev0 (dp 2 R false K0 _ q2 (by show _<=_;omega)) ?_;rintro v0 H2 nx2 ⟨rfl,rfl,rfl⟩;clear q2;have q2:ah K0 2 [bN (ao R false).2.1,.bool (ao R false).2.2] 2=some [bN (ao R false).2.1,.bool (ao R false).2.2]:=ag;rw[<-ac (H:=K0) (b:=2) (x:=0) (cs:=[bN (ao R false).2.1,.bool (ao R false).2.2]) (by omega)] at q0;generalize ah K0 2 [bN (ao R false).2.1,.bool (ao R false).2.2]=K1 at *;generalize ao R false=ra at *;obtain⟨a,R1,d1⟩:=ra;dsimp only at hn1 q2 |-
 repeat' (first|apply a_n|refine zO ?_|refine vZ ?_|fail)
 have hn2:=cf R1 d1;refine aK ev0 ev0 (dp 2 R1 d1 K1 _ q2 (by show _<=_;omega)) ?_;rintro v0 H2 nx2 ⟨rfl,rfl,rfl⟩;clear q2;have q2:ah K1 2 [bN (ao R1 d1).2.1,.bool (ao R1 d1).2.2] 2=some [bN (ao R1 d1).2.1,.bool (ao R1 d1).2.2]:=ag;rw[<-ac (H:=K1) (b:=2) (x:=0) (cs:=[bN (ao R1 d1).2.1,.bool (ao R1 d1).2.2]) (by omega)] at q0;generalize ah K1 2 [bN (ao R1 d1).2.1,.bool (ao R1 d1).2.2]=K2 at *;generalize ao R1 d1=ra at *;obtain⟨b,R2,d2⟩:=ra;dsimp only at hn2 q2 |-
 repeat' (first|apply a_n|refine zO ?_|refine vZ ?_|fail)
 have hn3:=cf R2 d2;refine aK ev0 ev0 (dp 2 R2 d2 K2 _ q2 (by show _<=_;omega)) ?_;rintro v0 H2 nx2 ⟨rfl,rfl,rfl⟩;clear q2;have q2:ah K2 2 [bN (ao R2 d2).2.1,.bool (ao R2 d2).2.2] 2=some [bN (ao R2 d2).2.1,.bool (ao R2 d2).2.2]:=ag;rw[<-ac (H:=K2) (b:=2) (x:=0) (cs:=[bN (ao R2 d2).2.1,.bool (ao R2 d2).2.2]) (by omega)] at q0;generalize ah K2 2 [bN (ao R2 d2).2.1,.bool (ao R2 d2).2.2]=K3 at *;generalize ao R2 d2=ra at *;obtain⟨c,R3,d3⟩:=ra;dsimp only at hn3 q2 |-
 repeat' (first|apply a_n|refine zO ?_|refine vZ ?_|fail)
 have hn4:=cf R3 d3;refine aK ev0 ev0 (dp 2 R3 d3 K3 _ q2 (by show _<=_;omega)) ?_;rintro v0 H2 nx2 ⟨rfl,rfl,rfl⟩;clear q2;have q2:ah K3 2 [bN (ao R3 d3).2.1,.bool (ao R3 d3).2.2] 2=some [bN (ao R3 d3).2.1,.bool (ao R3 d3).2.2]:=ag;rw[<-ac (H:=K3) (b:=2) (x:=0) (cs:=[bN (ao R3 d3).2.1,.bool (ao R3 d3).2.2]) (by omega)] at q0;generalize ah K3 2 [bN (ao R3 d3).2.1,.bool (ao R3 d3).2.2]=K4 at *;generalize ao R3 d3=ra at *;obtain⟨d,R4,d4⟩:=ra;dsimp only at hn4 q2 |-
 repeat' (first|apply a_n|refine zO ?_|refine vZ ?_|refine alZ ?_|refine stZ ?_|fail)
 generalize hH:ah (ah _ _ _) _ _=K5;have p2:K5 2=some [bN R4,.bool d4]:=by rw[<-hH,ac (by omega),ac (by omega),q2]
 have p0:K5 0=some [.int .i64 0,.int .i64 0,.int .i64 0,.int .i64 0,.esl,.esl,.esl,.esl]:=by rw[<-hH,ac (by omega),ac (by omega),q0]
 have p3:K5 3=some [.int .i64 a,.int .i64 b,.int .i64 c,.int .i64 d,.esl,.esl,.esl,.esl]:=by rw[<-hH,ag];rfl
 clear hH q0 q2;by_cases hbad:d4=true\/5<a\/6<b\/8<c
 ·rw[if_pos hbad];dsimp only;rw[if_pos (.inl rfl)];cases d4 with
  |true=>
   have zz:=aI @NK (aI @p2 (aI @p3 @p0));repeat' (first|refine zW ?_|apply a_n|apply a_r|refine zO ?_|refine vZ ?_|refine stZ ?_|refine gFZ ?_|refine cTZ ?_|refine ae rfl ?_|refine r2Z ?_|fail)
   all_goals exact fy
  |false=>
   have hb2:5<a\/6<b\/8<c:=by simpa using hbad
   have zz:=aI @NK (aI @p2 (aI @p3 (aI @p0 @bm)));repeat' (first|refine zW ?_|apply a_n|apply a_r|refine zO ?_|refine vZ ?_|refine stZ ?_|refine gTZ ?_|refine gFZ ?_|refine cTZ ?_|(refine zGZ ?_ ?_<;>(intro _hg;try (exfalso;omega)))|refine ae rfl ?_|refine r2Z ?_|fail)
   all_goals exact fy
 rw[if_neg hbad]
 have hd4:d4=false:=by
  cases d4 with
  |true=>exact absurd (.inl rfl) hbad
  |false=>rfl
 subst hd4;have hb2:¬(5<a\/6<b\/8<c):=λh=>hbad (.inr h);refine bW ?_;refine bW ?_;have zz:=aI @NK (aI @p2 (aI @p3 (aI @p0 @bm)));repeat' (first|apply a_n|refine zO ?_|refine vZ ?_|refine gTZ ?_|(refine zGZ ?_ ?_<;>(intro _hg;try (exfalso;omega)))|fail)
 refine bW ?_
 repeat' (first|apply a_n|refine zO ?_|refine vZ ?_|fail)
 refine aK ev0 ev0 (Ai a b c d R4 false K5 _ p2 p3 (by omega) (by omega) (by omega) (by omega) (by omega)) ?_;rintro v K6 nx6 ⟨s,hP⟩
 repeat' (first|apply a_n|refine zO ?_|fail)
 have hsh:=uR a b c d R4 false (by omega) (by omega) (by omega);have hmc:(eT a b c d R4 false).1.cells=mkT a b c d (eT a b c d R4 false).1.first (eT a b c d R4 false).1.out (eT a b c d R4 false).1.symbols (bh (eT a b c d R4 false).1.steps):=rfl
 generalize eT a b c d R4 false=M at *;obtain⟨m,R5,d5⟩:=M;dsimp only at hP hsh hmc |-;obtain⟨Hf,H7,f1,f2⟩:=hP.freeze (mk':=λ_=>m.cells) (sz':=1) (v:=bh m.steps) (λHf h=>r9 h) (λHf h=>by rw[hmc];exact ctT h);refine bW ?_;refine bW ?_;refine eJ Hf H7 [(0,aW l),(2,.ptr 0 8 0),(6,.ptr 2 2 0),(7,.ptr 3 8 0)] f1 ⟨.inl ev0,.inl ev0,.inl ev0,.inl ev0,trivial⟩ ?_;have g2:=f2.rd;have g3:=f2.mc;have g0:=f2.fr 0 (by omega);rw[p0] at g0;have em:=cp m;have hck:=sJ m hsh;clear zz;clear f1 hP hmc;by_cases hd5:d5=true
 ·rw[if_pos (.inl hd5)];subst hd5;unfold MachV.cells at g3;have zz:=aI @NK (aI @g2 (aI @g3 @g0));repeat' (first|refine zW ?_|apply a_n|apply a_r|refine zO ?_|refine vZ ?_|refine stZ ?_|refine gFZ ?_|refine cTZ ?_|refine ae rfl ?_|refine r2Z ?_|fail)
  all_goals exact fy
 have hd5':d5=false:=by simpa using hd5
 subst hd5';by_cases hc0:dx m=0
 rotate_left
 ·rw[if_pos (.inr (.inl hc0))];have dk:decide (dx m≠0)=true:=bk hc0;unfold bV MachV.cells at em hck;unfold MachV.cells at g3;have zz:=aI @NK (aI @g2 (aI @g3 (aI @g0 (aI @bm (aI @dk @ME)))));repeat' (first|refine zW ?_|apply a_n|apply a_r|refine zO ?_|refine vZ ?_|refine cZ ?_ (hp:=hck)|refine stZ ?_|refine gTZ ?_|refine gFZ ?_|refine cTZ ?_|refine ae rfl ?_|refine r2Z ?_|fail)
  all_goals exact fy
 have hw:=rZ m (mL hc0);rw[hc0] at hck;have er:=cp m;unfold bV MachV.cells at em hck hw;unfold MachV.cells at g3;by_cases hwl:bM m=l
 ·rw[if_neg (by rintro(h|h|h);exact absurd h (by decide);exact h hc0;exact h hwl)];have dw:decide (bM m≠l)=false:=bq (λh=>h hwl);have zz:=aI @NK (aI @g2 (aI @g3 (aI @g0 (aI @bm (aI @ME (aI @ni @dw))))));repeat' (first|refine zW ?_|apply a_n|refine zO ?_|refine vZ ?_|refine cZ ?_ (hp:=by first|exact hck|exact hw) (hs:=by(first|refine aq ?_ rfl|apply az);(repeat' (first|exact ar|apply aO|apply ay|exact em|exact bv _));first|done|fail)|refine stZ ?_|refine gTZ ?_|(refine zGZ ?_ ?_<;>(intro _hg;try (exfalso;omega)))|refine cFZ ?_|refine ae rfl ?_|refine r2Z ?_|fail)
  all_goals exact Dat.tup (DatL.cons er (DatL.cons .int DatL.nil)) _
 ·rw[if_pos (.inr (.inr hwl))];have dw:decide (bM m≠l)=true:=bk hwl;have zz:=aI @NK (aI @g2 (aI @g3 (aI @g0 (aI @bm (aI @ME (aI @ni @dw))))));repeat' (first|refine zW ?_|apply a_n|apply a_r|refine zO ?_|refine vZ ?_|refine cZ ?_ (hp:=by first|exact hck|exact hw) (hs:=by(first|refine aq ?_ rfl|apply az);(repeat' (first|exact ar|apply aO|apply ay|exact em|exact bv _));first|done|fail)|refine stZ ?_|refine gTZ ?_|(refine zGZ ?_ ?_<;>(intro _hg;try (exfalso;omega)))|refine cTZ ?_|refine ae rfl ?_|refine r2Z ?_|fail)
  all_goals exact fy
theorem A6:pU 12 [] (.bool true):=by
 refine pO DU ?_;simp only[b12,aS];have hsh:=Ct;have c0:=yq;have c1:=y3 exM 0 1 0 1 hsh;have c2:=yN exM 0 1 0 hsh;have c3:=qv exM 0 1 0 [0,1,0,0,0,6] hsh (by show _<=_;simp);have c4:=qv exM 0 1 0 [0,1,0,0,0,7] hsh (by show _<=_;simp);have c5:=qv exM 0 0 1 [0,1,0,0,0,6] hsh (by show _<=_;simp);have c6:=sq exM hsh;have c7:=wS (dX exM).1 (by have:=yH;show _<=_;omega);have c8:=Cd exM exM hsh hsh;have c9:=j0 [1,2,3] (by show _<=_;simp);have c10:=j0 [] (by show _<=_;simp);rw[yl] at c1;rw[xQ] at c2;rw[yk] at c3;rw[we] at c4;rw[wm] at c5;rw[As] at c6;rw[yP] at c7;rw[Bk.1] at c9;rw[Bk.2] at c10;rw[bk rfl] at c8;have l1:=yH
 have l4:fw (aW (dX exM).1) none (some (.int .i64 4))=some (aW [82,84,77,1]):=by
  have:=jz (l:=(dX exM).1) (k:=4) (by omega)
  rwa [AX] at this
 have em:=cp exM;generalize (dX exM).1=W at *;generalize (fL exM 0 1 0 [0,1,0,0,0,7]).1=w1 at *;generalize (fL exM 0 0 1 [0,1,0,0,0,6]).1=w2 at *;dsimp only at c1 c2 c3 c4 c5 c6 c7;unfold bV MachV.cells at c1 c2 c3 c4 c5 c6 c7 c8 em c0
 have s1:∀tb tf:Bool,aX .neq tb tf (aW [0,1,0,0,0,6]) (AV.str (ByteArray.mk (Array.mk [0,1,0,0,0,6])))=some (.bool false):=λtb tf=>by
  have:=ni (a:=[0,1,0,0,0,6]) (b:=[0,1,0,0,0,6]) (tb:=tb) (tf:=tf)
  rwa [bq (λh=>h rfl)] at this
 have s2:∀tb tf:Bool,aX .eql tb tf (aW [82,84,77,1]) (AV.str (ByteArray.mk (Array.mk [82,84,77,1])))=some (.bool true):=λtb tf=>by
  have:=wk (a:=[82,84,77,1]) (b:=[82,84,77,1]) (tb:=tb) (tf:=tf)
  rwa [bk rfl] at this
 have zz:=aI @ME (aI @s1 (aI @s2 (aI @l4 @aH)));repeat' (first|refine zW ?_|apply a_n|refine zO ?_|refine vZ ?_|refine cZ ?_ (hp:=by first|exact c0|exact c1|exact c2|exact c3|exact c4|exact c5|exact c6|exact c7|exact c8|exact c9|exact c10) (hs:=by(first|refine aq ?_ rfl|apply az);(repeat' (first|exact ar|apply aO|apply ay|exact em|exact bv _));first|done|fail)|refine alZ ?_|refine stZ ?_|refine gTZ ?_|(refine zGZ ?_ ?_<;>(intro _hg;try (exfalso;omega)))|refine ae rfl ?_|refine r1Z ?_|fail)
 all_goals first
  |exact ap rfl
  |(exfalso;omega)
  |(simp_all;done)
  |trace_state
end
end Go.Proofs.Ytpbjhjkfobapeaa
namespace Go.Proofs.Ytpbjhjkfobapeaa
open Go Go.Abs Go.RowKit Go.ChangeShapes Go.WideShapes Go.ChangeAt
theorem ri{H:Type}{enc:TypeId×Value->H}{P:Program}{f:Func}{s:ChangeSpec}{apart fresh handsOn again:Bool}{W W':World}{args:Array Value}{v:Value}{ds gs:List (DataW H)}{before pa pv:List MemPlace}
    (hW:DataW.Whole enc P f.params.toList s.vars apart W args.toList ds gs before)
    (hres:∀(b:Nat)(sp:Nat->Bool)(hd:Bool),DataW.TrodAll enc P W' b sp hd f.resultTypes.toList (v.resultList f.resultTypes.size) (s.fn H (ds++gs)).results [])
    (hargs:∀sp:Nat->Bool,(∀p∈before,sp p.block=true)->DataW.TrodAll enc P W' 0 sp true f.params.toList args.toList (s.fn H (ds++gs)).args pa)
    (hvars:∀sp:Nat->Bool,(∀p∈before,sp p.block=true)->DataW.TrodVars enc P W' sp s.vars (s.fn H (ds++gs)).vars pv)
    (hps:before=pa++pv) (hb:Below W.heap.size W W')
    (hok:∀(j:Nat)(t:TypeId)(r:Value),f.resultTypes[j]?=some t->(v.resultList f.resultTypes.size)[j]?=some r->Value.okWide P W' .any 0 t r):
    s.post enc P f apart fresh handsOn again W args v W':=by
 have hold:∀p∈before,(λb=>decide (b<W.heap.size)) p.block=true:=λp hp=>by simpa using hW.lt p hp
 have hlt:=λp hp=>hW.lt p hp;refine⟨ds,gs,before,[],pa,pv,hW,hres _ _ _,hargs _ hold,hvars _ hold,World.keptBut_mono (λp hp=>⟨hp,?_⟩) (hb.frame _),λ_=>?_⟩
 ·rw[hps,th] at hp;exact Or.inr hp
 ·obtain⟨_,_,_,_,_,hz,hn⟩:=hW;refine⟨hok,_,_,([]++pa)++pv,⟨[]++pa,pv,trodAll_append (hargs _ (λ_ _=>rfl)) (hres _ _ _),hvars _ (λ_ _=>rfl),rfl,?_,?_⟩,?_⟩
  ·intro b off hp;have hp':MemPlace.cell b off∈before:=by rw[hps];simpa using hp
   rw[hb.frozen (hlt _ hp')];exact hz b off hp'
  ·intro ha;have:=hn ha;rw[hps] at this;simpa using this
  ·intro p hp _;rw[hps];simpa using hp
theorem yF{E:Env}{w:World}:cX E w [] []:=⟨rfl,λi x y h=>(by cases h)⟩
theorem so{E:Env}{w:World}{x:AV}{y:Value}{xs:List AV}{ys:List Value}(h:Rel E w x y)(hs:cX E w xs ys):cX E w (x::xs) (y::ys):=by
 refine⟨by simp[hs.1],λi a b ha hb=>?_⟩;cases i with
 |zero=>simp at ha hb;subst ha hb;exact h
 |succ i=>simp at ha hb;exact hs.2 i a b ha hb
theorem own:ownKnob Try.prog.godebug=none:=by kernel_rfl
end Go.Proofs.Ytpbjhjkfobapeaa
namespace Go.Proofs.Ytpbjhjkfobapeaa
open Go Go.Abs
open Nat (reduceEqDiff reduceAdd reduceLeDiff)
theorem xu:ShM gX:=by
 refine⟨?_,?_,?_,?_,?_,?_,?_,?_,?_,?_,?_⟩<;>simp[gX,Sh]
theorem uY(R:List UInt8)(hl:R.length<=100000):ShM (ju R).1:=by
 unfold ju;dsimp only;have h1:=cf R false;generalize ao R false=a at *;obtain⟨a1,a2,a3⟩:=a;dsimp only at *;have h2:=cf a2 a3;generalize ao a2 a3=b at *;obtain⟨b1,b2,b3⟩:=b;dsimp only at *;have h3:=cf b2 b3;generalize ao b2 b3=c at *;obtain⟨c1,c2,c3⟩:=c;dsimp only at *;have h4:=cf c2 c3;generalize ao c2 c3=d at *;obtain⟨d1,d2,d3⟩:=d;dsimp only at *;split
 ·exact xu
 ·exact uR _ _ _ _ _ _ (by omega) (by omega) (by omega)
theorem uE(l:List UInt8):ShM (dC l).1:=by
 unfold dC;split
 ·exact xu
 ·split
  ·dsimp only;split
   ·exact xu
   ·exact uY _ (by rw[rz,gN];omega)
  ·exact xu
theorem sI{a b:List UInt8}{tb tf:Bool}:aX .eql tb tf (aW a) (aW b)=some (.bool (decide (a=b))):=wk
def oY(l:List (List Int))(a:Int):Int:=l.foldl (λs x=>IntKind.wrap .i64 (s+(x.length:Int))) a
def mh(l:List (List (List Int)))(a:Int):Int:=l.foldl (λs r=>oY r s) a
theorem xL(l:List (List Int))(x:List Int)(a:Int):oY (l++[x]) a=IntKind.wrap .i64 (oY l a+(x.length:Int)):=by simp[oY]
theorem yc(l:List (List (List Int)))(x:List (List Int))(a:Int):mh (l++[x]) a=oY x (mh l a):=by simp[mh]
theorem wV:∀(l:List (List Int))(a:Nat),a+en l<=9223372036854775807->oY l (a:Int)=((a+en l:Nat):Int)
 |[],a,_=>by simp[oY,en]
 |x::l,a,h=>by
  have hl:en (x::l)=x.length+en l:=by simp[en]
  rw[hl] at h |-;have:oY (x::l) (a:Int)=oY l (IntKind.wrap .i64 ((a:Int)+(x.length:Int))):=rfl;rw[this,tr (by omega) (by omega),show((a:Int)+(x.length:Int))=((a+x.length:Nat):Int) by omega,wV l _ (by omega)];omega
theorem wW:∀(l:List (List (List Int)))(a:Nat),a+(l.map en).sum<=9223372036854775807->mh l (a:Int)=((a+(l.map en).sum:Nat):Int)
 |[],a,_=>by simp[mh]
 |x::l,a,h=>by
  simp only[gD,List.sum_cons] at h |-;have:mh (x::l) (a:Int)=mh l (oY x (a:Int)):=rfl;rw[this,wV x a (by omega),wW l _ (by omega)];omega
def xJ(s:List (List (List Int))):Bool:=decide (s.length<=20)&&s.all λr=>decide (r.length<=20)
def uN(m:MachV):Bool:=decide (m.first.length<=20/\m.out.length<=20/\m.symbols.length<=20/\m.steps.length<=400/\mh m.out 0<=400)&&m.symbols.all xJ
theorem wg(add x:Int)(l:List Int):aL add (x::l)=dq (x+add).toNat++aL add l:=by simp[aL]
theorem ca{α:Type}[Inhabited α]{l:List α}{i:Nat}{a:α}(h:l[i]?=some a):i<l.length/\l.getD i default=a:=by
 have h1:=(bJ.1 h).1;exact⟨h1,by simp[List.getD,h]⟩
theorem zI{m:MachV}(h:GoodM m){r:List (List Int)}(hr:r∈m.out){l:List Int}(hl:l∈r):∀x∈l,0<=x+1/\x+1<2097152:=λx hx=>by
 have h2:=h.rg;unfold cS at h2;simp only[cE,cV] at h2;have h3:=h2.2.1 r hr l hl;unfold dN at h3;rw[cV] at h3;have h4:=gU (h3 x hx);have:=h.o;omega
theorem y1{m:MachV}(h:GoodM m){s:List (List (List Int))}(hs:s∈m.symbols){r:List (List Int)}(hr:r∈s){l:List Int}(hl:l∈r):∀x∈l,0<=x+0/\x+0<2097152:=λx hx=>by
 have:=lZ h.rg hs hr hl hx;omega
section
attribute [local irreducible] aJ ak bI bA bl bf aC bn bF cb Go.Abs.Fn bD Go.Abs.Pure ax aQ Yl
theorem xm(m:MachV)(hl:Sh m.out)(h2:∀l∈m.out,Sh l):pU 28 [bV m] (.int .i64 (mh m.out 0)):=by
 refine pO CL ?_;simp only[b28,aS];have hl':m.out.length<=9223372036854775807:=hl;unfold bV MachV.cells;have zz:=@ME;repeat' (first|refine zW ?_|apply a_n|refine zO ?_|refine vZ ?_|refine bxZ ?_|fail)
 refine fg (X:=Nat) (λk=>[(1,.ptr 0 8 0),(3,.int .i64 (mh (m.out.take k) 0)),(4,.int .i64 k)]) (λk=>k<=m.out.length) (λk=>m.out.length-k) 0 (bZ _) (by simp (disch:=omega) only[agr,ZG,reduceEqDiff,↓reduceIte,show mh ([]:List (List (List Int))) 0=0 from rfl,List.take_zero,gI,my]) ?_;rintro k h1;by_cases hk:k<m.out.length
 ·have hm:=h2 _ (aj hk);have ht:=bT hk;generalize hc:m.out.getD k default=c at *;have hc':c.length<=9223372036854775807:=hm;clear zz;have zz:=aI @ME @hc;repeat' (first|refine zW ?_|apply a_n|refine zO ?_|refine vZ ?_|(refine zGZ ?_ ?_<;>(intro _hg;try (exfalso;omega)))|fail)
  refine fg (X:=Nat) (λj=>[(1,.ptr 0 8 0),(3,.int .i64 (oY (c.take j) (mh (m.out.take k) 0))),(4,.int .i64 k),(5,.int .i64 j)]) (λj=>j<=c.length) (λj=>c.length-j) 0 (bZ _) (by simp (disch:=omega) only[agr,ZG,reduceEqDiff,↓reduceIte,List.take_zero,show ∀a:Int,oY ([]:List (List Int)) a=a from λ_=>rfl]) ?_;rintro j h3;by_cases hj:j<c.length
  ·have ht2:=bT hj;clear zz;have zz:=aI @ME @hc;repeat' (first|refine zW ?_|apply a_n|refine zO ?_|refine vZ ?_|(refine zGZ ?_ ?_<;>(intro _hg;try (exfalso;omega)))|fail)
   refine⟨j+1,by omega,by omega,?_,rfl,rfl⟩;rw[ht2,xL];simp (disch:=omega) only[agr,ZG,reduceEqDiff,↓reduceIte]
  ·clear zz;have zz:=aI @ME @hc;repeat' (first|refine zW ?_|apply a_n|apply a_x|refine zO ?_|refine vZ ?_|(refine zGZ ?_ ?_<;>(intro _hg;try (exfalso;omega)))|fail)
   refine⟨k+1,by omega,by omega,?_,rfl,rfl⟩;rw[ht,yc,gP (show c.length<=j by omega)];simp (disch:=omega) only[agr,ZG,reduceEqDiff,↓reduceIte]
 ·clear zz;have zz:=@ME;repeat' (first|refine zW ?_|apply a_n|apply a_x|refine zO ?_|refine vZ ?_|(refine zGZ ?_ ?_<;>(intro _hg;try (exfalso;omega)))|refine ae rfl ?_|refine r1Z ?_|fail)
  rw[gP (by omega)];exact .int _ _
theorem Cx(m:MachV)(hs:ShM m):pU 11 [bV m] (.bool (uN m)):=by
 refine pO Dr ?_;simp only[b11,aS];have hc:=xm m hs.out hs.out1;have em:=cp m;unfold bV MachV.cells at *;by_cases h:m.first.length<=20/\m.out.length<=20/\m.symbols.length<=20/\m.steps.length<=400/\mh m.out 0<=400
 rotate_left
 ·have e:uN m=false:=by unfold uN;rw[bq h];rfl
  rw[e];have zz:=@ME;repeat' (first|refine zW ?_|apply a_n|apply a_r|refine zO ?_|refine vZ ?_|refine cZ ?_ (hp:=hc)|refine bxZ ?_|refine gTZ ?_|refine gFZ ?_|refine cTZ ?_|(refine zGZ ?_ ?_<;>(intro _hg;try (exfalso;omega)))|refine ae rfl ?_|refine r1Z ?_|fail)
  all_goals first|exact ap rfl|(exfalso;omega)|trace_state
 have e:uN m=m.symbols.all xJ:=by unfold uN;rw[bk h];rfl
 rw[e];obtain⟨h1,h2,h3,h4,h5⟩:=h;have d1:decide ((20:Int)<(m.first.length:Int))=false:=bq (by omega);have d2:decide ((20:Int)<(m.out.length:Int))=false:=bq (by omega);have d3:decide ((20:Int)<(m.symbols.length:Int))=false:=bq (by omega);have d4:decide ((400:Int)<(m.steps.length:Int))=false:=bq (by omega);have d5:decide ((400:Int)<mh m.out 0)=false:=bq (by omega);have zz:=aI @ME (aI @d1 (aI @d2 (aI @d3 (aI @d4 @d5))));repeat' (first|refine zW ?_|apply a_n|refine zO ?_|refine vZ ?_|refine cZ ?_ (hp:=hc)|refine bxZ ?_|refine gTZ ?_|refine cFZ ?_|fail)
 refine ee (λk=>[(1,.ptr 0 8 0),(3,.int .i64 k)]) m.symbols.length (λk=>xJ (m.symbols.getD k default)=true) (by simp (disch:=omega) only[agr,ZG,reduceEqDiff,↓reduceIte,gI,my]) ?_;intro k hk hp;by_cases hk2:k<m.symbols.length
 rotate_left
 ·clear zz;have zz:=@ME;repeat' (first|refine zW ?_|apply a_n|apply a_x|refine zO ?_|refine vZ ?_|(refine zGZ ?_ ?_<;>(intro _hg;try (exfalso;omega)))|refine ae rfl ?_|refine r1Z ?_|fail)
  exact ap (eP λi hi=>hp i (by omega)).symm
 have fr:xJ (m.symbols.getD k default)=(decide ((m.symbols.getD k default).length<=20)&&(m.symbols.getD k default).all λr=>decide (r.length<=20)):=rfl;have hfin:xJ (m.symbols.getD k default)=false->(m.symbols.all xJ)=false:=λh=>eC hk2 h;generalize hc2:m.symbols.getD k default=c at *;clear zz;have zz:=aI @ME @hc2;repeat' (first|refine zW ?_|apply a_n|apply a_r|refine zO ?_|refine vZ ?_|(refine zGZ ?_ ?_<;>(intro _hg;try (exfalso;omega)))|refine ae rfl ?_|refine r1Z ?_|fail)
 ·refine ap (hfin ?_).symm;rw[fr,bq (by omega)];rfl
 rw[bk (by omega),Bool.true_and] at fr;refine ee (λj=>[(1,.ptr 0 8 0),(3,.int .i64 k),(4,.int .i64 j)]) c.length (λj=>(c.getD j default).length<=20) (by simp (disch:=omega) only[agr,ZG,reduceEqDiff,↓reduceIte,gI,my]) ?_;intro j hj hq;by_cases hj2:j<c.length
 rotate_left
 ·clear zz;have zz:=aI @ME @hc2;repeat' (first|refine zW ?_|apply a_n|apply a_x|refine zO ?_|refine vZ ?_|(refine zGZ ?_ ?_<;>(intro _hg;try (exfalso;omega)))|fail)
  refine⟨hk2,?_,ag0,rfl,rfl⟩;rw[fr];exact eP λi hi=>bk (hq i (by omega))
 generalize hc3:c.getD j default=d at *;clear zz;have zz:=aI @ME (aI @hc2 @hc3);repeat' (first|refine zW ?_|apply a_n|apply a_r|refine zO ?_|refine vZ ?_|(refine zGZ ?_ ?_<;>(intro _hg;try (exfalso;omega)))|refine ae rfl ?_|refine r1Z ?_|fail)
 ·refine ap (hfin ?_).symm;rw[fr];exact eC hj2 (by rw[hc3];exact bq (by omega))
 ·refine⟨hj2,by omega,ag0,rfl,rfl⟩
end
end Go.Proofs.Ytpbjhjkfobapeaa
namespace Go.Proofs.Ytpbjhjkfobapeaa
open Go Go.Abs Go.RowKit
section
variable{H:Type}{enc:TypeId×Value->H}{W:World}
theorem oi:dY enc Try.prog W 3 (AV.int .i64) (λn=>(Lit.int .i64 n).wf=true):=yn Try.underlying3
theorem oL1:dY enc Try.prog W 59 be (λl=>l.length<=17592186044416):=
 (gz Try.underlying59 (sz:=1) (by_:=8) (by kernel_rfl) (by kernel_rfl) f6 (λ_=>rfl) oi).mono λl h=>by have:=h.2.2;omega
theorem oL2:dY enc Try.prog W 22 aF (λl=>l.length<=17592186044416/\∀x∈l,x.length<=17592186044416):=
 (gz Try.underlying22 (sz:=1) (by_:=24) (by kernel_rfl) (by kernel_rfl) f6 (λ_=>rfl) oL1).mono λl h=>⟨by have:=h.2.2;omega,h.1⟩
theorem oL3:dY enc Try.prog W 25 aN (λl=>l.length<=17592186044416/\∀x∈l,x.length<=17592186044416/\∀y∈x,y.length<=17592186044416):=
 (gz Try.underlying25 (sz:=1) (by_:=24) (by kernel_rfl) (by kernel_rfl) f6 (λ_=>rfl) oL2).mono λl h=>⟨by have:=h.2.2;omega,h.1⟩
theorem oL4:dY enc Try.prog W 23 b9 (λl=>l.length<=17592186044416/\∀x∈l,x.length<=17592186044416/\∀y∈x,y.length<=17592186044416/\∀z∈y,z.length<=17592186044416):=
 (gz Try.underlying23 (sz:=1) (by_:=24) (by kernel_rfl) (by kernel_rfl) f6 (λ_=>rfl) oL3).mono λl h=>⟨by have:=h.2.2;omega,h.1⟩
theorem oA5:dY enc Try.prog W 91 (λl:List Int=>.agg (l.flatMap λa=>(AV.int .i64 a).cells)) (λl=>l.length=5/\∀a∈l,(Lit.int .i64 a).wf=true):=
 ym Try.underlying91 (sz:=1) (by kernel_rfl) (by kernel_rfl) oi
set_option maxRecDepth 100000 in
theorem Cr:dY enc Try.prog W 93 ew (λ_=>True):=
 (mi Try.underlying93 (by kernel_rfl) (cC (off:=0) (off':=1) rfl (by kernel_rfl) oi (cC (off:=1) (off':=2) rfl (by kernel_rfl) oi (cC (off:=2) (off':=7) rfl (by kernel_rfl) oA5 (cC (off:=7) (off':=8) rfl (by kernel_rfl) oi q9))))).map
  (fun a=>(⟨a.1,a.2.1,a.2.2.1.getD 0 0,a.2.2.1.getD 1 0,a.2.2.1.getD 2 0,a.2.2.1.getD 3 0,a.2.2.1.getD 4 0,a.2.2.2.1⟩:StepV)) (fun _ _=>trivial) (by
   rintro⟨a,b,l,t,u⟩ ⟨_,_,⟨h,_⟩,_,_⟩
   match l,h with
   |[h0,h1,h2,h3,h4],_=>rfl)
theorem BH:dY enc Try.prog W 24 bh (λl=>l.length<=17592186044416):=
 (gz Try.underlying24 (sz:=8) (by_:=64) (by kernel_rfl) (by kernel_rfl) (by omega) (λ_=>rfl) Cr).mono λl h=>by have:=h.2.2;omega
set_option maxRecDepth 100000 in
theorem oM:dY enc Try.prog W 27 bV ShM:=
 (mi Try.underlying27 (by kernel_rfl) (cC (off:=0) (off':=1) rfl (by kernel_rfl) oi (cC (off:=1) (off':=2) rfl (by kernel_rfl) oi (cC (off:=2) (off':=3) rfl (by kernel_rfl) oi (cC (off:=3) (off':=4) rfl (by kernel_rfl) oi (cC (off:=4) (off':=5) rfl (by kernel_rfl) oL2 (cC (off:=5) (off':=6) rfl (by kernel_rfl) oL4 (cC (off:=6) (off':=7) rfl (by kernel_rfl) BH (cC (off:=7) (off':=8) rfl (by kernel_rfl) oL3 q9))))))))).map
  (fun a=>(⟨a.1,a.2.1,a.2.2.1,a.2.2.2.1,a.2.2.2.2.1,a.2.2.2.2.2.1,a.2.2.2.2.2.2.1,a.2.2.2.2.2.2.2.1⟩:MachV)) (by
   rintro⟨n,r,i,o,F,S,T,O,u⟩ ⟨_,_,_,_,hF,hS,hT,hO,_⟩;dsimp only at *
   exact ⟨by show F.length ≤ _; omega,fun l hl=>by have:=hF.2 l hl; show _ ≤ _; omega,by show O.length ≤ _; omega,fun l hl=>by have:=(hO.2 l hl).1; show _ ≤ _; omega,fun l hl x hx=>by have:=(hO.2 l hl).2 x hx; show _ ≤ _; omega,
    λl hl x hx=>by have:=(hO.2 l hl).2 x hx;omega,by show S.length<=_;omega,λl hl=>by have:=(hS.2 l hl).1;show _<=_;omega,λl hl x hx=>by have:=((hS.2 l hl).2 x hx).1;show _<=_;omega,
    λl hl x hx y hy=>by have:=((hS.2 l hl).2 x hx).2 y hy;show _<=_;omega,by show T.length<=_;omega⟩) (λ_ _=>rfl)
end
theorem pt{f:FuncId}{xs:List AV}{vs:List Value}(h:pU f xs (.bool true))(w:World)(hv:cX (E0 (o9 w)) w xs vs):
    Calls Try.prog f vs.toArray w λe w'=>e=.returned (.bool true)/\Below w.heap.size w w':=by
 refine(h.2 (o9 w) w vs (λ_ h=>h) hv).mono ?_;rintro e w' ⟨v,imm',rfl,hb,_,_,_,hr⟩;cases hr;exact⟨rfl,hb⟩
theorem CM:laidOutB Try.prog=true:=by kernel_rfl
end Go.Proofs.Ytpbjhjkfobapeaa
namespace Go.Proofs.Ytpbjhjkfobapeaa
open Go Go.Abs
open Nat (reduceEqDiff reduceAdd reduceLeDiff)
theorem Ap{α:Type}[Inhabited α]{l:List α}{p:α->Bool}:l.all p=true↔ ∀i,i<l.length->p (l.getD i default)=true:=
 ⟨λh i hi=>cV.1 h _ (aj hi),eP⟩
theorem vL{m:MachV}(hsh:bU m=true)(hn:1<=m.n/\m.n<=5)(hr:0<=m.rounds/\m.rounds<=6):cS m=true↔ ∀p,p<m.first.length->iy m p=true/\∀k,k<m.out.length->dN ((m.out.getD k default).getD p default) (-1) (m.outs-1)=true/\(k<m.symbols.length->∀q,q<m.first.length->dN (((m.symbols.getD k default).getD p default).getD q default) 0 1048576=true):=by
 obtain⟨l1,l2,l3⟩:=cK hsh;unfold cS;simp only[cE,cV,gJ];constructor
 ·rintro⟨h1,h2,h3⟩ p hp;refine⟨h1 p hp,λk hk=>⟨?_,λhk2 q hq=>?_⟩⟩
  ·exact h2 _ (aj hk) _ (aj (by have:=co hsh hk;omega))
  ·obtain⟨s1,s2⟩:=gk hsh hk2;exact h3 _ (aj hk2) _ (aj (by omega)) _ (aj (by have:=(s2 p (by omega)).1;omega))
 ·intro h;refine⟨λp hp=>(h p hp).1,λl hl x hx=>?_,λs hs l hl x hx=>?_⟩
  ·obtain⟨k,hk,rfl⟩:=ft hl;obtain⟨p,hp,rfl⟩:=ft hx;have:=co hsh hk;exact((h p (by omega)).2 k hk).1
  ·obtain⟨k,hk,rfl⟩:=ft hs;obtain⟨p,hp,rfl⟩:=ft hl;obtain⟨q,hq,rfl⟩:=ft hx;obtain⟨s1,s2⟩:=gk hsh hk;have:=(s2 p hp).1;exact((h p (by omega)).2 k (by omega)).2 hk q (by omega)
theorem ma{b:Bool}{P:Prop}(h:b=true↔P)(hn:¬P):b=false:=by
 cases b with
 |false=>rfl
 |true=>exact absurd (h.1 rfl) hn
theorem Bh{P:Program}{T:Tm}{H:Hp}{nx:Nat}{S:Hp}{K:SP}{l:List (Op2×Nat)}{d:Option Nat}{x:Opd}{p v:AV}(hp:ov T x=p)(h:rd1 S p=some v)(k:aU P S l (aD T d v) H nx K):aU P S ((⟨d,none,.ld1 x⟩,0)::l) T H nx K:=
 uG (i:=.ld1 x) (show rd1 S (ov T x)=some v by rw[hp];exact h) k
theorem jK(a:StepV){k:Nat}(hk:k<5):a.cells[2+k*1]?=some (.int .i64 (a.heard.getD k default)):=by
 match k,hk with
 |0,_=>rfl
 |1,_=>rfl
 |2,_=>rfl
 |3,_=>rfl
 |4,_=>rfl
theorem uz(a:StepV){k:Nat}(hk:k<5):a.key.take (k+1+2)=a.key.take (k+2)++[a.heard.getD k default]:=by
 match k,hk with
 |0,_=>rfl
 |1,_=>rfl
 |2,_=>rfl
 |3,_=>rfl
 |4,_=>rfl
structure OI(a b:StepV)(k:Nat)(sx sy:AV)(H:Hp)(nx:Nat):Prop where
 h0:H 0=some a.cells
 h1:H 1=some b.cells
 rx:Row H 1 sx ((a.key.take (k+2)).map (AV.int .i64))
 ry:Row H 1 sy ((b.key.take (k+2)).map (AV.int .i64))
 bx:∀i,aY sx=some i->2<=i/\i<nx/\aY sy≠some i
 bw:∀i,aY sy=some i->2<=i/\i<nx
 lt:2<=nx
theorem yC{x:StepV}{n:Nat}:dN (x.heard.drop n) (-1) (-1)=true↔ ∀i,n<=i->i<5->x.heard.getD i default=-1:=by
 unfold dN;rw[Ap];have hl:x.heard.length=5:=rfl;have e:∀j,(x.heard.drop n).getD j default=x.heard.getD (n+j) default:=λj=>by simp only[List.getD,kS]
 constructor
 ·intro h i hi hi5;have:=h (i-n) (by rw[rz];omega);rw[e,show n+(i-n)=i by omega] at this;have:=gU this;omega
 ·intro h j hj;rw[rz] at hj;rw[e];exact bk (by rw[h (n+j) (by omega) (by omega)];omega)
theorem nD{T:Tm}{H:Hp}{cs:List AV}{off len sz q:Nat}{x i:Opd}(hx:ov T x=.iptr cs off)(hi:ov T i=.int .i64 (q:Int))(h:q<len):bo T H (.ixaA len sz x i)=some (.iptr cs (off+q*sz)):=by
 simp only[bo,hx,hi,lH];rw[if_pos ⟨by omega,by omega⟩,kK];rfl
theorem y5{P:Program}{dm:DM}{T:Tm}{H:Hp}{nx:Nat}{K:SP}{l:List Op2}{d:Option Nat}{x:Opd}{cs:List AV}{off:Nat}{v:AV}(hd:dm2 dm T (.ld1 x)=true)(hp:ov T x=.iptr cs off)(h:cs[off]?=some v)(k:ak P dm l (aD T d v) H nx K):ak P dm (⟨d,none,.ld1 x⟩::l) T H nx K:=
 lQ (i:=.ld1 x) rfl hd (show rd1 H (ov T x)=some v by rw[hp];exact h) k
def y4(m:MachV)(r f t s:Int):Prop:=uN m=true/\dx m=0/\0<=r/\r<m.rounds/\0<=f/\f<m.n/\0<=t/\t<m.n/\f≠t/\0<=s/\s<((ki m ⟨r,f,t⟩).length:Int)
instance(m:MachV)(r f t s:Int):Decidable (y4 m r f t s):=by unfold y4;infer_instance
theorem dQ{a b:List UInt8}(h:a.length+b.length<=9223372036854775807)(tb tf:Bool):aX .add tb tf (aW a) (aW b)=some (aW (a++b)):=by
 show(if (⟨a.toArray⟩:ByteArray).size+(⟨b.toArray⟩:ByteArray).size<=9223372036854775807 then some (AV.str (⟨a.toArray⟩++⟨b.toArray⟩)) else none)=_;rw[dg,dg,if_pos h];unfold aW
 congr 2
theorem mW:AV.str ⟨⟨[]⟩⟩=aW []:=rfl
def hG(n:Int):UInt8:=UInt8.ofNat (n%256).toNat
theorem xU(n:Int):IntKind.wrap .u8 n=((hG n).toNat:Int):=by
 rw[nY];unfold hG;rw[UInt8.toNat_ofNat'];omega
theorem vN(l:List UInt8)(h:6<=l.length):decide (kB (l.take (l.length-2))=l)=eo l:=by
 unfold eo;rw[bk h,Bool.true_and,decide_eq_decide];obtain⟨n,hn⟩:∃n,l.length=n+2:=⟨l.length-2,by omega⟩
 rw[hn,show n+2-2=n by omega,show n+2-1=n+1 by omega];have hb:=pg (l.take n);have hx:=UInt8.toNat_lt (l.getD n default);have hy:=UInt8.toNat_lt (l.getD (n+1) default)
 have hl:l=l.take n++[l.getD n default,l.getD (n+1) default]:=by
  have h1:=cP (l:=l) (k:=n) (by omega);have h2:=cP (l:=l) (k:=n+1) (by omega);rw[ml (show l.length<=n+1+1 by omega)] at h2;rw[h2] at h1
  conv=>lhs;rw[<-wq n l,h1]
 unfold kB;constructor
 ·intro h2
  have h3:[UInt8.ofNat (f7 (l.take n)/256).toNat,UInt8.ofNat (f7 (l.take n)%256).toNat]=[l.getD n default,l.getD (n+1) default]:=by
   have h4:=h2.trans hl;exact List.append_cancel_left h4
  simp only[List.cons.injEq,and_true] at h3;rw[<-h3.1,<-h3.2,UInt8.toNat_ofNat',UInt8.toNat_ofNat'];omega
 ·intro h2
  conv=>rhs;rw[hl]
  congr 1
  have e1:(f7 (l.take n)/256).toNat=(l.getD n default).toNat:=by omega
  have e2:(f7 (l.take n)%256).toNat=(l.getD (n+1) default).toNat:=by omega
  rw[e1,e2,UInt8.ofNat_toNat,UInt8.ofNat_toNat]
section
attribute [local irreducible] aJ ak bI bA bl bf aC bn bF cb Go.Abs.Fn bD Go.Abs.Pure ax aQ Yl
theorem pc(n a b:Int):pU 70 [.int .i64 n,.int .i64 a,.int .i64 b] (.bool (inB n a b)):=by
 refine pO Ea ?_;simp only[b70,aS]
 repeat' (first|refine zW ?_|apply a_n|refine zO ?_|refine vZ ?_|refine gTZ ?_|refine gFZ ?_|(refine zGZ ?_ ?_<;>(intro _hg;try (exfalso;omega)))|refine ae rfl ?_|refine r1Z ?_|fail)
 all_goals (refine ap ?_;unfold inB)
 ·exact decide_eq_decide.2 (by omega)
 ·rw[bq (by omega)]
theorem nV(l:List Int)(a b:Int)(hl:Sh l):pU 94 [be l,.int .i64 a,.int .i64 b] (.bool (dN l a b)):=by
 refine pO Da ?_;simp only[b94,aS];have hl':l.length<=9223372036854775807:=hl
 repeat' (first|refine zW ?_|apply a_n|refine zO ?_|refine vZ ?_|fail)
 refine ee (λk=>[(0,be l),(1,.int .i64 a),(2,.int .i64 b),(7,.int .i64 k)]) l.length (λk=>inB (l.getD k default) a b=true) ag0 ?_;intro k hk hp;by_cases hk2:k<l.length
 rotate_left
 ·repeat' (first|refine zW ?_|apply a_n|apply a_x|refine zO ?_|refine vZ ?_|(refine zGZ ?_ ?_<;>(intro _hg;try (exfalso;omega)))|refine ae rfl ?_|refine r1Z ?_|fail)
  exact ap (eP (p:=λn=>inB n a b) λi hi=>hp i (by omega)).symm
 have hc:=pc (l.getD k default) a b;have hfin:inB (l.getD k default) a b=false->dN l a b=false:=λh=>eC (p:=λn=>inB n a b) hk2 h;generalize inB (l.getD k default) a b=r at *;cases r with
 |false=>
  repeat' (first|refine zW ?_|apply a_n|apply a_r|refine zO ?_|refine vZ ?_|refine cZ ?_ (hp:=hc)|refine cTZ ?_|(refine zGZ ?_ ?_<;>(intro _hg;try (exfalso;omega)))|refine ae rfl ?_|refine r1Z ?_|fail)
  exact ap (hfin rfl).symm
 |true=>
  repeat' (first|refine zW ?_|apply a_n|refine zO ?_|refine vZ ?_|refine cZ ?_ (hp:=hc)|refine cFZ ?_|(refine zGZ ?_ ?_<;>(intro _hg;try (exfalso;omega)))|fail)
  exact⟨hk2,rfl,ag0,rfl,rfl⟩
theorem yZ(m:MachV)(hs:ShM m)(hn:1<=m.n/\m.n<=5)(hr:0<=m.rounds/\m.rounds<=6):pU 71 [bV m] (.bool (bU m)):=by
 refine pO C5 ?_;simp only[b71,aS];obtain⟨s1,s2,s3,s4,s5,s5b,s6,s7,s8,s9,s10⟩:=hs;have e1:m.first.length<=9223372036854775807:=s1
 have e2:m.out.length<=9223372036854775807:=s3;have e3:m.symbols.length<=9223372036854775807:=s6;unfold bV MachV.cells;refine bW ?_;have zz:=@ME;repeat' (first|apply a_n|refine zO ?_|refine vZ ?_|refine bxZ ?_|fail)
 refine cw (λT H nx=>T 1=.ptr 0 8 0/\H=ah bi 0 m.cells/\((m.first.length:Int)=m.n/\(m.out.length:Int)=m.rounds+1/\(m.symbols.length:Int)=m.rounds)) ?_ ?_
 ·clear zz;have zz:=@ME;repeat' (first|refine zW ?_|apply a_n|apply a_r|refine zO ?_|refine vZ ?_|refine gTZ ?_|refine gFZ ?_|refine cTZ ?_|(refine zGZ ?_ ?_<;>(intro _hg;try (exfalso;omega)))|refine ae rfl ?_|refine r1Z ?_|fail)
  all_goals first
   |exact⟨rfl,rfl,by omega,by omega,by omega⟩
   | (refine ap ?_
      unfold bU;rw[bq (by omega)];rfl)
 rintro T H nx ⟨t1,rfl,hl⟩
 have hb:bU m=(m.first.all (λl=>decide ((l.length:Int)=m.ins))&&(m.out.all (λl=>decide ((l.length:Int)=m.n))&&(List.range m.symbols.length).all (λk=>mR m k))):=by
  unfold bU;rw[bk hl,Bool.true_and]
 rw[hb];clear zz;clear hb;unfold MachV.cells;obtain⟨l1,l2,l3⟩:=hl;refine cw (λT H nx=>T 1=.ptr 0 8 0/\H=ah bi 0 m.cells/\m.first.all (λl=>decide ((l.length:Int)=m.ins))=true) ?_ ?_
 ·have zz:=aI @ME @t1;repeat' (first|refine zW ?_|apply a_n|refine zO ?_|refine vZ ?_|fail)
  refine ee (λk=>[(1,.ptr 0 8 0),(3,.int .i64 k)]) m.first.length (λk=>((m.first.getD k default).length:Int)=m.ins) (have zz:=@t1;agZ) ?_
  rintro k h1 h2;have hsk:k<m.first.length->(m.first.getD k default).length<=9223372036854775807:=λh=>s2 _ (aj h)
  by_cases hk:k<m.first.length
  ·clear zz;have zz:=@ME;repeat' (first|refine zW ?_|apply a_n|apply a_r|refine zO ?_|refine vZ ?_|(refine zGZ ?_ ?_<;>(intro _hg;try (exfalso;omega)))|refine ae rfl ?_|refine r1Z ?_|fail)
   ·refine ap ?_;have:m.first.all (λl=>decide ((l.length:Int)=m.ins))=false:=eC (k:=k) (by omega) (bq (by omega))
    rw[this];rfl
   ·exact⟨by omega,by omega,ag0,rfl,rfl⟩
  ·clear zz;have zz:=@ME;repeat' (first|refine zW ?_|apply a_n|apply a_x|refine zO ?_|refine vZ ?_|(refine zGZ ?_ ?_<;>(intro _hg;try (exfalso;omega)))|fail)
   exact⟨rfl,rfl,eP λi hi=>bk (h2 i (by omega))⟩
 clear t1;rintro T H nx ⟨t1,rfl,h1⟩;rw[h1,Bool.true_and];clear h1;unfold MachV.cells;refine cw (λT H nx=>T 1=.ptr 0 8 0/\H=ah bi 0 m.cells/\∀i,i<m.out.length->((m.out.getD i default).length:Int)=m.n) ?_ ?_
 ·have zz:=aI @ME @t1;repeat' (first|refine zW ?_|apply a_n|refine zO ?_|refine vZ ?_|fail)
  refine ee (λk=>[(1,.ptr 0 8 0),(4,.int .i64 k)]) m.out.length (λk=>((m.out.getD k default).length:Int)=m.n) (have zz:=@t1;agZ) ?_;rintro k h1 h2;by_cases hk:k<m.out.length
  ·clear zz;have zz:=@ME;repeat' (first|refine zW ?_|apply a_n|apply a_r|refine zO ?_|refine vZ ?_|(refine zGZ ?_ ?_<;>(intro _hg;try (exfalso;omega)))|refine ae rfl ?_|refine r1Z ?_|fail)
   ·refine ap ?_;have:m.out.all (λl=>decide ((l.length:Int)=m.n))=false:=eC (k:=k) (by omega) (bq (by omega));rw[this];rfl
   ·exact⟨by omega,by omega,ag0,rfl,rfl⟩
  ·clear zz;have zz:=@ME;repeat' (first|refine zW ?_|apply a_n|apply a_x|refine zO ?_|refine vZ ?_|(refine zGZ ?_ ?_<;>(intro _hg;try (exfalso;omega)))|fail)
   exact⟨rfl,rfl,λi hi=>h2 i (by omega)⟩
 clear t1;rintro T H nx ⟨t1,rfl,ho⟩;have ho1:m.out.all (λl=>decide ((l.length:Int)=m.n))=true:=eP λi hi=>bk (ho i hi);rw[ho1,Bool.true_and];unfold MachV.cells;have zz:=aI @ME @t1;repeat' (first|refine zW ?_|apply a_n|refine zO ?_|refine vZ ?_|fail)
 refine ee (λk=>[(1,.ptr 0 8 0),(5,.int .i64 k)]) m.symbols.length (λk=>mR m k=true) (have zz:=@t1;agZ) ?_;clear zz;clear t1;rintro k h1 h2;by_cases hk:k<m.symbols.length
 rotate_left
 ·have zz:=@ME;repeat' (first|refine zW ?_|apply a_n|apply a_x|refine zO ?_|refine vZ ?_|(refine zGZ ?_ ?_<;>(intro _hg;try (exfalso;omega)))|refine ae rfl ?_|refine r1Z ?_|fail)
  exact ap (cu λi hi=>h2 i (by omega)).symm
 have hok:=ho k (by omega);have hk0:mR m k=(decide (((m.symbols.getD k default).length:Int)=m.n)&&(List.range (m.symbols.getD k default).length).all λp=>oh m k p):=rfl;have hpd:∀p,oh m k p=(decide ((((m.symbols.getD k default).getD p default).length:Int)=m.n)&&(List.range ((m.symbols.getD k default).getD p default).length).all λq=>jV m k p q):=λp=>rfl;have hqd:∀p q,jV m k p q=decide (((((m.symbols.getD k default).getD p default).getD q default).length:Int)=if p=q then 0 else(((m.out.getD k default).getD p default).length:Int)):=λp q=>rfl;generalize hS:m.symbols.getD k default=S at *;generalize hO:m.out.getD k default=O at *;have zz:=aI @ME @hS;repeat' (first|refine zW ?_|apply a_n|apply a_r|refine zO ?_|refine vZ ?_|(refine zGZ ?_ ?_<;>(intro _hg;try (exfalso;omega)))|refine ae rfl ?_|refine r1Z ?_|fail)
 ·refine ap ?_
  symm
  refine bb hk ?_;rw[hk0,bq ‹_›];rfl
 have hSn:(S.length:Int)=m.n:=by omega
 refine ee (λp=>[(1,.ptr 0 8 0),(5,.int .i64 k),(6,.int .i64 p)]) S.length (λp=>oh m k p=true) ag0 ?_;rintro p g1 g2;by_cases hp:p<S.length
 rotate_left
 ·clear zz;have zz:=@ME;repeat' (first|refine zW ?_|apply a_n|apply a_x|refine zO ?_|refine vZ ?_|(refine zGZ ?_ ?_<;>(intro _hg;try (exfalso;omega)))|fail)
  refine⟨by omega,?_,ag0,rfl,rfl⟩;rw[hk0,bk (by omega),Bool.true_and];exact cu λi hi=>g2 i (by omega)
 have hpd:=hpd p;have hqd:=hqd p;generalize hR:S.getD p default=R at *;generalize hV:O.getD p default=V at *;clear zz;have zz:=aI @ME (aI @hS @hR);repeat' (first|refine zW ?_|apply a_n|apply a_r|refine zO ?_|refine vZ ?_|(refine zGZ ?_ ?_<;>(intro _hg;try (exfalso;omega)))|refine ae rfl ?_|refine r1Z ?_|fail)
 ·refine ap ?_
  symm
  refine bb hk ?_;rw[hk0,bb hp (by rw[hpd,bq ‹_›];rfl),Bool.and_false]
 have hRn:(R.length:Int)=m.n:=by omega
 refine ee (λq=>[(1,.ptr 0 8 0),(5,.int .i64 k),(6,.int .i64 p),(7,.int .i64 q)]) R.length (λq=>jV m k p q=true) ag0 ?_;rintro q f1 f2;by_cases hq:q<R.length
 rotate_left
 ·clear zz;have zz:=@ME;repeat' (first|refine zW ?_|apply a_n|apply a_x|refine zO ?_|refine vZ ?_|(refine zGZ ?_ ?_<;>(intro _hg;try (exfalso;omega)))|fail)
  refine⟨by omega,?_,ag0,rfl,rfl⟩;rw[hpd,bk (by omega),Bool.true_and];exact cu λi hi=>f2 i (by omega)
 have hqd:=hqd q
 have hbad:jV m k p q=false→(List.range m.symbols.length).all (fun k=>mR m k)=false:=fun h=>bb hk (by
  rw[hk0,bb hp (by rw[hpd,bb hq h,Bool.and_false]),Bool.and_false])
 by_cases hpq:p=q
 ·have hpq':decide ((p:Int)=(q:Int))=true:=bk (by omega);have hpq2:decide ((p:Int)≠(q:Int))=false:=bq (by omega);rw[if_pos hpq] at hqd;clear zz;have zz:=aI @ME (aI @hS (aI @hR (aI @hO (aI @hV (aI @hpq' @hpq2)))));repeat' (first|refine zW ?_|apply a_n|apply a_r|refine zO ?_|refine vZ ?_|refine gTZ ?_|refine gFZ ?_|refine cTZ ?_|refine cFZ ?_|(refine zGZ ?_ ?_<;>(intro _hg;try (exfalso;omega)))|refine ae rfl ?_|refine r1Z ?_|fail)
  all_goals first
   |exact ap (hbad (by rw[hqd,bq (by omega)])).symm
   |exact⟨by omega,by rw[hqd,bk (by omega)],ag0,rfl,rfl⟩
 ·have hpq':decide ((p:Int)=(q:Int))=false:=bq (by omega);have hpq2:decide ((p:Int)≠(q:Int))=true:=bk (by omega);rw[if_neg hpq] at hqd;clear zz;have zz:=aI @ME (aI @hS (aI @hR (aI @hO (aI @hV (aI @hpq' @hpq2)))));repeat' (first|refine zW ?_|apply a_n|apply a_r|refine zO ?_|refine vZ ?_|refine gTZ ?_|refine gFZ ?_|(refine zGZ ?_ ?_<;>(intro _hg;try (exfalso;omega)))|refine ae rfl ?_|refine r1Z ?_|fail)
  all_goals first
   |exact ap (hbad (by rw[hqd,bq (by omega)])).symm
   |exact⟨by omega,by rw[hqd,bk (by omega)],ag0,rfl,rfl⟩
theorem zN(m:MachV)(hs:ShM m)(hn:1<=m.n/\m.n<=5)(hr:0<=m.rounds/\m.rounds<=6)(ho:1<=m.outs/\m.outs<=8)(hsh:bU m=true):pU 72 [bV m] (.bool (cS m)):=by
 refine pO DC ?_;simp only[b72,aS];have hiff:=vL hsh hn hr;obtain⟨l1,l2,l3⟩:=cK hsh;have hso:=λ{k:Nat}(hk:k<m.out.length)=>co hsh hk;have hss:=λ{k:Nat}(hk:k<m.symbols.length)=>gk hsh hk;obtain⟨s1,s2,s3,s4,s5,s5b,s6,s7,s8,s9,s10⟩:=hs;unfold bV MachV.cells;have zz:=@ME;repeat' (first|refine zW ?_|apply a_n|refine zO ?_|refine vZ ?_|refine bxZ ?_|fail)
 refine ee (λp=>[(1,.ptr 0 8 0),(3,.int .i64 p)]) m.first.length (λp=>iy m p=true/\∀k,k<m.out.length->dN ((m.out.getD k default).getD p default) (-1) (m.outs-1)=true/\(k<m.symbols.length->∀q,q<m.first.length->dN (((m.symbols.getD k default).getD p default).getD q default) 0 1048576=true)) (by simp (disch:=omega) only[agr,ZG,reduceEqDiff,↓reduceIte,gI,my]) ?_
 intro p hp hpp;by_cases hp2:p<m.first.length
 rotate_left
 ·clear zz;have zz:=@ME;repeat' (first|refine zW ?_|apply a_n|apply a_x|refine zO ?_|refine vZ ?_|(refine zGZ ?_ ?_<;>(intro _hg;try (exfalso;omega)))|refine ae rfl ?_|refine r1Z ?_|fail)
  exact ap (hiff.2 λi hi=>hpp i (by omega)).symm
 have h0:0<m.out.length:=by omega
 have hso0:=hso h0;have hF:=s2 _ (aj hp2);have hO0:=s5 _ (aj h0) _ (aj (k:=p) (by omega));have hn1:=nV (m.first.getD p default) (-1) ((((m.out.getD 0 default).getD p default).length:Int)-1) hF;have hfd:iy m p=dN (m.first.getD p default) (-1) (((m.out.getD 0 default).getD p default).length-1):=rfl;have hlen0:((m.out.getD 0 default).getD p default).length<=9223372036854775807:=hO0;have hbadF:iy m p=false->cS m=false:=λh=>ma hiff λhh=>by rw[(hh p hp2).1] at h;cases h
 have g00:(m.out.getD (0:Int).toNat default)=m.out.getD 0 default:=rfl;generalize hA:m.first.getD p default=A at *
 generalize hB:m.out.getD 0 default=B at *;generalize hC:B.getD p default=C at *;rw[<-hfd] at hn1;cases hfb:iy m p with
 |false=>
  rw[hfb] at hn1;clear zz;have zz:=aI @ME (aI @hA (aI @hB (aI @hC (aI @g00 @Int.toNat_zero))));repeat' (first|refine zW ?_|refine zM ?_|apply a_n|apply a_r|refine zO ?_|refine vZ ?_|refine cZ ?_ (hp:=hn1) (hs:=by(first|refine aq ?_ rfl|apply az);(repeat' (first|exact ar|apply aO|apply ay|exact cW _));first|done|fail)|refine cTZ ?_|(refine zGZ ?_ ?_<;>(intro _hg;try (exfalso;omega)))|refine ae rfl ?_|refine r1Z ?_|fail)
  exact ap (hbadF hfb).symm
 |true=>
 rw[hfb] at hn1;clear zz;have zz:=aI @ME (aI @hA (aI @hB (aI @hC (aI @g00 @Int.toNat_zero))));repeat' (first|refine zW ?_|refine zM ?_|apply a_n|refine zO ?_|refine vZ ?_|refine cZ ?_ (hp:=hn1) (hs:=by(first|refine aq ?_ rfl|apply az);(repeat' (first|exact ar|apply aO|apply ay|exact cW _));first|done|fail)|refine cFZ ?_|(refine zGZ ?_ ?_<;>(intro _hg;try (exfalso;omega)))|fail)
 refine ee (λk=>[(1,.ptr 0 8 0),(3,.int .i64 p),(4,.int .i64 k)]) m.out.length (λk=>dN ((m.out.getD k default).getD p default) (-1) (m.outs-1)=true/\(k<m.symbols.length->∀q,q<m.first.length->dN (((m.symbols.getD k default).getD p default).getD q default) 0 1048576=true)) ag0 ?_;intro k hk hkk;by_cases hk2:k<m.out.length
 rotate_left
 ·clear zz;have zz:=@ME;repeat' (first|refine zW ?_|apply a_n|apply a_x|refine zO ?_|refine vZ ?_|(refine zGZ ?_ ?_<;>(intro _hg;try (exfalso;omega)))|fail)
  exact⟨hp2,⟨rfl,λi hi=>hkk i (by omega)⟩,ag0,rfl,rfl⟩
 have hbadK:(¬(dN ((m.out.getD k default).getD p default) (-1) (m.outs-1)=true/\(k<m.symbols.length->∀q,q<m.first.length->dN (((m.symbols.getD k default).getD p default).getD q default) 0 1048576=true)))->cS m=false:=λh=>ma hiff λhh=>h ((hh p hp2).2 k hk2);have hsok:=hso hk2;have hOk:=s5 _ (aj hk2) _ (aj (k:=p) (by omega));have hn2:=nV ((m.out.getD k default).getD p default) (-1) (m.outs-1) hOk;generalize hD:m.out.getD k default=D at *;generalize hE:D.getD p default=E at *;cases hob:dN E (-1) (m.outs-1) with
 |false=>
  rw[hob] at hn2;clear zz;have zz:=aI @ME (aI @hD @hE);repeat' (first|refine zW ?_|refine zM ?_|apply a_n|apply a_r|refine zO ?_|refine vZ ?_|refine cZ ?_ (hp:=hn2) (hs:=by(first|refine aq ?_ rfl|apply az);(repeat' (first|exact ar|apply aO|apply ay|exact cW _));first|done|fail)|refine cTZ ?_|(refine zGZ ?_ ?_<;>(intro _hg;try (exfalso;omega)))|refine ae rfl ?_|refine r1Z ?_|fail)
  exact ap (hbadK (λh=>by rw[hob] at h;cases h.1)).symm
 |true=>
 rw[hob] at hn2;clear zz;have zz:=aI @ME (aI @hD @hE);repeat' (first|refine zW ?_|refine zM ?_|apply a_n|refine zO ?_|refine vZ ?_|refine cZ ?_ (hp:=hn2) (hs:=by(first|refine aq ?_ rfl|apply az);(repeat' (first|exact ar|apply aO|apply ay|exact cW _));first|done|fail)|refine cFZ ?_|(refine zGZ ?_ ?_<;>(intro _hg;try (exfalso;omega)))|fail)
 refine ee (λq=>[(1,.ptr 0 8 0),(3,.int .i64 p),(4,.int .i64 k),(5,.int .i64 q)]) m.first.length (λq=>k<m.symbols.length/\dN (((m.symbols.getD k default).getD p default).getD q default) 0 1048576=true) ag0 ?_
 intro q hq hqq;by_cases hq2:q<m.first.length/\k<m.symbols.length
 rotate_left
 ·have d1:decide ((q:Int)<m.n)=true->decide ((k:Int)<m.rounds)=false:=λh=>bq (by have:=gU h;omega);cases hd:decide ((q:Int)<m.n) with
  |false=>
   clear zz;have zz:=aI @ME @hd;repeat' (first|refine zW ?_|apply a_n|apply a_x|refine zO ?_|refine vZ ?_|refine gFZ ?_|refine cFZ ?_|fail)
   all_goals exact⟨hk2,⟨rfl,λh2 i hi=>(hqq i (by have:=of_decide_eq_false hd;omega)).2⟩,ag0,rfl,rfl⟩
  |true=>
   have d2:=d1 hd;clear zz;have zz:=aI @ME (aI @hd @d2);repeat' (first|refine zW ?_|apply a_n|apply a_x|refine zO ?_|refine vZ ?_|refine gTZ ?_|refine cFZ ?_|fail)
   all_goals exact⟨hk2,⟨rfl,λh2 i hi=>by have:=of_decide_eq_false d2;omega⟩,ag0,rfl,rfl⟩
 obtain⟨hq2,hk3⟩:=hq2;obtain⟨t1,t2⟩:=hss hk3;obtain⟨t3,_⟩:=t2 p (by omega);have hSq:=s9 _ (aj hk3) _ (aj (k:=p) (by omega)) _ (aj (k:=q) (by omega));have hn3:=nV (((m.symbols.getD k default).getD p default).getD q default) 0 1048576 hSq;have d1:decide ((q:Int)<m.n)=true:=bk (by omega);have d2:decide ((k:Int)<m.rounds)=true:=bk (by omega);generalize hX:m.symbols.getD k default=X at *;generalize hY:X.getD p default=Y at *;generalize hZ:Y.getD q default=Z at *;cases hzb:dN Z 0 1048576 with
 |false=>
  rw[hzb] at hn3;clear zz;have zz:=aI @ME (aI @d1 (aI @d2 (aI @hX (aI @hY @hZ))));repeat' (first|refine zW ?_|apply a_n|apply a_r|refine zO ?_|refine vZ ?_|refine cZ ?_ (hp:=hn3) (hs:=by(first|refine aq ?_ rfl|apply az);(repeat' (first|exact ar|apply aO|apply ay|exact cW _));first|done|fail)|refine gTZ ?_|refine cTZ ?_|refine ae rfl ?_|refine r1Z ?_|fail)
  exact ap (hbadK (λh=>by have:=h.2 hk3 q hq2;rw[hZ,hzb] at this;cases this)).symm
 |true=>
  rw[hzb] at hn3;clear zz;have zz:=aI @ME (aI @d1 (aI @d2 (aI @hX (aI @hY @hZ))));repeat' (first|refine zW ?_|apply a_n|refine zO ?_|refine vZ ?_|refine cZ ?_ (hp:=hn3) (hs:=by(first|refine aq ?_ rfl|apply az);(repeat' (first|exact ar|apply aO|apply ay|exact cW _));first|done|fail)|refine gTZ ?_|refine cTZ ?_|refine cFZ ?_|fail)
  exact⟨hq2,⟨hk3,rfl⟩,ag0,rfl,rfl⟩
theorem AR(a b:StepV):pU 74 [ew a,ew b] (.int .i64 (iz a b)):=by
 refine pO CY ?_;simp only[b74,aS];have ea:a.cells=[.int .i64 a.round,.int .i64 a.proc,.int .i64 a.h0,.int .i64 a.h1,.int .i64 a.h2,.int .i64 a.h3,.int .i64 a.h4,.int .i64 a.to]:=rfl;have eb:b.cells=[.int .i64 b.round,.int .i64 b.proc,.int .i64 b.h0,.int .i64 b.h1,.int .i64 b.h2,.int .i64 b.h3,.int .i64 b.h4,.int .i64 b.to]:=rfl;unfold ew;rw[ea,eb];refine bW ?_
 repeat' (first|apply a_n|refine zO ?_|refine vZ ?_|refine bxZ ?_|fail)
 refine bW ?_
 repeat' (first|apply a_n|refine zO ?_|refine vZ ?_|refine blZ ?_|fail)
 refine bW ?_
 repeat' (first|apply a_n|refine zO ?_|refine vZ ?_|refine blZ ?_|fail)
 refine cw (λT H nx=>Row H 1 (T 5) (a.key.map (AV.int .i64))/\Row H 1 (T 6) (b.key.map (AV.int .i64))) ?_ ?_
 ·repeat' (first|refine zW ?_|apply a_n|refine zO ?_|refine vZ ?_|fail)
  refine iV (X:=Nat×AV×AV) (λs=>[(2,.ptr 0 8 0),(3,.ptr 1 8 0),(5,s.2.1),(6,s.2.2),(7,.int .i64 s.1)]) (λs H nx=>s.1<=5/\OI a b s.1 s.2.1 s.2.2 H nx) (λs=>5-s.1) (0,.msl 2 2 1 0 2,.msl 3 2 1 0 2) ⟨_,_,Fz.none,⟨bZ _,?_⟩,bz (by simp (disch:=omega) only[agr,ZG,reduceEqDiff,↓reduceIte,gI,my])⟩ ?_
  ·exact⟨rfl,rfl,.box 2 2 _ rfl rfl,.box 3 2 _ rfl rfl,λi h=>by cases h;exact⟨by omega,by omega,λh=>by cases h⟩,λi h=>by cases h;exact⟨by omega,by omega⟩,by omega⟩
  rintro⟨k,sx,sy⟩ H nx ⟨hk,hI⟩;dsimp only at hk hI |-;by_cases hk5:k<5
  rotate_left
  ·have hk5':k=5:=by omega
   subst hk5'
   repeat' (first|refine zW ?_|apply a_n|apply a_x|refine zO ?_|refine vZ ?_|(refine zGZ ?_ ?_<;>(intro _hg;try (exfalso;omega)))|fail)
   exact⟨hI.rx,hI.ry⟩
  have r0:rd1 (λi=>if i<2 then H i else none) (.ptr 0 8 (2+k*1))=some (.int .i64 (a.heard.getD k default)):=(wQ (cs:=a.cells) hI.h0 rfl).trans (jK a hk5);have r1:rd1 (λi=>if i<2 then H i else none) (.ptr 1 8 (2+k*1))=some (.int .i64 (b.heard.getD k default)):=(wQ (cs:=b.cells) hI.h1 rfl).trans (jK b hk5);have ka:=uz a hk5;have kb:=uz b hk5;have la:((a.key.take (k+2)).map (AV.int .i64)).length<=7:=by rw[eG,gN];omega
  have lb:((b.key.take (k+2)).map (AV.int .i64)).length<=7:=by rw[eG,gN];omega
  generalize a.heard.getD k default=va at *;generalize b.heard.getD k default=vb at *
  repeat' (first|refine zW ?_|apply a_n|refine zO ?_|refine vZ ?_|(refine zGZ ?_ ?_<;>(intro _hg;try (exfalso;omega)))|fail)
  refine wi (fun i=>if i < 2 then H i else none) rfl (fun i cs h=>by
   dsimp only at h;split at h
   ·exact h
   ·cases h) ?_
  repeat' (first|apply a_n|refine zO ?_|refine nvZ ?_|fail)
  refine uG (js ev0 ev0 hk5) ?_;refine Bh ev0 r0 ?_;refine Bd (pv:=[(0,1,.int .i64 va)]) (cs:=[.int .i64 va]) ev0 rfl (by decide) rfl rfl ?_
  repeat' (first|apply a_n|refine zO ?_|refine nvZ ?_|fail)
  refine uG (js ev0 ev0 hk5) ?_;refine Bh ev0 r1 ?_;refine Bd (pv:=[(0,1,.int .i64 vb)]) (cs:=[.int .i64 vb]) ev0 rfl (by decide) rfl rfl ?_;refine qj ?_;refine eL (k:=1) (new:=[.int .i64 va]) rfl ev0 hI.rx ev0 wN rfl rfl f6 (by omega) (by omega) ?_;rintro s' H' nx' hrow j1 j2 j3 j4;have hx2:∀i,i<2->aY sx≠some i:=λi hi h=>by have:=hI.bx i h;omega
  have hy2:∀i,i<2->aY sy≠some i:=λi hi h=>by have:=hI.bw i h;omega
  have hlt:=hI.lt;refine zb ⟨λi cs h=>?_,?_⟩
  ·dsimp only at h;split at h
   ·rename_i hi;rw[j3 i (by omega) (hx2 i hi)];exact h
   ·cases h
  refine rI ?_;refine eL (k:=1) (new:=[.int .i64 vb]) rfl ev0 (hI.ry.same λi hi=>j3 i (hI.bw i hi).2 (λh=>(hI.bx i h).2.2 hi)) ev0 wN rfl rfl f6 (by omega) (by omega) ?_;rintro s2 H2 nx2 hrow2 i1 i2 i3 i4;refine zb ?_
  repeat' (first|apply a_n|refine zO ?_|refine vZ ?_|refine nvZ ?_|fail)
  have hs':∀i,aY s'=some i->2<=i/\i<nx'/\aY sy≠some i:=λi h=>by
   rcases j4 i h with h|h
   ·have:=hI.bx i h;exact⟨this.1,by omega,this.2.2⟩
   ·exact⟨by omega,by omega,λh2=>by have:=hI.bw i h2;omega⟩
  refine⟨(k+1,s',s2),by dsimp only;omega,_,_,Fz.none,⟨by dsimp only;omega,⟨?_,?_,?_,?_,λi h=>?_,λi h=>?_,by omega⟩⟩,bz ag0⟩
  ·rw[i3 0 (by omega) (hy2 0 (by omega)),j3 0 (by omega) (hx2 0 (by omega))];exact hI.h0
  ·rw[i3 1 (by omega) (hy2 1 (by omega)),j3 1 (by omega) (hx2 1 (by omega))];exact hI.h1
  ·dsimp only;rw[ka,eU];exact hrow.same λi hi=>i3 i (hs' i hi).2.1 (hs' i hi).2.2
  ·dsimp only;rw[kb,eU];exact hrow2
  ·have:=hs' i h;refine⟨this.1,by omega,λh2=>?_⟩;rcases i4 i h2 with h3|h3
   ·exact this.2.2 h3
   ·omega
  ·rcases i4 i h with h3|h3
   ·have:=hI.bw i h3;omega
   ·omega
 rintro T H nx ⟨hrx,hry⟩;refine bW (bW ?_);refine eJ H bi [(5,be a.key),(6,be b.key)] Fz.all ⟨.inr hrx.snapI,.inr hry.snapI,trivial⟩ ?_
 repeat' (first|refine zW ?_|apply a_n|refine zO ?_|refine vZ ?_|fail)
 refine iV (X:=Nat) (λk=>[(5,be a.key),(6,be b.key),(8,.int .i64 k)]) (λk H nx=>k<=7/\iz a b=iY (a.key.drop k) (b.key.drop k)) (λk=>7-k) 0 ⟨_,_,Fz.none,⟨bZ _,rfl⟩,bz ag0⟩ ?_;rintro k H nx ⟨hk,ho⟩;have la:a.key.length=7:=rfl;have lb:b.key.length=7:=rfl;by_cases hk7:k<7
 rotate_left
 ·have zz:=aI @la @lb;repeat' (first|refine zW ?_|apply a_n|apply a_x|refine zO ?_|refine vZ ?_|(refine zGZ ?_ ?_<;>(intro _hg;try (exfalso;omega)))|refine ae rfl ?_|refine r1Z ?_|fail)
  rw[ml (by omega),ml (by omega)] at ho;rw[ho];exact .int _ _
 have ha:=cP (l:=a.key) (k:=k) (by omega);have hb:=cP (l:=b.key) (k:=k) (by omega);rw[ha,hb,mg] at ho;have o1:a.key.getD k default<b.key.getD k default->iz a b=-1:=λh=>by rw[ho,if_pos h];rfl
 have o2:b.key.getD k default<a.key.getD k default->iz a b=1:=λh=>by
  rw[ho,if_neg (show ¬a.key.getD k default<b.key.getD k default by omega),if_pos (show a.key.getD k default>b.key.getD k default from h)];rfl
 have o3:¬a.key.getD k default<b.key.getD k default->¬b.key.getD k default<a.key.getD k default->iz a b=iY (a.key.drop (k+1)) (b.key.drop (k+1)):=λh1 h2=>by rw[ho,if_neg h1,if_neg (show ¬a.key.getD k default>b.key.getD k default from h2),if_neg (by simp)]
 clear ho ha hb;have zz:=aI @la @lb;repeat' (first|refine zW ?_|apply a_n|apply a_r|refine zO ?_|refine vZ ?_|(refine zGZ ?_ ?_<;>(intro _hg;try (exfalso;omega)))|refine ae rfl ?_|refine r1Z ?_|fail)
 all_goals first
  |exact bE (o1 (by omega)).symm
  |exact bE (o2 (by omega)).symm
  |exact⟨k+1,by omega,_,_,Fz.none,⟨by omega,o3 (by omega) (by omega)⟩,bz ag0⟩
  |trace_state
theorem BZ(m:MachV)(x:StepV)(hs:ShM m)(hn:1<=m.n/\m.n<=5)(hr:0<=m.rounds/\m.rounds<=6)(hsh:bU m=true):pU 73 [bV m,ew x] (.int .i64 (fZ m x)):=by
 refine pO Dp ?_;simp only[b73,aS];obtain⟨s1,s2,s3,s4,s5,s5b,s6,s7,s8,s9,s10⟩:=hs;have e2:m.out.length<=9223372036854775807:=s3;obtain⟨l1,l2,l3⟩:=cK hsh;unfold bV MachV.cells ew StepV.cells;refine bW ?_;have zz:=@ME;repeat' (first|apply a_n|refine zO ?_|refine vZ ?_|refine bxZ ?_|fail)
 refine cw (fun T H nx=>T 2=.ptr 0 8 0∧T 3=.ptr 1 8 0∧H=ah (ah bi 0 m.cells) 1 x.cells∧(0 ≤ x.round∧x.round ≤ m.rounds - 1∧0 ≤ x.proc∧x.proc ≤ m.n - 1) ∧
  (inB x.round 0 (m.rounds-1)&&(inB x.proc 0 (m.n-1)&&inB x.to 0 ((((m.out.getD (x.round+1).toNat default).getD x.proc.toNat default).length:Int)-1)))=true) ?_ ?_
 ·by_cases h1:0<=x.round/\x.round<=m.rounds-1
  rotate_left
  ·have i1:inB x.round 0 (m.rounds-1)=false:=bq h1;have hc:=pc x.round 0 (m.rounds-1);rw[i1] at hc;clear zz;have zz:=aI @ME @bm;repeat' (first|refine zW ?_|refine zM ?_|apply a_n|apply a_r|refine zO ?_|refine vZ ?_|refine cZ ?_ (hp:=hc)|refine gFZ ?_|refine cTZ ?_|refine ae rfl ?_|refine r1Z ?_|fail)
   refine bE ?_;unfold fZ;rw[i1];simp
  have i1:inB x.round 0 (m.rounds-1)=true:=bk h1;have hc:=pc x.round 0 (m.rounds-1);rw[i1] at hc;by_cases h2:0<=x.proc/\x.proc<=m.n-1
  rotate_left
  ·have i2:inB x.proc 0 (m.n-1)=false:=bq h2;have hc2:=pc x.proc 0 (m.n-1);rw[i2] at hc2;clear zz;have zz:=aI @ME @bm;repeat' (first|refine zW ?_|refine zM ?_|apply a_n|apply a_r|refine zO ?_|refine vZ ?_|refine cZ ?_ (hp:=by first|exact hc|exact hc2)|refine gTZ ?_|refine gFZ ?_|refine cTZ ?_|refine ae rfl ?_|refine r1Z ?_|fail)
   refine bE ?_;unfold fZ;rw[i1,i2];simp
  have i2:inB x.proc 0 (m.n-1)=true:=bk h2;have hc2:=pc x.proc 0 (m.n-1);rw[i2] at hc2;have hlo:=co hsh (k:=(x.round+1).toNat) (by omega);have hsz:=s5 _ (aj (l:=m.out) (k:=(x.round+1).toNat) (by omega)) _ (aj (l:=m.out.getD (x.round+1).toNat default) (k:=x.proc.toNat) (by omega));have hsz':((m.out.getD (x.round+1).toNat default).getD x.proc.toNat default).length<=9223372036854775807:=hsz;have hc3:=pc x.to 0 ((((m.out.getD (x.round+1).toNat default).getD x.proc.toNat default).length:Int)-1);cases i3:inB x.to 0 ((((m.out.getD (x.round+1).toNat default).getD x.proc.toNat default).length:Int)-1) with
  |false=>
   rw[i3] at hc3;clear zz;have zz:=aI @ME @bm;repeat' (first|refine zW ?_|refine zM ?_|apply a_n|apply a_r|refine zO ?_|refine vZ ?_|refine cZ ?_ (hp:=by first|exact hc|exact hc2|exact hc3)|refine gTZ ?_|refine cTZ ?_|refine ae rfl ?_|refine r1Z ?_|fail)
   refine bE ?_;unfold fZ;rw[i1,i2,i3];simp
  |true=>
   rw[i3] at hc3;clear zz;have zz:=aI @ME @bm;repeat' (first|refine zW ?_|refine zM ?_|apply a_n|refine zO ?_|refine vZ ?_|refine cZ ?_ (hp:=by first|exact hc|exact hc2|exact hc3)|refine gTZ ?_|refine cFZ ?_|fail)
   exact⟨rfl,rfl,rfl,⟨h1.1,h1.2,h2.1,h2.2⟩,by rw[i1,i2];rfl⟩
 rintro T H nx ⟨t2,t3,rfl,⟨r1,r2,r3,r4⟩,hb⟩
 have hst:fZ m x=if !dN (x.heard.drop m.n.toNat) (-1) (-1) then 3 else if !(List.range m.n.toNat).all (λq=>fW m x q) then 2 else 0:=by
  unfold fZ;rw[hb];rfl
 rw[hst];clear zz;clear hb hst;have hda:=yC (x:=x) (n:=m.n.toNat);obtain⟨N,hN⟩:∃N:Nat,m.n=N:=⟨m.n.toNat,by omega⟩
 rw[hN] at hda |-;rw[kK] at hda |-;refine cw (λT H nx=>T 2=.ptr 0 8 0/\T 3=.iptr x.cells 0/\H 0=some m.cells/\dN (x.heard.drop N) (-1) (-1)=true) ?_ ?_
 ·refine bW ?_;refine eJ (only 1 x.cells) _ [(2,.ptr 0 8 0),(3,.iptr x.cells 0)] (Fz.one ev0) ⟨.inl t2,.inr ?_,trivial⟩ ?_
  ·rw[t3];exact gu (cs:=x.cells) j7 rfl (dV (fp x))
  unfold MachV.cells;have zz:=aI @ME @hN;repeat' (first|refine zW ?_|apply a_n|refine zO ?_|refine vZ ?_|fail)
  refine fg (X:=Nat) (λq=>[(2,.ptr 0 8 0),(3,.iptr x.cells 0),(5,.int .i64 q)]) (λq=>N<=q/\q<=5/\∀i,N<=i->i<q->x.heard.getD i default=-1) (λq=>5-q) N ⟨bj _,by omega,λi h1 h2=>by omega⟩ ag0 ?_;rintro q ⟨f1,f2,f3⟩;by_cases hq:q<5
  rotate_left
  ·clear zz;have zz:=@ME;repeat' (first|refine zW ?_|apply a_n|apply a_x|refine zO ?_|refine vZ ?_|(refine zGZ ?_ ?_<;>(intro _hg;try (exfalso;omega)))|fail)
   exact⟨rfl,rfl,rfl,hda.2 λi h1 h2=>f3 i h1 (by omega)⟩
  have hcl:=jK x hq;unfold StepV.cells at hcl;clear zz;have zz:=@ME;repeat' (first|refine zW ?_|apply a_n|refine zO ?_|refine vZ ?_|(refine zGZ ?_ ?_<;>(intro _hg;try (exfalso;omega)))|fail)
  refine lQ rfl rfl (nD ev0 ev0 hq) ?_;refine y5 rfl ev0 hcl ?_;clear zz;have zz:=@ME;repeat' (first|refine zW ?_|apply a_n|apply a_r|refine zO ?_|refine vZ ?_|(refine zGZ ?_ ?_<;>(intro _hg;try (exfalso;omega)))|refine ae rfl ?_|refine r1Z ?_|fail)
  ·refine bE ?_;have:dN (x.heard.drop N) (-1) (-1)=false:=ma hda λhh=>by have:=hh q f1 hq;omega
   rw[this];rfl
  ·exact ⟨q + 1,⟨by omega,by omega,fun i h1 h2=>by
     by_cases hiq:i=q
     ·subst hiq;omega
     ·exact f3 i h1 (by omega)⟩,by omega,ag0,rfl,rfl⟩
 clear t2 t3;rintro T H nx ⟨t2,t3,g0,hall⟩;rw[hall];simp only[Bool.not_true,bm,if_false];unfold MachV.cells at g0;have zz:=aI @ME @g0;repeat' (first|refine zW ?_|apply a_n|refine zO ?_|refine vZ ?_|fail)
 refine ee (λq=>[(2,.ptr 0 8 0),(3,.iptr x.cells 0),(6,.int .i64 q)]) N (λq=>fW m x q=true) (have zz:=aI @t2 @t3;agZ) ?_;rintro q f1 f2;by_cases hq:q<N
 rotate_left
 ·clear zz;have zz:=aI @ME (aI @g0 @hN);repeat' (first|refine zW ?_|apply a_n|apply a_x|refine zO ?_|refine vZ ?_|(refine zGZ ?_ ?_<;>(intro _hg;try (exfalso;omega)))|refine ae rfl ?_|refine r1Z ?_|fail)
  refine bE ?_;rw[cu λi hi=>f2 i (by omega)];rfl
 have hcl:=jK x (k:=q) (by omega);unfold StepV.cells at hcl;have hlo:=co hsh (k:=x.round.toNat) (by omega);have hsz:=s5 _ (aj (l:=m.out) (k:=x.round.toNat) (by omega)) _ (aj (l:=m.out.getD x.round.toNat default) (k:=q) (by omega));have hsz':((m.out.getD x.round.toNat default).getD q default).length<=9223372036854775807:=hsz;have c1:=pc (x.heard.getD q default) 0 ((((m.out.getD x.round.toNat default).getD q default).length:Int)-1);have c2:=pc (x.heard.getD q default) (-1) 1048576;by_cases hqp:(q:Int)=x.proc
 ·have hv:fW m x q=inB (x.heard.getD q default) 0 ((((m.out.getD x.round.toNat default).getD q default).length:Int)-1):=by
    unfold fW;rw[if_pos hqp]
  rw[<-hv] at c1;have dq1:decide ((q:Int)=x.proc)=true:=bk hqp;unfold StepV.cells;clear zz;have zz:=aI @ME (aI @g0 (aI @hN @dq1));repeat' (first|refine zW ?_|apply a_n|refine zO ?_|refine vZ ?_|refine cTZ ?_|(refine zGZ ?_ ?_<;>(intro _hg;try (exfalso;omega)))|fail)
  refine lQ rfl rfl (nD ev0 ev0 (show q<5 by omega)) ?_;refine y5 rfl ev0 hcl ?_;clear zz;have zz:=aI @ME (aI @g0 @bm);repeat' (first|refine zW ?_|apply a_n|apply a_r|refine zO ?_|refine vZ ?_|refine cZ ?_ (hp:=c1)|(refine zGZ ?_ ?_<;>(intro _hg;try (exfalso;omega)))|refine ae rfl ?_|refine r1Z ?_|fail)
  all_goals first
   |exact⟨hq,_hg,ag0,rfl,rfl⟩
   | (refine bE ?_
      rw[bb hq _hg];rfl)
 ·have hv:fW m x q=inB (x.heard.getD q default) (-1) 1048576:=by
    unfold fW;rw[if_neg hqp]
  rw[<-hv] at c2;have dq1:decide ((q:Int)=x.proc)=false:=bq hqp;unfold StepV.cells;clear zz;have zz:=aI @ME (aI @g0 (aI @hN @dq1));repeat' (first|refine zW ?_|apply a_n|refine zO ?_|refine vZ ?_|refine cFZ ?_|(refine zGZ ?_ ?_<;>(intro _hg;try (exfalso;omega)))|fail)
  refine lQ rfl rfl (nD ev0 ev0 (show q<5 by omega)) ?_;refine y5 rfl ev0 hcl ?_;clear zz;have zz:=aI @ME (aI @g0 @bm);repeat' (first|refine zW ?_|apply a_n|apply a_r|refine zO ?_|refine vZ ?_|refine cZ ?_ (hp:=c2)|(refine zGZ ?_ ?_<;>(intro _hg;try (exfalso;omega)))|refine ae rfl ?_|refine r1Z ?_|fail)
  all_goals first
   |exact⟨hq,_hg,ag0,rfl,rfl⟩
   | (refine bE ?_
      rw[bb hq _hg];rfl)
theorem AD(m:MachV)(hs:ShM m):pU 43 [bV m] (.int .i64 (dx m)):=by
 refine pO C3 ?_;simp only[b43,aS];have hs0:=hs;obtain⟨s1,s2,s3,s4,s5,s5b,s6,s7,s8,s9,s10⟩:=hs0;have e10:m.steps.length<=9223372036854775807:=s10;have c1:=pc m.n 1 5;have c2:=pc m.rounds 0 6;have c3:=pc m.ins 1 8;have c4:=pc m.outs 1 8;unfold bV MachV.cells;refine bW ?_;have zz:=@ME;repeat' (first|apply a_n|refine zO ?_|refine vZ ?_|refine bxZ ?_|fail)
 refine cw (λT H nx=>T 1=.ptr 0 8 0/\H=ah bi 0 m.cells/\nx=1/\(1<=m.n/\m.n<=5)/\(0<=m.rounds/\m.rounds<=6)/\bU m=true/\dx m=fx m none m.steps) ?_ ?_
 ·refine pn ?_;refine cw (λT H nx=>T 1=.ptr 0 8 0/\H=ah bi 0 m.cells/\nx=1/\T 5=.bool (!lh m)) ?_ ?_
  ·clear zz;have zz:=@ME;repeat' (first|apply a_n|refine zO ?_|refine vZ ?_|refine cZ ?_ (hp:=by first|exact c1|exact c2|exact c3|exact c4)|refine gTZ ?_|refine gFZ ?_|(refine zGZ ?_ ?_<;>(intro _hg;try (exfalso;omega)))|fail)
   all_goals (refine⟨rfl,rfl,rfl,?_⟩;((try simp only[bS,ZA,reduceEqDiff,↓reduceIte,reduceAdd,reduceLeDiff]);(try with_reducible rfl));unfold lh;simp[*])
  rintro T H nx ⟨t1,rfl,rfl,t6⟩;by_cases hN:lh m=true
  rotate_left
  ·have e:dx m=2:=by
     unfold dx;rw[Bool.not_eq_true] at hN;rw[hN];rfl
   rw[e];rw[Bool.not_eq_true] at hN;rw[hN] at t6;clear zz;have zz:=aI @ME (aI @t1 @t6);repeat' (first|refine zW ?_|apply a_n|apply a_r|refine zO ?_|refine vZ ?_|refine cTZ ?_|refine ae rfl ?_|refine r1Z ?_|fail)
   exact .int _ _
  have hN0:=hN;unfold lh at hN;simp only[cE] at hN;obtain⟨i1,i2,i3,i4⟩:=hN;rw[hN0] at t6;have n1:1<=m.n/\m.n<=5:=gU i1;have n2:0<=m.rounds/\m.rounds<=6:=gU i2;have n4:1<=m.outs/\m.outs<=8:=gU i4;have c5:=yZ m hs n1 n2;unfold MachV.cells;cases hsh:bU m with
  |false=>
   have e:dx m=15:=by
    unfold dx;rw[hN0,hsh];rfl
   rw[e];rw[hsh] at c5;have em:=cp m;unfold bV MachV.cells at c5 em;clear zz;have zz:=aI @ME (aI @t1 (aI @t6 @bm));repeat' (first|refine zW ?_|apply a_n|apply a_r|refine zO ?_|refine vZ ?_|refine cZ ?_ (hp:=c5)|refine cTZ ?_|refine cFZ ?_|refine ae rfl ?_|refine r1Z ?_|fail)
   exact .int _ _
  |true=>
   rw[hsh] at c5;have hle:=rM hs n1 n2 hsh;have c6:=xm m s3 s4;have c7:=zN m hs n1 n2 n4 hsh
   have hcn:mh m.out 0=(dG m:Int):=by
    have:=wW m.out 0 (by unfold dG at hle;omega);simpa[dG] using this
   rw[hcn] at c6;have em:=cp m
   have e:¬(8192<dG m\/65536<m.steps.length)->cS m=true->dx m=fx m none m.steps:=λh1 h2=>by
    unfold dx;rw[hN0,hsh,if_neg h1,h2];rfl
   have e5:(8192<dG m\/65536<m.steps.length)->dx m=5:=λh1=>by
    unfold dx;rw[hN0,hsh,if_pos h1];rfl
   have e2:¬(8192<dG m\/65536<m.steps.length)->cS m=false->dx m=2:=λh1 h2=>by
    unfold dx;rw[hN0,hsh,if_neg h1,h2];rfl
   unfold bV MachV.cells at c5 c6 c7 em;generalize dG m=q at *;clear zz;have zz:=aI @ME (aI @t1 (aI @t6 @bm));repeat' (first|refine zW ?_|apply a_n|apply a_r|refine zO ?_|refine vZ ?_|refine cZ ?_ (hp:=by first|exact c5|exact c6|exact c7)|refine gTZ ?_|refine gFZ ?_|refine cTZ ?_|refine cFZ ?_|(refine zGZ ?_ ?_<;>(intro _hg;try (exfalso;omega)))|refine ae rfl ?_|refine r1Z ?_|fail)
   all_goals first
    |(rw[e5 (by omega)];exact .int _ _)
    |(rw[e2 (by omega) _hg];exact .int _ _)
    |exact⟨(have zz:=@t1;evZ),rfl,rfl,n1,n2,by first|exact hsh|rfl,e (by omega) _hg⟩
    |trace_state
 rintro T H nx ⟨t1,rfl,rfl,n1,n2,hsh,hchk⟩;rw[hchk];clear zz;clear c1 c2 c3 c4 hchk;unfold MachV.cells;have zz:=aI @ME @t1;repeat' (first|refine zW ?_|apply a_n|refine zO ?_|refine vZ ?_|fail)
 refine dL (X:=Nat) (λk=>[(1,.ptr 0 8 0),(3,.int .i64 k)])
  (λk H nx=>k<=m.steps.length/\1<=nx/\H 0=some m.cells/\fx m none m.steps=fx m (rF m k) (m.steps.drop k)) (λk=>m.steps.length-k) 0 ⟨bZ _,bj _,ag,rfl⟩ (have zz:=@t1;agZ) ?_
 clear zz;clear t1;rintro k H nx ⟨h1,h2,g0,hF⟩;unfold MachV.cells at g0;by_cases hk:k<m.steps.length
 rotate_left
 ·have zz:=aI @ME @g0;repeat' (first|refine zW ?_|apply a_n|apply a_x|refine zO ?_|refine vZ ?_|(refine zGZ ?_ ?_<;>(intro _hg;try (exfalso;omega)))|refine ae rfl ?_|refine r1Z ?_|fail)
  rw[hF,ml (by omega)];exact .int _ _
 have hd:=cP hk;have hst:=BZ m (m.steps.getD k default) hs n1 n2 hsh;have hor:=AR (m.steps.getD (k-1) default) (m.steps.getD k default);rw[hd,fx] at hF;have em:=cp m;have es:=iL (m.steps.getD k default);have es2:=iL (m.steps.getD (k-1) default);have hpv:rF m k=if k=0 then none else some (m.steps.getD (k-1) default):=rfl
 have hpv2:rF m (k+1)=some (m.steps.getD k default):=rfl;generalize hs1:m.steps.getD k default=s at *;generalize hs2:m.steps.getD (k-1) default=s' at *;generalize hei:fZ m s=ei at *;generalize hoi:iz s' s=oi at *;have et:((k:Int)-1).toNat=k-1:=by omega
 unfold bV MachV.cells at hst em;unfold ew StepV.cells at hst hor es es2;by_cases hk0:k=0
 ·rw[hpv,if_pos hk0] at hF;simp only[Option.any_none,bm,if_false] at hF;have dk:decide ((0:Int)<k)=false:=bq (by omega);have zz:=aI @ME (aI @g0 (aI @hs1 (aI @hs2 (aI @et @dk))));repeat' (first|refine zW ?_|refine zM ?_|apply a_n|apply a_r|refine zO ?_|refine vY ?_|refine cY ?_ (hp:=hst)|refine gFY ?_|refine cFY ?_|(refine zGY ?_ ?_<;>(intro _hg;try (exfalso;omega)))|refine ae rfl ?_|refine r1Y ?_|fail)
  ·rw[hF,if_pos _hg];exact .int _ _
  ·refine⟨k+1,by omega,⟨by omega,by omega,g0,?_⟩,ag0⟩;rw[hF,if_neg ‹_›,hpv2]
 ·rw[hpv,if_neg hk0,Option.any_some,hoi] at hF;have dk:decide ((0:Int)<k)=true:=bk (by omega);have zz:=aI @ME (aI @g0 (aI @hs1 (aI @hs2 (aI @et @dk))));repeat' (first|refine zW ?_|refine zM ?_|apply a_n|apply a_r|refine zO ?_|refine vY ?_|refine cY ?_ (hp:=by first|exact hst|exact hor)|refine gTY ?_|(refine zGY ?_ ?_<;>(intro _hg;try (exfalso;omega)))|refine ae rfl ?_|refine r1Y ?_|fail)
  ·rw[hF,if_pos _hg];exact .int _ _
  ·rw[hF,if_neg ‹_›,if_pos (bk _hg)];exact .int _ _
  ·refine⟨k+1,by omega,⟨by omega,by omega,g0,?_⟩,ag0⟩;rw[hF,if_neg ‹_›,if_neg (by simpa using _hg),hpv2]
theorem pD(n:Int):pU 41 [.int .i64 n] (aW [hG n]):=by
 refine pO DN ?_;simp only[b41,aS];have zz:=@xU;repeat' (first|refine zW ?_|apply a_n|refine zO ?_|refine vZ ?_|refine blZ ?_|fail)
 refine rO (n:=1) (bs:=[hG n]) (by((try simp only[bS,ZA,reduceEqDiff,↓reduceIte,reduceAdd,reduceLeDiff]);(try with_reducible rfl));exact rN (v:=hG n) (by((try simp only[bS,ZA,reduceEqDiff,↓reduceIte,reduceAdd,reduceLeDiff]);(try with_reducible rfl));rfl)) ?_
 repeat' (first|apply a_n|refine zO ?_|refine vZ ?_|refine ae rfl ?_|refine r1Z ?_|fail)
 exact bv _ _
theorem wj(l:List UInt8)(hl:Sh l):pU 75 [aW l] (.int .i64 (f7 l)):=by
 refine pO C0 ?_;simp only[b75,aS];have hl':l.length<=9223372036854775807:=hl;have zz:=aI @aH @lr;repeat' (first|refine zW ?_|apply a_n|refine zO ?_|refine vZ ?_|fail)
 refine fg (X:=Nat) (λk=>[(0,aW l),(3,.int .i64 (ckT l k)),(4,.int .i64 k)]) (λk=>k<=l.length) (λk=>l.length-k) 0 (bZ _) (by simp (disch:=omega) only[agr,ZG,reduceEqDiff,↓reduceIte,Bi]) ?_;rintro k h1;have hb:=wu l k;by_cases hk:k<l.length
 rotate_left
 ·clear zz;have zz:=@aH;repeat' (first|refine zW ?_|apply a_n|apply a_x|refine zO ?_|refine vZ ?_|(refine zGZ ?_ ?_<;>(intro _hg;try (exfalso;omega)))|refine ae rfl ?_|refine r1Z ?_|fail)
  rw[show k=l.length by omega];exact .int _ _
 have hc:=ll (l.getD k default);have hm:0<=((k:Int)+1)%65521*((l.getD k default).toNat:Int):=Int.mul_nonneg (by omega) (by omega);have hm2:((k:Int)+1)%65521*((l.getD k default).toNat:Int)<=65520*255:=Int.mul_le_mul (by omega) (by omega) (by omega) (by omega);have hix:=iO (l:=l) (k:=.i64) (n:=(k:Int)) (by omega) (by omega);rw[kK] at hix;clear zz;have zz:=aI @aH (aI @lr (aI @hix @qL));repeat' (first|refine zW ?_|apply a_n|refine zO ?_|refine vZ ?_|(refine zGZ ?_ ?_<;>(intro _hg;try (exfalso;omega)))|fail)
 refine⟨k+1,by omega,by omega,?_,rfl,rfl⟩;simp only[ckT];simp (disch:=omega) only[agr,ZG,reduceEqDiff,↓reduceIte]
theorem tW(l:List UInt8)(hl:l.length+2<=9223372036854775807):pU 44 [aW l] (aW (kB l)):=by
 refine pO C8 ?_;simp only[b44,aS];have hc:=wj l (by show _<=_;omega);have hb:=pg l;have s1:=dQ (a:=l) (b:=[hG (f7 l/256)]) (by simp;omega);have s2:=dQ (a:=l++[hG (f7 l/256)]) (b:=[hG (f7 l%256)]) (by simp;omega);have b1:=pD (f7 l/256);have b2:=pD (f7 l%256)
 have e:kB l=(l++[hG (f7 l/256)])++[hG (f7 l%256)]:=by
  unfold kB hG;rw[f8,show f7 l/256%256=f7 l/256 by omega,show f7 l%256%256=f7 l%256 by omega];rfl
 rw[e];generalize f7 l=c at *;have zz:=aI @lr (aI @w6 (aI @s1 @s2));repeat' (first|refine zW ?_|apply a_n|refine zO ?_|refine vZ ?_|refine cZ ?_ (hp:=by first|exact hc|exact b1|exact b2)|refine ae rfl ?_|refine r1Z ?_|fail)
 exact bv _ _
theorem jv(n:Int)(hn:0<=n/\n<=4611686018427387904):pU 68 [.int .i64 n] (aW (dq n.toNat)):=by
 refine pO DI ?_;simp only[b68,aS];obtain⟨N,rfl⟩:∃N:Nat,n=N:=⟨n.toNat,by omega⟩
 rw[kK];have zz:=@mW;repeat' (first|refine zW ?_|apply a_n|refine zO ?_|refine vZ ?_|fail)
 refine fg (X:=Nat×List UInt8) (λs=>[(0,.int .i64 s.1),(3,aW s.2)]) (λs=>s.1<=N/\dq N=s.2++dq s.1) (λs=>s.1) (N,[]) ⟨bj _,rfl⟩ ag0 ?_;rintro⟨m,o⟩ ⟨h1,h2⟩;dsimp only at h1 h2 |-
 have hlo:o.length<=10:=by
  have h3:=congrArg List.length h2;have h4:=mC N;rw[cm] at h3;omega
 by_cases hm:127<m
 ·have hb:m<128^9:=by omega
  rw[ua hm hb] at h2;have b1:=pD ((m:Int)%128+128);have eb:hG ((m:Int)%128+128)=UInt8.ofNat (m%128+128):=by unfold hG;congr 1;omega
  rw[eb] at b1;have s1:=dQ (a:=o) (b:=[UInt8.ofNat (m%128+128)]) (by simp;omega);clear zz;have zz:=aI @lr (aI @w6 @s1);repeat' (first|refine zW ?_|apply a_n|refine zO ?_|refine vZ ?_|refine cZ ?_ (hp:=b1)|(refine zGZ ?_ ?_<;>(intro _hg;try (exfalso;omega)))|fail)
  refine⟨(m/128,o++[UInt8.ofNat (m%128+128)]),⟨by dsimp only;omega,by simpa using h2⟩,by dsimp only;omega,?_,rfl,rfl⟩;simp (disch:=omega) only[agr,ZG,reduceEqDiff,↓reduceIte,show((m/128:Nat):Int)=(m:Int)/128 by omega]
 ·rw[qy hm] at h2;have b1:=pD (m:Int);have eb:hG (m:Int)=UInt8.ofNat m:=by unfold hG;congr 1;omega
  rw[eb] at b1;have s1:=dQ (a:=o) (b:=[UInt8.ofNat m]) (by simp;omega);clear zz;have zz:=@s1;repeat' (first|refine zW ?_|apply a_n|apply a_x|refine zO ?_|refine vZ ?_|refine cZ ?_ (hp:=b1)|(refine zGZ ?_ ?_<;>(intro _hg;try (exfalso;omega)))|refine ae rfl ?_|refine r1Z ?_|fail)
  rw[h2];exact bv _ _
theorem AB(l:List UInt8)(hl:Sh l):pU 39 [aW l] (.bool (eo l)):=by
 refine pO Ee ?_;simp only[b39,aS];have hl':l.length<=9223372036854775807:=hl;by_cases h6:6<=l.length
 ·have d6:decide ((6:Int)<=(l.length:Int))=true:=bk (by omega);have e2:(l.length:Int)-2=((l.length-2:Nat):Int):=by omega
  have hsl:fw (aW l) none (some (.int .i64 ((l.length-2:Nat):Int)))=some (aW (l.take (l.length-2))):=jz (by omega);have hc:=tW (l.take (l.length-2)) (by rw[gN];omega);have hr:=vN l h6;have zz:=aI @aH (aI @d6 (aI @e2 (aI @hsl (aI @sI @hr))));repeat' (first|refine zW ?_|apply a_n|refine zO ?_|refine vZ ?_|refine cZ ?_ (hp:=hc)|refine gTZ ?_|refine ae rfl ?_|refine r1Z ?_|fail)
  all_goals exact .bool _
 ·have d6:decide ((6:Int)<=(l.length:Int))=false:=bq (by omega);have hr:eo l=false:=by unfold eo;rw[bq h6];rfl
  rw[hr];have zz:=aI @aH @d6;repeat' (first|refine zW ?_|apply a_n|refine zO ?_|refine vZ ?_|refine gFZ ?_|refine ae rfl ?_|refine r1Z ?_|fail)
  all_goals exact .bool _
end
end Go.Proofs.Ytpbjhjkfobapeaa
