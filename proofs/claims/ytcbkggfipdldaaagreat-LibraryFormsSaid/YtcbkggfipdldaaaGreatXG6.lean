/- Texts of this claim, one after the other: T306, T307, T308, T309, T310, T311, T312, T313, T314, T315, T316, T317, T319, T320, T321, T351, T352, T322, T337, T323, T324, T331, T336, T338, T339, T353, T8, T354, T9. -/
import Derived.Test.YtcbkggfipdldaaaGreatXG5
import Derived.Test.YtcbkggfipdldaaaGreatXG3
import Derived.Test.YtcbkggfipdldaaaGreatXG4
import Derived.Test.YtcbkggfipdldaaaGreatRows
import Derived.WalkKit
import Derived.ProofKit
import Derived.OpenShut

set_option linter.unusedSimpArgs false
set_option linter.unusedVariables false
set_option maxHeartbeats 1000000
namespace Go.Proofs.YtcbkggfipdldaaaGreat.Lb
open Go Go.Abs
attribute [local irreducible] aG al bh a7 aV aU aB aX a9 bt Go.Abs.Fn aZ Go.Abs.Pure ax aO Yl
def cnt(L:List (List Int))(p:List Int→Bool):Nat:=(L.filter p).length
theorem x3(L:List (List Int))(p:List Int→Bool)(x:List Int):cnt (L++[x]) p=cnt L p+if p x then 1 else 0:=by
 unfold cnt;rw[nU];simp[List.filter_cons];split<;>simp
theorem oG(L:List (List Int))(p:List Int→Bool)(k:Nat):cnt (L.take k) p≤cnt L p:=by
 unfold cnt
 conv=>rhs;rw[←uq k L,nU,p7]
 omega
structure Cond(hold:AV)(L:List (List Int))(p:List Int→Bool):Prop where
 out:(hold=.nilf∧∀x,p x=true)∨ ∃g caps,hold=.func g caps∧(∀c∈caps,Dat c)∧∀x∈L,pU g (aC x::caps) (.bool (p x))
theorem Cond.dat{hold:AV}{L:List (List Int)}{p:List Int→Bool}(h:Cond hold L p):Dat hold∧hold.cells=[hold]∧hold.one=true:=by
 rcases h.out with⟨rfl,_⟩|⟨g,caps,rfl,h1,_⟩
 ·exact⟨.nilf,rfl,rfl⟩
 ·exact⟨Dat.func h1,rfl,rfl⟩
theorem oD{a b:Int}(h:a=b):some [AV.int .i64 a]=some [AV.int .i64 b]:=by rw[h]
theorem AP(n v limit:Nat)(hn:1≤n∧n≤1000)(hv:1≤v∧v≤1000)(hl:limit≤1000000)(hold:AV)(p:List Int→Bool)(hc:Cond hold (every n v) p):
    pU 75 [.int .i64 n,.int .i64 v,hold,.int .i64 limit] (.int .i64 ((min (cnt (every n v) p) (limit+1):Nat):Int)):=by
 refine pO C9 ?_;simp only[b75,ay];obtain⟨hd,hcell,hone⟩:=hc.dat;have zz:=aI @hcell @hone;repeat' (first|refine zW ?_|apply a_n|refine zO ?_|refine vZ ?_|refine cZ ?_ (hp:=by exact ud _ _)|refine alZ ?_|refine bxZ ?_|refine stZ ?_|fail)
 refine jq 3 4 rfl rfl ev0 (fun c0 cj hy=>?_)
 refine Abs.Fn.mono (p9 hn hv (fun k H nx=>4 ≤ nx∧H 0=some [hold]∧H 1=some [.int .i64 limit]∧H 2=some [.int .i64 (cnt ((every n v).take k) p)]∧H 3=some [c0]∧cnt ((every n v).take k) p ≤ limit)
  (fun H nx=>H 3=some [cj (.exit 0)]∧H 2=some [.int .i64 ((limit+1:Nat):Int)]∧limit<cnt (every n v) p) ?_ ?_ ?_) ?_
 ·rintro k H H' a b ⟨h5,h0,h1,h2,h3,hle⟩ hab _ hs;exact⟨by omega,(hs 0 (by omega) (by omega)).trans h0,(hs 1 (by omega) (by omega)).trans h1,(hs 2 (by omega) (by omega)).trans h2,(hs 3 (by omega) (by omega)).trans h3,hle⟩
 ·exact⟨aM _,rfl,rfl,rfl,rfl,cu _⟩
 ·rintro k H nx hk ⟨h5,h0,h1,h2,h3,hle⟩ hnx hH;refine hy _ _ _ _ h3 rfl ?_;clear zz;clear hy;have hmem:(every n v).getD k []∈every n v:=an (l:=every n v) hk;have hlen:=eG n v _ hmem;have htk:(every n v).take (k+1)=(every n v).take k++[(every n v).getD k []]:=bN hk;have hsn:=x3 ((every n v).take k) p ((every n v).getD k []);rw[←htk] at hsn;have hmo:=oG (every n v) p (k+1);rcases hc.out with⟨rfl,hp⟩|⟨g,caps,rfl,hcd,hg⟩
  ·have zz:=aI @h0 (aI @h1 (aI @h2 @h3));repeat' (first|apply a_n|refine zO ?_|refine vZ ?_|fail)
   refine⟨h3,?_⟩;clear zz;have zz:=aI @h0 (aI @h1 (aI @h2 @h3));repeat' (first|refine zW ?_|apply a_n|apply a_x|refine zO ?_|refine vZ ?_|refine stZ ?_|refine gFZ ?_|refine cTZ ?_|(refine zGZ ?_ ?_<;>(intro _hg;try (exfalso;omega)))|fail)
   all_goals rw[hp,if_pos rfl] at hsn
   ·exact .inr ⟨rfl,rfl,oD (by omega),by omega⟩
   ·exact .inl ⟨rfl,⟨by omega,h0,h1,oD (by omega),rfl,by omega⟩,by omega,aM _,rfl⟩
  ·have zz:=aI @h0 (aI @h1 (aI @h2 @h3));repeat' (first|apply a_n|refine zO ?_|refine vZ ?_|fail)
   refine⟨h3,?_⟩;clear zz;have zz:=aI @h0 (aI @h1 (aI @h2 @h3));repeat' (first|refine zW ?_|apply a_n|refine zO ?_|refine vZ ?_|refine gTZ ?_|fail)
   refine co (have zz:=@h0;evZ) ev0 (hg _ hmem) (ak (ap (cV (have zz:=@hH;evZ) rfl hlen) (av hcd)) rfl) ?_;clear zz;have zz:=aI @h0 (aI @h1 (aI @h2 @h3));repeat' (first|refine zW ?_|apply a_n|apply a_x|refine zO ?_|refine vZ ?_|refine stZ ?_|(refine zGZ ?_ ?_<;>(intro _hg;try (exfalso;omega)))|fail)
   ·rename_i hg1;rw[hg1,if_pos rfl] at hsn;exact .inr ⟨rfl,rfl,oD (by omega),by omega⟩
   ·rename_i hg1;rw[hg1,if_pos rfl] at hsn;exact .inl ⟨rfl,⟨by omega,h0,h1,oD (by omega),rfl,by omega⟩,by omega,aM _,rfl⟩
   ·rename_i hg1;rw[hg1,if_neg (by simp)] at hsn;exact .inl ⟨rfl,⟨by omega,h0,h1,h2.trans (oD (by omega)),rfl,by omega⟩,by omega,aM _,rfl⟩
 ·rintro r H nx (⟨h3,h2,hgt⟩|⟨h5,h0,h1,h2,h3,hle⟩)
  ·right;refine⟨.exit 0,by simp,h3,?_⟩;clear zz;have zz:=@h2;repeat' (first|refine zW ?_|apply a_n|refine zO ?_|refine vZ ?_|refine ae rfl ?_|refine r1Z ?_|fail)
   exact aR (by omega)
  ·left;refine⟨h3,?_⟩;clear zz;have zz:=@h2;repeat' (first|refine zW ?_|apply a_n|refine zO ?_|refine vZ ?_|refine ae rfl ?_|refine r1Z ?_|fail)
   rw[jz (aM _)] at hle ⊢;exact aR (by omega)
end Go.Proofs.YtcbkggfipdldaaaGreat.Lb
namespace Go.Proofs.YtcbkggfipdldaaaGreat.Lb
open Go Go.Abs
attribute [local irreducible] aG al bh a7 aV aU aB aX a9 bt Go.Abs.Fn aZ Go.Abs.Pure ax aO Yl
structure CaseV where
 inp:List Int
 out:List (List Int)
 calm:List (List Int)
 deriving Inhabited,DecidableEq
structure TaskV where
 n:Int
 ins:Int
 outs:Int
 cases:List CaseV
 deriving Inhabited,DecidableEq
def eb(c:CaseV):AV:=.agg [aC c.inp,bd c.out,bd c.calm]
def encCs(l:List CaseV):AV:=.sl 3 (l.map eb)
def encT(t:TaskV):AV:=.agg [.int .i64 t.n,.int .i64 t.ins,.int .i64 t.outs,encCs t.cases]
def T00:TaskV:=⟨0,0,0,[]⟩
structure KindV where
 n:Nat
 ins:Nat
 outs:Nat
 hasC:Bool
 pc:List Int→Bool
 pa:List Int→List Int→Bool
 pm:List Int→List Int→Bool
def caseOf(k:KindV)(i:List Int):CaseV:=⟨i,(every k.n k.outs).filter (k.pa i),(every k.n k.outs).filter fun o=>k.pa i o&&k.pm i o⟩
def casesOf(k:KindV)(l:List (List Int)):List CaseV:=(l.filter k.pc).map (caseOf k)
def taskOf(k:KindV):TaskV×Int:=
 if cnt (every k.n k.ins) k.pc=0 then(T00,16) else if k.hasC=true∧k.outs<k.n then(T00,16) else if 1024<cnt (every k.n k.ins) k.pc then(T00,17) else
 if (casesOf k (every k.n k.ins)).any (fun c=>decide (1024<c.out.length)) then(T00,17) else(⟨k.n,k.ins,k.outs,casesOf k (every k.n k.ins)⟩,0)
structure Cond2(f:AV)(L M:List (List Int))(p:List Int→List Int→Bool):Prop where
 out:∃g caps,f=.func g caps∧(∀c∈caps,Dat c)∧∀x∈L,∀y∈M,pU g (aC x::aC y::caps) (.bool (p x y))
theorem Cond2.dat{f:AV}{L M:List (List Int)}{p:List Int→List Int→Bool}(h:Cond2 f L M p):Dat f∧f.cells=[f]∧f.one=true:=by
 obtain⟨g,caps,rfl,h1,_⟩:=h.out;exact⟨Dat.func h1,rfl,rfl⟩
theorem eI{H:Hp}(e:Int):Snap H (.tup [.agg [.int .i64 0,.int .i64 0,.int .i64 0,.esl],.int .i64 e]) (.tup [encT T00,.int .i64 e]):=by
 refine gP (ap (jk ?_) (ap (.int _ _) ai));exact ap (.int _ _) (ap (.int _ _) (ap (.int _ _) (ap (.eslsl 3) ai)))
def rV(k:KindV)(kc:List AV)(cs:List CaseV)(H:Hp)(nx:Nat):Prop:=5≤nx∧H 0=some kc∧H 1=some [.int .i64 0,.int .i64 0,.int .i64 0,.esl]∧H 2=some [.int .i64 0]∧
 ∃s,H 3=some [.int .i64 k.n,.int .i64 k.ins,.int .i64 k.outs,s]∧Row H 3 s ((cs.map eb).flatMap AV.cells)∧(∀b,cH s=some b→6≤b∧b<nx)∧∀c∈cs,c.out.length≤1024
theorem rV.stab{k:KindV}{kc:List AV}{cs:List CaseV}{H H':Hp}{nx nx':Nat}(h:rV k kc cs H nx)(hn:nx≤nx')(hs:∀i,i<nx→i≠5→i≠4→H' i=H i):rV k kc cs H' nx':=by
 obtain⟨h5,h0,h1,h2,s,h3,hr,hb,hc⟩:=h;refine⟨by omega,(hs 0 (by omega) (by omega) (by omega)).trans h0,(hs 1 (by omega) (by omega) (by omega)).trans h1,(hs 2 (by omega) (by omega) (by omega)).trans h2,s,(hs 3 (by omega) (by omega) (by omega)).trans h3,hr.same (fun b hb'=>?_),fun b hb'=>?_,hc⟩
 ·have:=hb b hb';exact hs b (by omega) (by omega) (by omega)
 ·have:=hb b hb';omega
def InI(k:KindV)(A:Hp)(a:Nat)(vec:List Int)(outs calm:List (List Int))(H:Hp)(nx:Nat):Prop:=a+3≤nx∧(∀x,x<a→x≠4→H x=A x)∧H a=some [.msl 5 k.n 1 0 k.n]∧
 ∃so sc,H (a+1)=some [aC vec,so,sc]∧Row H 1 so (outs.map aC)∧Row H 1 sc (calm.map aC)∧(∀b,cH so=some b→a+4≤b∧b<nx)∧(∀b,cH sc=some b→a+4≤b∧b<nx)∧(∀b,cH so=some b→cH sc≠some b)∧outs.length≤1024∧calm.length≤outs.length
theorem InI.stab{k:KindV}{A:Hp}{a:Nat}{vec:List Int}{outs calm:List (List Int)}{H H':Hp}{nx nx':Nat}(h:InI k A a vec outs calm H nx)(hn:nx≤nx')(hs:∀i,i<nx→i≠a+2→i≠a+3→H' i=H i):InI k A a vec outs calm H' nx':=by
 obtain⟨h1,h2,h3,so,sc,h4,h5,h6,h7,h8,h9,h10⟩:=h;refine⟨by omega,fun x hx h4'=>(hs x (by omega) (by omega) (by omega)).trans (h2 x hx h4'),(hs a (by omega) (by omega) (by omega)).trans h3,so,sc,(hs (a+1) (by omega) (by omega) (by omega)).trans h4,h5.same (fun b hb=>?_),h6.same (fun b hb=>?_),fun b hb=>?_,fun b hb=>?_,h9,h10⟩
 ·have:=h7 b hb;exact hs b (by omega) (by omega) (by omega)
 ·have:=h8 b hb;exact hs b (by omega) (by omega) (by omega)
 ·have:=h7 b hb;omega
 ·have:=h8 b hb;omega
theorem InI.put1{k:KindV}{A D E:Hp}{a d e:Nat}{vec w:List Int}{outs calm:List (List Int)}{so sc s2 c1:AV}(q:a+4≤d)(r2:∀x,x<a→x≠4→D x=A x)(r3:D a=some [.msl 5 k.n 1 0 k.n])
    (r6:Row D 1 sc (calm.map aC)) (r7:∀b,cH so=some b→a+4≤b∧b<d) (r8:∀b,cH sc=some b→a+4≤b∧b<d) (r9:∀b,cH so=some b→cH sc≠some b) (r10:outs.length<1024) (r11:calm.length≤outs.length)
    (hrow:Row E 1 s2 (outs.map aC++[aC w])) (hle:d≤e) (hs:∀i,i<d→i≠a+2→cH so≠some i→E i=D i) (hb:∀b,cH s2=some b→cH so=some b∨d≤b∧b<e):
    InI k A a vec (outs++[w]) calm (am (am E (a+1) [aC vec,s2,sc]) (a+2) [c1]) e∧E (a+3)=D (a+3):=by
 have hf:∀x,x<a+4→x≠a+2→E x=D x:=fun x hx h2=>hs x (by omega) h2 (fun h=>by have:=r7 x h;omega)
 have h4:∀b,cH s2=some b→a+4≤b∧b<e:=fun b h=>by
  rcases hb b h with h|h
  ·have:=r7 b h;omega
  ·omega
 refine⟨⟨by omega,fun x hx h=>?_,?_,s2,sc,?_,?_,?_,h4,fun b h=>?_,fun b h h'=>?_,by simp;omega,by simp;omega⟩,hf _ (by omega) (by omega)⟩
 ·rw[af (by omega),af (by omega),hf x (by omega) (by omega),r2 x hx h]
 ·rw[af (by omega),af (by omega),hf a (by omega) (by omega),r3]
 ·rw[af (by omega),aj]
 ·rw[hU];refine hrow.same fun b h=>?_;have:=h4 b h;rw[af (by omega),af (by omega)]
 ·refine r6.same fun b h=>?_;have:=r8 b h;rw[af (by omega),af (by omega)];exact hs b (by omega) (by omega) (fun h'=>r9 b h' h)
 ·have:=r8 b h;omega
 ·rcases hb b h with h2|h2
  ·exact r9 b h2 h'
  ·have:=r8 b h';omega
theorem InI.put2{k:KindV}{A D E:Hp}{a d e:Nat}{vec w:List Int}{outs calm:List (List Int)}{so sc s2 c1:AV}(q:a+4≤d)(r2:∀x,x<a→x≠4→D x=A x)(r3:D a=some [.msl 5 k.n 1 0 k.n])
    (r5:Row D 1 so (outs.map aC)) (r7:∀b,cH so=some b→a+4≤b∧b<d) (r8:∀b,cH sc=some b→a+4≤b∧b<d) (r9:∀b,cH so=some b→cH sc≠some b) (r10:outs.length≤1024) (r11:calm.length<outs.length)
    (hrow:Row E 1 s2 (calm.map aC++[aC w])) (hle:d≤e) (hs:∀i,i<d→i≠a+2→cH sc≠some i→E i=D i) (hb:∀b,cH s2=some b→cH sc=some b∨d≤b∧b<e):
    InI k A a vec outs (calm++[w]) (am (am E (a+1) [aC vec,so,s2]) (a+2) [c1]) e∧E (a+3)=D (a+3):=by
 have hf:∀x,x<a+4→x≠a+2→E x=D x:=fun x hx h2=>hs x (by omega) h2 (fun h=>by have:=r8 x h;omega)
 have h4:∀b,cH s2=some b→a+4≤b∧b<e:=fun b h=>by
  rcases hb b h with h|h
  ·have:=r8 b h;omega
  ·omega
 refine⟨⟨by omega,fun x hx h=>?_,?_,so,s2,?_,?_,?_,fun b h=>?_,h4,fun b h h'=>?_,by omega,by simp;omega⟩,hf _ (by omega) (by omega)⟩
 ·rw[af (by omega),af (by omega),hf x (by omega) (by omega),r2 x hx h]
 ·rw[af (by omega),af (by omega),hf a (by omega) (by omega),r3]
 ·rw[af (by omega),aj]
 ·refine r5.same fun b h=>?_;have:=r7 b h;rw[af (by omega),af (by omega)];exact hs b (by omega) (by omega) (fun h'=>r9 b h h')
 ·rw[hU];refine hrow.same fun b h=>?_;have:=h4 b h;rw[af (by omega),af (by omega)]
 ·have:=r7 b h;omega
 ·rcases hb b h' with h2|h2
  ·exact r9 b h h2
  ·have:=r7 b h;omega
def dA(B:Nat→Bool)(H:Hp):Hp:=fun b=>if B b=true then H b else none
def rM(B:Nat→Bool)(H:Hp):Hp:=fun b=>if B b=true then none else H b
theorem cK.nil{Hf:Hp}:cK Hf [] []:=cK.refl _ _
theorem cK.cons{Hf:Hp}{x x':AV}{cs cs':List AV}(h:x'=x∨Snap Hf x x')(h2:cK Hf cs cs'):cK Hf (x::cs) (x'::cs'):=by
 refine⟨by simp[h2.1],fun i y y' e1 e2=>?_⟩;cases i with
 |zero=>simp at e1 e2;subst e1 e2;exact h
 |succ i=>simp at e1 e2;exact h2.2 i y y' e1 e2
theorem Fz.put{H:Hp}{B:Nat→Bool}{x:Nat}{cs cs':List AV}(hx:B x=false)(h:H x=some cs)(hc:cK (dA B H) cs cs'):Fz (dA B H) H (am (rM B H) x cs'):=by
 refine⟨fun b c hb=>?_,fun b c hb=>?_⟩
 ·unfold dA at hb;split at hb
  ·exact hb
  ·cases hb
 ·by_cases e:b=x
  ·subst e;rw[aj] at hb;cases hb;exact⟨cs,h,by simp[dA,hx],hc⟩
  ·rw[af e] at hb;unfold rM at hb;split at hb
   ·cases hb
   ·rename_i hB;exact⟨c,hb,by simp[dA,hB],cK.refl _ _⟩
theorem x5{B:Nat→Bool}{H:Hp}{x:Nat}(h:B x=false):rM B H x=H x:=by simp[rM,h]
theorem sP{H:Hp}{sz:Nat}{s:AV}{cs:List AV}{B:Nat→Bool}(h:Row H sz s cs)(hb:∀b,cH s=some b→B b=true):Row (dA B H) sz s cs:=h.same fun b e=>by simp[dA,hb b e]
theorem j8{H:Hp}{d:Nat}{x y z:AV}:ee 3 (am H d [x,y,z]) (.msl d 3 3 0 1)=some (1,[x,y,z]):=jc (n:=3) (len:=1) (off:=0) (cs:=[x,y,z]) aj rfl (by simp)
theorem iV{H:Hp}{d:Nat}{x:AV}:ee 1 (am H d [x]) (.msl d 1 1 0 1)=some (1,[x]):=jc (n:=1) (len:=1) (off:=0) (cs:=[x]) aj rfl (by simp)
theorem Af(k:KindV)(hn:1≤k.n∧k.n≤5)(hi:1≤k.ins∧k.ins≤8)(ho:1≤k.outs∧k.outs≤8)(kk:Int)(hk:kk=-1∨1≤kk∧kk≤k.n)(fc fa fm:AV)
    (hc:Cond fc (every k.n k.ins) k.pc) (hcc:k.hasC=true↔fc≠.nilf) (ha:Cond2 fa (every k.n k.ins) (every k.n k.outs) k.pa) (hm:(fm=.nilf∧∀x y,k.pm x y=false)∨Cond2 fm (every k.n k.ins) (every k.n k.outs) k.pm):
    pU 34 [.agg [.int .i64 k.n,.int .i64 k.ins,.int .i64 k.outs,.int .i64 kk,fc,fa,fm]] (.tup [encT (taskOf k).1,.int .i64 (taskOf k).2]):=by
 refine pO Br ?_;simp only[b34,ay];obtain⟨hd1,hc1,ho1⟩:=hc.dat;obtain⟨hd2,hc2,ho2⟩:=ha.dat
 have hd3:Dat fm∧fm.cells=[fm]∧fm.one=true:=by
  rcases hm with⟨rfl,_⟩|hm
  ·exact⟨.nilf,rfl,rfl⟩
  ·exact hm.dat
 obtain⟨hd3,hc3,ho3⟩:=hd3
 have hfc:∀tb,bb .neq tb true fc .nilf=some (.bool k.hasC):=by
  rcases hc.out with⟨rfl,_⟩|⟨g,caps,rfl,_⟩
  ·have:k.hasC=false:=by cases h:k.hasC with|false=>rfl|true=>exact absurd rfl (hcc.1 h)
   intro tb;rw[this];rfl
  ·have:k.hasC=true:=hcc.2 (by simp);intro tb;rw[this];rfl
 have hH0:∃H0:Hp,H0=am (am (am bA 0 [.int .i64 k.n,.int .i64 k.ins,.int .i64 k.outs,.int .i64 kk,fc,fa,fm]) 1 [.int .i64 0,.int .i64 0,.int .i64 0,.esl]) 2 [.int .i64 0]:=⟨_,rfl⟩
 obtain⟨H0,hH0⟩:=hH0;have g0:H0 0=some [.int .i64 k.n,.int .i64 k.ins,.int .i64 k.outs,.int .i64 kk,fc,fa,fm]:=by rw[hH0];rfl
 have g1:H0 1=some [.int .i64 0,.int .i64 0,.int .i64 0,.esl]:=by rw[hH0];rfl
 have g2:H0 2=some [.int .i64 0]:=by rw[hH0];rfl
 have gn:∀i,3≤i→H0 i=none:=by intro i hi;rw[hH0,af (by omega),af (by omega),af (by omega)];rfl
 refine cC ?_;have zz:=aI @ho1 (aI @ho2 @ho3);repeat' (first|apply a_n|refine zO ?_|refine alZ ?_|refine bxZ ?_|fail)
 refine aQ (fun T H nx=>H=H0∧nx=3∧T 1=.ptr 0 7 0∧T 2=.ptr 1 4 0∧T 3=.ptr 2 1 0) ?_ ?_
 ·clear zz;clear g0 g1 g2 gn;have zz:=aI @ho1 (aI @ho2 @ho3);repeat' (first|refine zW ?_|apply a_n|refine zO ?_|refine vZ ?_|refine cZ ?_ (hp:=by exact lk _ _ _)|refine gTZ ?_|refine gFZ ?_|refine cFZ ?_|(refine zGZ ?_ ?_<;>(intro _hg;try (exfalso;omega)))|fail)
  all_goals exact⟨hH0.symm,rfl,rfl,rfl,rfl⟩
 ·rintro T H nx ⟨rfl,rfl,t1,t2,t3⟩;clear zz;clear hH0;refine aQ (fun T H' nx=>H'=H∧nx=3∧T 1=.ptr 0 7 0∧T 2=.ptr 1 4 0∧T 3=.ptr 2 1 0∧0<cnt (every k.n k.ins) k.pc∧cnt (every k.n k.ins) k.pc≤1024∧¬(k.hasC=true∧k.outs<k.n)) ?_ ?_
  ·have zz:=aI @t1 (aI @t2 (aI @t3 (aI @g0 (aI @g1 (aI @g2 (aI @hfc (aI @ho1 (aI @ho2 @ho3))))))));repeat' (first|refine zW ?_|apply a_n|apply a_r|refine zO ?_|refine vZ ?_|refine cZ ?_ (hp:=by exact AP _ _ 1024 (by omega) (by omega) (by omega) _ _ hc)|refine stZ ?_|refine gTZ ?_|refine gFZ ?_|refine cFZ ?_|(refine zGZ ?_ ?_<;>(intro _hg;try (exfalso;omega)))|refine ae rfl ?_|refine r2Z ?_|fail)
   ·have e:taskOf k=(T00,16):=by unfold taskOf;rw[if_pos (by omega)]
    rw[e];exact eI 16
   ·have e:taskOf k=(T00,16):=by unfold taskOf;rw[if_neg (by omega),if_pos ⟨by assumption,by omega⟩]
    rw[e];exact eI 16
   ·have e:taskOf k=(T00,17):=by unfold taskOf;rw[if_neg (by omega),if_neg (fun h=>by omega),if_pos (by omega)]
    rw[e];exact eI 17
   ·exact⟨rfl,rfl,t1,t2,t3,by omega,by omega,fun h=>by omega⟩
   ·have e:taskOf k=(T00,17):=by unfold taskOf;rw[if_neg (by omega),if_neg (fun h=>by simp_all),if_pos (by omega)]
    rw[e];exact eI 17
   ·exact⟨rfl,rfl,t1,t2,t3,by omega,by omega,fun h=>by simp_all⟩
  ·clear t1 t2 t3;rintro T H' nx ⟨rfl,rfl,t1,t2,t3,c1,c2,c3⟩;refine cC ?_;have zz:=aI @t1 (aI @t2 (aI @t3 (aI @g0 (aI @g1 (aI @g2 (aI @ho1 (aI @ho2 @ho3)))))));repeat' (first|apply a_n|refine zO ?_|refine vZ ?_|refine alZ ?_|refine stZ ?_|fail)
   have hlc:∀l:List CaseV,(∀y∈l.map eb,y.cells.length=3):=by
    intro l y hy;simp at hy;obtain⟨c,_,rfl⟩:=hy;rfl
   have hmany:∀i,((casesOf k ((every k.n k.ins).take i)).length≤1024):=by
    intro i;unfold casesOf;rw[dM];exact fR (oG _ _ i) c2
   refine aQ (fun T' H' nx'=>T' 2=.ptr 1 4 0∧T' 3=.ptr 2 1 0∧T' 5=.ptr 3 4 0∧H' 1=some [.int .i64 0,.int .i64 0,.int .i64 0,.esl]∧H' 2=some [.int .i64 0] ∧
    ∃s,H' 3=some [.int .i64 k.n,.int .i64 k.ins,.int .i64 k.outs,s]∧Row H' 3 s (((casesOf k (every k.n k.ins)).map eb).flatMap AV.cells)∧(∀b,cH s=some b→6≤b)∧∀c∈casesOf k (every k.n k.ins),c.out.length≤1024) ?_ ?_
   rotate_left
   ·rintro T' H' nx' ⟨u2,u3,u5,e1,e2,s,e3,hrow,hb6,hall⟩;obtain⟨hso,hsc⟩:=hrow.one;clear zz;have zz:=aI @u2 (aI @u3 (aI @u5 (aI @e1 (aI @e2 (aI @e3 (aI @hso @hsc))))));repeat' (first|refine zW ?_|apply a_n|refine zO ?_|refine vZ ?_|refine stZ ?_|refine ae rfl ?_|refine r2Z ?_|fail)
    have e:taskOf k=(⟨k.n,k.ins,k.outs,casesOf k (every k.n k.ins)⟩,0):=by
     unfold taskOf;rw[if_neg (by omega),if_neg c3,if_neg (by omega),if_neg];rw[jB];rintro⟨c,hc1,hc2⟩;have:=hall c hc1;simp at hc2;omega
    rw[e];refine gP (ap (jk ?_) (ap (.int _ _) ai));refine ap (.int _ _) (ap (.int _ _) (ap (.int _ _) (ap ?_ ai)));refine Row.snap (hrow.same fun b hb=>?_) (hlc _) (by omega) (fun y hy c hc'=>?_)
    ·have:=hb6 b hb;rw[af (by omega),af (by omega)]
    ·simp at hy;obtain⟨q,_,rfl⟩:=hy;simp only[eb,AV.cells,fo,List.not_mem_nil,or_false] at hc';rcases hc' with rfl|rfl|rfl
     ·exact bw _
     ·exact bi _
     ·exact bi _
   refine cC ?_;clear zz;have zz:=aI @t1 (aI @t2 (aI @t3 (aI @g0 (aI @g1 (aI @g2 (aI @ho1 (aI @ho2 @ho3)))))));repeat' (first|apply a_n|refine zO ?_|refine vZ ?_|refine cZ ?_ (hp:=by exact ud _ _)|fail)
   refine dg ?_;refine jq 4 5 rfl rfl ev0 (fun c0 cj hy=>?_)
   have hL:∀i,i<(every k.n k.ins).length→casesOf k ((every k.n k.ins).take (i+1))=casesOf k ((every k.n k.ins).take i)++(if k.pc ((every k.n k.ins).getD i [])=true then [caseOf k ((every k.n k.ins).getD i [])] else []):=by
    intro i hi;have:(every k.n k.ins).take (i+1)=(every k.n k.ins).take i++[(every k.n k.ins).getD i []]:=bN hi;rw[this];unfold casesOf;rw[nU,hU]
    congr 1
    simp only[List.filter_cons,List.filter_nil];split<;>rfl
   generalize hkc:[AV.int .i64 k.n,.int .i64 k.ins,.int .i64 k.outs,.int .i64 kk,fc,fa,fm]=kc at *
   refine Abs.Fn.mono (p9 (by omega) (by omega) (fun i H' nx=>rV k kc (casesOf k ((every k.n k.ins).take i)) H' nx∧H' 4=some [c0])
    (fun H' nx=>H' 4=some [cj .ret]∧H' 1=some [.int .i64 0,.int .i64 0,.int .i64 0,.esl]∧H' 2=some [.int .i64 17]∧∃c∈casesOf k (every k.n k.ins),1024<c.out.length) ?_ ?_ ?_) ?_
   ·rintro i A B a b ⟨h1,h2⟩ hab _ hs;exact⟨h1.stab hab (fun i hi h5 _=>hs i hi h5),(hs 4 (by have:=h1.1;omega) (by omega)).trans h2⟩
   ·exact⟨⟨aM _,g0,g1,g2,.esl,rfl,Row.nil,fun b hb=>(by cases hb),fun c hc=>(by cases hc)⟩,rfl⟩
   ·rintro i A a hi ⟨hI,h4⟩ hn5 hA;refine hy _ _ _ _ h4 rfl ?_;clear zz;clear hy;have hmem:(every k.n k.ins).getD i []∈every k.n k.ins:=an (l:=every k.n k.ins) hi;have hvl:=eG k.n k.ins _ hmem;have hLi:=hL i hi;generalize (every k.n k.ins).getD i []=vec at hA hmem hvl hLi;have h5:=hI.1;obtain⟨_,i0,i1,i2,s,i3,ir,ib,ic⟩:=hI;have hI:rV k kc (casesOf k ((every k.n k.ins).take i)) A a:=⟨h5,i0,i1,i2,s,i3,ir,ib,ic⟩
    have zz:=aI @i0 (aI @i1 (aI @i2 (aI @i3 (aI @h4 @hA))));repeat' (first|apply a_n|refine zO ?_|refine alY ?_|refine stY ?_|fail)
    refine⟨by rw[af (by omega),af (by omega)];exact h4,?_⟩;refine dg ?_;refine aQ (fun T' H' nx=>(∀x,x≠a→x≠4→H' x=A x)∧H' a=some [.msl 5 k.n 1 0 k.n]∧nx=a+1∧T' 1=.ptr 0 7 0∧T' 2=.ptr 1 4 0∧T' 3=.ptr 2 1 0∧T' 5=.ptr 3 4 0∧T' 6=.ptr a 1 0∧k.pc vec=true) ?_ ?_
    ·have hfr:∀x,x≠a→x≠4→dv (am (am A a [AV.esl]) a (bv [AV.esl] 0 [AV.msl 5 k.n 1 0 k.n])) 4 x=A x:=fun x h1 h2=>by
       rw[dh h2,af h1,af h1]
     have hself:dv (am (am A a [AV.esl]) a (bv [AV.esl] 0 [AV.msl 5 k.n 1 0 k.n])) 4 a=some [.msl 5 k.n 1 0 k.n]:=by
      rw[dh (by omega),aj];rfl
     generalize dv (am (am A a [AV.esl]) a (bv [AV.esl] 0 [AV.msl 5 k.n 1 0 k.n])) 4=B at hfr hself;have b0:=(hfr 0 (by omega) (by omega)).trans i0;have b5:=(hfr 5 (by omega) (by omega)).trans hA;rw[←hkc] at b0;rcases hc.out with⟨rfl,hp⟩|⟨g,caps,rfl,hcd,hg⟩
     ·clear zz;have zz:=aI @t1 (aI @t2 (aI @t3 (aI @b0 @hself)));repeat' (first|refine zW ?_|apply a_n|refine zO ?_|refine vZ ?_|refine gFZ ?_|refine cFZ ?_|fail)
      exact⟨hfr,hself,rfl,t1,t2,t3,rfl,rfl,hp _⟩
     ·clear zz;have zz:=aI @t1 (aI @t2 (aI @t3 (aI @b0 @hself)));repeat' (first|refine zW ?_|apply a_n|refine zO ?_|refine vZ ?_|refine gTZ ?_|fail)
      refine co ev0 ev0 (hg _ hmem) (ak (ap (cV b5 rfl hvl) (av hcd)) rfl) ?_;clear zz;have zz:=aI @t1 (aI @t2 (aI @t3 (aI @b0 @hself)));repeat' (first|apply a_n|apply a_x|refine zO ?_|refine vZ ?_|refine gTZ ?_|(refine zGZ ?_ ?_<;>(intro _hg;try (exfalso;omega)))|fail)
      ·refine .inl ⟨rfl,⟨?_,aj⟩,by omega,by omega,(af (by omega)).trans (hfr 5 (by omega) (by omega))⟩;rw[hLi,_hg,if_neg (by simp),lg];exact hI.stab (by omega) (fun x hx _ h4=>(af h4).trans (hfr x (by omega) h4))
      ·exact⟨hfr,hself,rfl,t1,t2,t3,rfl,rfl,_hg⟩
    ·rintro T' B b ⟨hfr,hself,rfl,u1,u2,u3,u5,u6,hpc⟩;clear zz;clear t1 t2 t3;have b0:=(hfr 0 (by omega) (by omega)).trans i0;have b1:=(hfr 1 (by omega) (by omega)).trans i1;have b2:=(hfr 2 (by omega) (by omega)).trans i2;have b3:=(hfr 3 (by omega) (by omega)).trans i3;have b5:=(hfr 5 (by omega) (by omega)).trans hA;rw[←hkc] at b0;have hsv:Sh vec:=by show _≤_;omega
     refine cC ?_;have zz:=aI @u1 (aI @u2 (aI @u3 (aI @u5 (aI @u6 @hself))));repeat' (first|apply a_n|refine zO ?_|refine vY ?_|fail)
     refine mR ev0 ev0 (ko vec hsv) (ap (cV b5 rfl hvl) ai) ?_;clear zz;have zz:=aI @u1 (aI @u2 (aI @u3 (aI @u5 (aI @u6 @hself))));repeat' (first|apply a_n|refine zO ?_|refine vY ?_|refine alY ?_|refine stY ?_|fail)
     have hC:∃C:Hp,C=am (am B (a+1) [AV.esl,AV.esl,AV.esl]) (a+1) (bv [AV.esl,AV.esl,AV.esl] 0 [aC vec,.esl,.esl]):=⟨_,rfl⟩
     obtain⟨C,hC⟩:=hC;have hCf:∀x,x≠a+1→C x=B x:=fun x hx=>by rw[hC,af hx,af hx]
     have hCs:C (a+1)=some [aC vec,.esl,.esl]:=by rw[hC,aj];rfl
     have d0:=(hCf 0 (by omega)).trans b0
     have hpa:∀j,((every k.n k.outs).take (j+1))=(every k.n k.outs).take j++(if j<(every k.n k.outs).length then [(every k.n k.outs).getD j []] else []):=by
      intro j;by_cases hj:j<(every k.n k.outs).length
      ·rw[if_pos hj];exact bN hj
      ·rw[if_neg hj,jz (by omega),jz (by omega),lg]
     refine aQ (fun T' H' nx'=>T' 5=.ptr 3 4 0∧T' 7=.ptr (a+1) 3 0∧InI k A a vec (caseOf k vec).out (caseOf k vec).calm H' nx') ?_ ?_
     rotate_left
     ·clear zz;clear u1 u2 u3 u5 u6;rintro T2 D d ⟨u5,u7,r1,r2,r3,so,sc,r4,r5,r6,r7,r8,r9,r10,r11⟩;have hB:∃B:Nat→Bool,B=fun b=>decide (cH so=some b) || decide (cH sc=some b):=⟨_,rfl⟩
      obtain⟨B1,hB⟩:=hB
      have hBs:∀x,x<a+4→B1 x=false:=fun x hx=>by
       rw[hB,Bool.or_eq_false_iff];exact⟨dN (fun h=>by have:=r7 x h;omega),dN (fun h=>by have:=r8 x h;omega)⟩
      have hk5:=(sP (B:=B1) r5 (fun b h=>by rw[hB];simp[h])).snapV;have hk6:=(sP (B:=B1) r6 (fun b h=>by rw[hB];simp[h])).snapV;have hfz:=Fz.put (hBs (a+1) (by omega)) r4 (cK.cons (.inl rfl) (cK.cons (.inr hk5) (cK.cons (.inr hk6) cK.nil)));have hE:∃E:Hp,E=am (rM B1 D) (a+1) [aC vec,bd (caseOf k vec).out,bd (caseOf k vec).calm]:=⟨_,rfl⟩
      obtain⟨E,hE⟩:=hE;have hE1:E (a+1)=some [aC vec,bd (caseOf k vec).out,bd (caseOf k vec).calm]:=by rw[hE,aj]
      have hEf:∀x,x<a→x≠4→E x=A x:=fun x hx h4=>by rw[hE,af (by omega),x5 (hBs x (by omega)),r2 x hx h4]
      have hE3:=(hEf 3 (by omega) (by omega)).trans i3;rw[←hE] at hfz;refine qX _ _ [(5,.ptr 3 4 0),(7,.ptr (a+1) 3 0)] hfz ⟨.inl u5,.inl u7,trivial⟩ ?_;obtain⟨s1,s2⟩:=ir.one;have zz:=aI @hE3 @hE1;repeat' (first|apply a_n|refine zO ?_|refine vY ?_|refine blY ?_|fail)
      have hfl:=(c9 ((casesOf k ((every k.n k.ins).take i)).map eb) (hlc _)).1;rw[dM] at hfl;have:=hmany i;refine pn rfl ev0 (ir.same fun b hb=>?_) ev0 j8 rfl rfl (by omega) (by rw[hfl];omega) (by rw[hfl];omega) ?_
      ·have:=ib b hb;rw[af (by omega),hEf b (by omega) (by omega)]
      rintro s3 F f hrow hle1 hle2 hsame hb2;obtain⟨s31,s32⟩:=hrow.one
      have hsame':∀i,i<a→i≠4→cH s≠some i→F i=A i:=fun i h1 h2 h3=>by
       rw[hsame i (by omega) h3,af (by omega),hEf i h1 h2]
      have hF:∀i,i<6→i≠4→F i=A i:=fun i h1 h2=>hsame' i (by omega) h2 (fun h=>by have:=ib i h;omega);have hF3:=(hF 3 (by omega) (by omega)).trans i3;clear zz;have zz:=aI @hF3 (aI @s31 @s32);repeat' (first|apply a_n|refine zO ?_|refine vY ?_|refine stY ?_|fail)
      rw[hLi,hpc,if_pos rfl];refine .inl ⟨rfl,⟨⟨by omega,?_,?_,?_,s3,?_,?_,?_,?_⟩,aj⟩,by omega,by omega,?_⟩
      ·rw[af (by omega),af (by omega),hF 0 (by omega) (by omega),i0]
      ·rw[af (by omega),af (by omega),hF 1 (by omega) (by omega),i1]
      ·rw[af (by omega),af (by omega),hF 2 (by omega) (by omega),i2]
      ·rw[af (by omega),aj];rfl
      ·rw[hU,List.flatMap_append];refine hrow.same fun b hb=>?_;rcases hb2 b hb with h|h
       ·have:=ib b h;rw[af (by omega),af (by omega)]
       ·rw[af (by omega),af (by omega)]
      ·intro b hb;rcases hb2 b hb with h|h
       ·have:=ib b h;omega
       ·omega
      ·intro c hc;rw[pf,qR] at hc;rcases hc with hc|rfl
       ·exact ic c hc
       ·exact r10
      ·rw[af (by omega),af (by omega),hF 5 (by omega) (by omega)]
     rw[←hC];refine cC ?_;clear zz;have zz:=aI @u1 (aI @u2 (aI @u3 (aI @u5 (aI @u6 @d0))));repeat' (first|apply a_n|refine zO ?_|refine vY ?_|refine cY ?_ (hp:=by exact ud _ _)|fail)
     refine dg ?_;refine jq (a+2) (a+3) (by omega) rfl ev0 (fun c1 cj1 hy1=>?_)
     refine Abs.Fn.mono (p9 (by omega) (by omega) (fun j H' nx=>InI k A a vec (((every k.n k.outs).take j).filter (k.pa vec)) (((every k.n k.outs).take j).filter fun o=>k.pa vec o && k.pm vec o) H' nx∧H' (a + 2)=some [c1])
      (fun H' nx=>H' (a+2)=some [cj1 .ret]∧H' 1=some [.int .i64 0,.int .i64 0,.int .i64 0,.esl]∧H' 2=some [.int .i64 17]∧1024<(caseOf k vec).out.length) ?_ ?_ ?_) ?_
     ·rintro j A1 B1 n1 n2 ⟨q1,q2⟩ hn _ hs;exact⟨q1.stab hn (fun i hi _ h3=>hs i hi h3),(hs (a+2) (by have:=q1.1;omega) (by omega)).trans q2⟩
     ·refine⟨⟨aM _,fun x hx h4=>?_,?_,.esl,.esl,?_,Row.nil,Row.nil,fun b hb=>(by cases hb),fun b hb=>(by cases hb),fun b hb=>(by cases hb),cu _,aM _⟩,aj⟩
      ·rw[af (by omega),hCf x (by omega),hfr x (by omega) h4]
      ·rw[af (by omega),hCf a (by omega),hself]
      ·rw[af (by omega),hCs]
     ·rintro j D d hj ⟨q1,q2⟩ hd4 hDw;refine hy1 _ _ _ _ q2 rfl ?_;clear zz;clear hy1;have hmw:(every k.n k.outs).getD j []∈every k.n k.outs:=an (l:=every k.n k.outs) hj;have hwl:=eG k.n k.outs _ hmw;have htk:=hpa j;rw[if_pos hj] at htk;generalize (every k.n k.outs).getD j []=w at hDw hmw hwl htk;have hsw:Sh w:=by show _≤_;omega
      rw[htk];simp only[nU,List.filter_cons,List.filter_nil]
      have hoj:(((every k.n k.outs).take j).filter (k.pa vec)++(if k.pa vec w=true then [w] else [])).length≤(caseOf k vec).out.length:=by
       have:((every k.n k.outs).take (j+1)).filter (k.pa vec)=((every k.n k.outs).take j).filter (k.pa vec)++(if k.pa vec w=true then [w] else []):=by
        rw[htk,nU];simp only[List.filter_cons,List.filter_nil]
       rw[←this];unfold caseOf;exact oG (every k.n k.outs) (k.pa vec) (j+1)
      generalize ((every k.n k.outs).take j).filter (k.pa vec)=outs at q1 hoj;generalize ((every k.n k.outs).take j).filter (fun o=>k.pa vec o&&k.pm vec o)=calm at q1;have hq1:=q1;obtain⟨r1,r2,r3,so,sc,r4,r5,r6,r7,r8,r9,r10,r11⟩:=q1;have e0:=(r2 0 (by omega) (by omega)).trans i0;have e1:=(r2 1 (by omega) (by omega)).trans i1;have e2:=(r2 2 (by omega) (by omega)).trans i2;have e5:=(r2 5 (by omega) (by omega)).trans hA;rw[←hkc] at e0
      repeat' (first|apply a_n|refine zO ?_|refine vZ ?_|fail)
      refine⟨q2,?_⟩;refine dg ?_;refine aQ (fun T'' H'' nx=>H''=dv D (a+2)∧nx=d∧T'' 1=.ptr 0 7 0∧T'' 2=.ptr 1 4 0∧T'' 3=.ptr 2 1 0∧T'' 6=.ptr a 1 0∧T'' 7=.ptr (a+1) 3 0∧T'' 8=.msl (a+3) k.n 1 0 k.n∧k.pa vec w=true) ?_ ?_
      ·obtain⟨g,caps,hge,hcd,hg⟩:=ha.out;have zz:=aI @u1 (aI @u2 (aI @u3 (aI @u5 (aI @u6 (aI @e0 (aI @e1 (aI @e2 (aI @r3 (aI @r4 @hge)))))))));repeat' (first|refine zW ?_|apply a_n|refine zO ?_|refine vY ?_|fail)
       refine co (have zz:=@hge;evY) ev0 (hg _ hmem _ hmw) (ak (ap (cV ((dh (by omega)).trans e5) rfl hvl) (ap (cV ((dh (by omega)).trans hDw) rfl hwl) (av hcd))) rfl) ?_;clear zz;have zz:=aI @u1 (aI @u2 (aI @u3 (aI @u5 (aI @u6 (aI @e0 (aI @e1 (aI @e2 (aI @r3 (aI @r4 @hge)))))))));repeat' (first|apply a_n|apply a_x|refine zO ?_|refine vY ?_|(refine zGY ?_ ?_<;>(intro _hg;try (exfalso;omega)))|fail)
       ·refine .inl ⟨trivial,⟨?_,aj⟩,by omega,aM _,(af (by omega)).trans (dh (by omega))⟩;simp only[_hg,Bool.false_and,cI,if_false,lg];exact hq1.stab (aM _) (fun x hx h2 h3=>(af h2).trans (dh h2))
       ·exact⟨rfl,rfl,u1,u2,u3,u6,rfl,rfl,_hg⟩
      ·rintro T2 _ d ⟨rfl,rfl,v1,v2,v3,v6,v7,v8,hpw⟩;simp only[hpw,if_true,Bool.true_and] at hoj ⊢;have hlen:=Row.lenS (n:=outs.length) r5 (by simp) ru;obtain⟨so1,so2⟩:=r5.one;obtain⟨sc1,sc2⟩:=r6.one;refine aQ (fun T'' H'' nx=>H''=dv D (a+2)∧nx=d∧T'' 1=.ptr 0 7 0∧T'' 6=.ptr a 1 0∧T'' 7=.ptr (a+1) 3 0∧T'' 8=.msl (a+3) k.n 1 0 k.n∧outs.length<1024) ?_ ?_
       ·have zz:=aI @v1 (aI @v2 (aI @v3 (aI @v6 (aI @v7 (aI @v8 (aI @e0 (aI @e1 (aI @e2 (aI @r3 (aI @r4 @hlen))))))))));repeat' (first|refine zW ?_|apply a_n|apply a_r|refine zO ?_|refine vY ?_|refine stY ?_|(refine zGY ?_ ?_<;>(intro _hg;try (exfalso;omega)))|fail)
        ·refine .inr ⟨trivial,aj,?_,?_,by simp at hoj;omega⟩
         ·rw[af (by omega),af (by omega),aj];rfl
         ·rw[af (by omega),aj];rfl
        ·exact⟨rfl,rfl,v1,v6,v7,v8,by omega⟩
       ·rintro T3 _ d ⟨rfl,rfl,x1,x6,x7,x8,hlt⟩;clear v1 v2 v3 v6 v7 v8;refine aQ (fun T'' H'' nx=>T'' 1=.ptr 0 7 0∧T'' 6=.ptr a 1 0∧T'' 7=.ptr (a+1) 3 0∧T'' 8=.msl (a+3) k.n 1 0 k.n∧d≤nx∧H'' (a+3)=D (a+3)∧InI k A a vec (outs++[w]) calm (am H'' (a+2) [c1]) nx) ?_ ?_
        ·have zz:=aI @x1 (aI @x6 (aI @x7 (aI @x8 @r4)));repeat' (first|refine zM ?_|apply a_n|refine zO ?_|refine vY ?_|fail)
         refine mR ev0 ev0 (ko w hsw) (ap (cV ((dh (by omega)).trans hDw) rfl hwl) ai) ?_;clear zz;have zz:=aI @x1 (aI @x6 (aI @x7 (aI @x8 @r4)));repeat' (first|apply a_n|refine zO ?_|refine blY ?_|fail)
         refine pn rfl ev0 (r5.same fun b hb=>?_) ev0 iV rfl rfl ru (by simp;omega) (by simp;omega) ?_
         ·have:=r7 b hb;rw[af (by omega),dh (by omega)]
         rintro s2 E e hrow hle1 hle2 hsame hb2;obtain⟨s21,s22⟩:=hrow.one
         have hsame':∀i,i<d→i≠a+2→cH so≠some i→E i=D i:=fun i h1 h2 h3=>by
          rw[hsame i (by omega) h3,af (by omega),dh (by omega)]
         have hE1:E (a+1)=some [aC vec,so,sc]:=by
          rw[hsame' (a+1) (by omega) (by omega) (fun h=>by have:=r7 _ h;omega),r4]
         clear zz;have zz:=aI @x1 (aI @x6 (aI @x7 (aI @x8 (aI @r4 (aI @hE1 (aI @so2 (aI @sc2 (aI @s21 @s22))))))));repeat' (first|apply a_n|refine zO ?_|refine vY ?_|refine stY ?_|fail)
         obtain⟨z1,z2⟩:=InI.put1 (vec:=vec) (c1:=c1) (e:=e) hd4 r2 r3 r6 r7 r8 r9 hlt r11 hrow (by omega) hsame' (fun b h=>(hb2 b h).imp id (fun h=>by omega));exact⟨x1,x6,x7,x8,by omega,(af (by omega)).trans z2,z1⟩
        ·rintro T4 E e ⟨y1,y6,y7,y8,hde,hE3,q1⟩;have r12:=r11;clear x1 x6 x7 x8 r3 r4 r5 r6 r7 r8 r9 r10 r11 so1 so2 sc1 sc2 hlen hq1 hoj;have p0:E 0=A 0:=by have:=q1.2.1 0 (by omega) (by omega);rwa [af (by omega)] at this
         rw[i0,←hkc] at p0;have p5:E 5=A 5:=by have:=q1.2.1 5 (by omega) (by omega);rwa [af (by omega)] at this
         rw[hA] at p5;have hq1:=q1;have q1:=hq1;obtain⟨r1,r2,r3,so,sc,r4,r5,r6,r7,r8,r9,r10,r11⟩:=q1;have q1:=hq1;rw[af (by omega)] at r3 r4;rcases hm with⟨rfl,hm⟩|hm
         ·have zz:=aI @y1 (aI @y6 (aI @y7 (aI @y8 (aI @r3 (aI @r4 @p0)))));repeat' (first|refine zW ?_|apply a_n|refine zO ?_|refine vY ?_|refine gFY ?_|refine cFY ?_|fail)
          refine .inl ⟨trivial,⟨?_,aj⟩,by omega,hde,(af (by omega)).trans hE3⟩;simp only[hm,cI,if_false,lg];exact hq1
         ·obtain⟨g,caps,hge,hcd,hg⟩:=hm.out;have zz:=aI @y1 (aI @y6 (aI @y7 (aI @y8 (aI @r3 (aI @r4 (aI @p0 @hge))))));repeat' (first|refine zW ?_|apply a_n|refine zO ?_|refine vY ?_|refine gTY ?_|fail)
          refine co (have zz:=@hge;evY) ev0 (hg _ hmem _ hmw) (ak (ap (cV p5 rfl hvl) (ap (cV (hE3.trans hDw) rfl hwl) (av hcd))) rfl) ?_;clear zz;have zz:=aI @y1 (aI @y6 (aI @y7 (aI @y8 (aI @r3 (aI @r4 (aI @p0 @hge))))));repeat' (first|refine zM ?_|apply a_n|refine zO ?_|refine vY ?_|(refine zGY ?_ ?_<;>(intro _hg;try (exfalso;omega)))|fail)
          ·refine mR ev0 ev0 (ko w hsw) (ap (cV (hE3.trans hDw) rfl hwl) ai) ?_;clear zz;have zz:=aI @y1 (aI @y6 (aI @y7 (aI @y8 (aI @r3 (aI @r4 @p0)))));repeat' (first|apply a_n|refine zO ?_|refine blY ?_|fail)
           have hEE:∀b,a+4≤b→am E (a+2) [c1] b=E b:=fun b h=>af (by omega);obtain⟨so1,so2⟩:=r5.one;refine pn rfl ev0 (r6.same fun b hb=>?_) ev0 iV rfl rfl ru (by simp at r11 ⊢;omega) (by simp at r11 ⊢;omega) ?_
           ·have:=r8 b hb;rw[af (by omega),af (by omega)]
           rintro s2 F f hrow hle1 hle2 hsame hb2;obtain⟨s21,s22⟩:=hrow.one
           have hsame':∀i,i<e→i≠a+2→cH sc≠some i→F i=am E (a+2) [c1] i:=fun i h1 h2 h3=>by
            rw[hsame i (by omega) h3,af (by omega),af h2]
           have hF1:F (a+1)=some [aC vec,so,sc]:=by
            rw[hsame' (a+1) (by omega) (by omega) (fun h=>by have:=r8 _ h;omega),af (by omega),r4]
           clear zz;have zz:=aI @y1 (aI @y6 (aI @y7 (aI @y8 (aI @r4 (aI @hF1 (aI @so1 (aI @so2 (aI @s21 @s22))))))));repeat' (first|apply a_n|refine zO ?_|refine vY ?_|refine stY ?_|fail)
           obtain⟨z1,z2⟩:=InI.put2 (vec:=vec) (c1:=c1) (e:=f) (by omega) q1.2.1 q1.2.2.1 r5 r7 r8 r9 r10 (by simp;omega) hrow (by omega) hsame' (fun b h=>(hb2 b h).imp id (fun h=>by omega));rw[af (by omega)] at z2;refine .inl ⟨trivial,⟨?_,aj⟩,by omega,by omega,?_⟩
           ·rw[_hg,if_pos rfl];exact z1
           ·rw[af (by omega),af (by omega),z2,hE3]
          ·refine .inl ⟨trivial,⟨?_,aj⟩,by omega,hde,(af (by omega)).trans hE3⟩;simp only[_hg,cI,if_false,lg];exact hq1
     ·rintro r D d (⟨q1,q2,q3,q4⟩|⟨q1,q2⟩)
      ·right;refine⟨.ret,by simp,q1,?_⟩
       repeat' (first|apply a_n|apply a_r|refine zO ?_|fail)
       exact .inr ⟨rfl,aj,(af (by omega)).trans ((dh (by omega)).trans q2),(af (by omega)).trans ((dh (by omega)).trans q3),caseOf k vec,dp.2 ⟨vec,fQ.2 ⟨hmem,hpc⟩,rfl⟩,q4⟩
      ·left;refine⟨q2,?_⟩
       repeat' (first|apply a_n|refine zO ?_|fail)
       rw[jz (aM _)] at q1;exact⟨u5,rfl,q1.stab (aM _) (fun i hi h2 _=>dh h2)⟩
   ·rintro r A a (⟨h4,h1,h2,hex⟩|⟨⟨h5,h0,h1,h2,s,h3,hr,hb,hc⟩,h4⟩)
    ·right;refine⟨.ret,by simp,h4,?_⟩;clear zz;have zz:=aI @t1 (aI @t2 (aI @t3 (aI @h1 @h2)));repeat' (first|apply a_n|apply a_r|refine zO ?_|refine ae rfl ?_|refine r2Z ?_|fail)
     have e:taskOf k=(T00,17):=by
      unfold taskOf;rw[if_neg (by omega),if_neg c3,if_neg (by omega),if_pos];rw[jB];obtain⟨c,k1,k2⟩:=hex;exact⟨c,k1,by simpa using k2⟩
     rw[e];exact eI 17
    ·left;refine⟨h4,?_⟩;rw[jz (aM _)] at hr hc
     repeat' (first|apply a_n|refine zO ?_|fail)
     refine⟨t2,t3,rfl,h1,h2,s,h3,hr.same (fun b hb'=>?_),fun b hb'=>?_,hc⟩
     ·have:=hb b hb';exact dh (by omega)
     ·have:=hb b hb';omega
end Go.Proofs.YtcbkggfipdldaaaGreat.Lb
namespace Go.Proofs.YtcbkggfipdldaaaGreat.Lb
open Go Go.Abs
open Nat (reduceEqDiff reduceAdd reduceLeDiff)
attribute [local irreducible] aG al bh a7 aV aU aB aX a9 bt Go.Abs.Fn aZ Go.Abs.Pure ax aO Yl
def inR(n ins outs kk:Int):Prop:=(1≤n∧n≤5)∧(1≤ins∧ins≤8)∧(1≤outs∧outs≤8)∧(kk=-1∨1≤kk∧kk≤n)
instance(n ins outs kk:Int):Decidable (inR n ins outs kk):=by unfold inR;infer_instance
structure DatF(f:AV):Prop where
 dat:Dat f
 cells:f.cells=[f]
 one:f.one=true
theorem DatF.nil:DatF .nilf:=⟨.nilf,rfl,rfl⟩
theorem DatF.func{g:FuncId}{caps:List AV}(h:∀c∈caps,Dat c):DatF (.func g caps):=⟨.func h,rfl,rfl⟩
theorem xR(n ins outs kk:Int)(fc fa fm:AV)(h1:DatF fc)(h2:DatF fa)(h3:DatF fm)(h:¬inR n ins outs kk):
    pU 34 [.agg [.int .i64 n,.int .i64 ins,.int .i64 outs,.int .i64 kk,fc,fa,fm]] (.tup [encT T00,.int .i64 2]):=by
 refine pO Br ?_;simp only[b34,ay];obtain⟨hd1,hc1,ho1⟩:=h1;obtain⟨hd2,hc2,ho2⟩:=h2;obtain⟨hd3,hc3,ho3⟩:=h3;unfold inR at h;refine cC ?_;have zz:=aI @ho1 (aI @ho2 @ho3);repeat' (first|apply a_n|refine zO ?_|refine alZ ?_|refine bxZ ?_|fail)
 refine aQ (fun T H nx=>False) ?_ (fun _ _ _ h=>h.elim);clear zz;have zz:=aI @ho1 (aI @ho2 @ho3);repeat' (first|refine zW ?_|apply a_n|apply a_r|refine zO ?_|refine vZ ?_|refine cZ ?_ (hp:=by exact lk _ _ _)|refine stZ ?_|refine gTZ ?_|refine gFZ ?_|refine cTZ ?_|(refine zGZ ?_ ?_<;>(intro _hg;try (exfalso;omega)))|refine ae rfl ?_|refine r2Z ?_|fail)
 all_goals exact eI 2
def taskI(n ins outs kk:Int)(k:KindV):TaskV×Int:=if inR n ins outs kk then taskOf k else(T00,2)
theorem gD(n ins outs kk:Int)(k:KindV)(fc fa fm:AV)(h1:DatF fc)(h2:DatF fa)(h3:DatF fm)
    (h:inR n ins outs kk→k.n=n∧k.ins=ins∧k.outs=outs∧Cond fc (every k.n k.ins) k.pc∧(k.hasC=true↔fc≠.nilf)∧Cond2 fa (every k.n k.ins) (every k.n k.outs) k.pa∧((fm=.nilf∧∀x y,k.pm x y=false)∨Cond2 fm (every k.n k.ins) (every k.n k.outs) k.pm)):
    pU 34 [.agg [.int .i64 n,.int .i64 ins,.int .i64 outs,.int .i64 kk,fc,fa,fm]] (.tup [encT (taskI n ins outs kk k).1,.int .i64 (taskI n ins outs kk k).2]):=by
 unfold taskI;by_cases hr:inR n ins outs kk
 ·rw[if_pos hr];obtain⟨e1,e2,e3,e4,e5,e6,e7⟩:=h hr;unfold inR at hr;rw[←e1,←e2,←e3];exact Af k (by omega) (by omega) (by omega) kk (by omega) fc fa fm e4 e5 e6 e7
 ·rw[if_neg hr];exact xR n ins outs kk fc fa fm h1 h2 h3 hr
theorem gF (l:List CaseV):Dat (encCs l):=Dat.sl (fun x hx c hc=>by
 simp at hx;obtain⟨q,_,rfl⟩:=hx;simp only[eb,AV.cells,fo,List.not_mem_nil,or_false] at hc;rcases hc with rfl|rfl|rfl
 ·exact bw _
 ·exact bi _
 ·exact bi _)
theorem eM(t:TaskV):Dat (encT t):=by
 refine Dat.agg fun x hx=>?_;simp only[fo,List.not_mem_nil,or_false] at hx;rcases hx with rfl|rfl|rfl|rfl
 ·exact .int
 ·exact .int
 ·exact .int
 ·exact gF _
theorem bL(t:TaskV)(e:Int):Dat (.tup [encT t,.int .i64 e]):=Dat.tup (DatL.cons (eM t) (DatL.cons .int DatL.nil))
theorem ba(t:TaskV):(encT t).cells=[.int .i64 t.n,.int .i64 t.ins,.int .i64 t.outs,encCs t.cases]:=rfl
theorem az(l:List CaseV):(encCs l).one=true:=rfl
theorem ar(l:List CaseV):(encCs l).cells=[encCs l]:=rfl
theorem fX{n i o k:Int}{fc fa fm:AV}(h1:DatF fc)(h2:DatF fa)(h3:DatF fm):Dat (.agg [.int .i64 n,.int .i64 i,.int .i64 o,.int .i64 k,fc,fa,fm]):=by
 refine Dat.agg fun x hx=>?_;simp only[fo,List.not_mem_nil,or_false] at hx;rcases hx with rfl|rfl|rfl|rfl|rfl|rfl|rfl
 ·exact .int
 ·exact .int
 ·exact .int
 ·exact .int
 ·exact h1.dat
 ·exact h2.dat
 ·exact h3.dat
theorem DatF.fun1{g:FuncId}{x:AV}(h:Dat x):DatF (.func g [.iptr [x] 0]):=DatF.func (DatL.cons (Dat.iptr (DatL.cons h DatL.nil)) DatL.nil)
theorem DatF.fun0{g:FuncId}:DatF (.func g []):=DatF.func DatL.nil
theorem Cond2.fun1{g:FuncId}{c:AV}{L M:List (List Int)}{p:List Int→List Int→Bool}(hd:Dat c)(h:∀x∈L,∀y∈M,pU g [aC x,aC y,.iptr [c] 0] (.bool (p x y))):Cond2 (.func g [.iptr [c] 0]) L M p:=
 ⟨g,_,rfl,DatL.cons (Dat.iptr (DatL.cons hd DatL.nil)) DatL.nil,h⟩
theorem Cond2.fun0{g:FuncId}{L M:List (List Int)}{p:List Int→List Int→Bool}(h:∀x∈L,∀y∈M,pU g [aC x,aC y] (.bool (p x y))):Cond2 (.func g []) L M p:=
 ⟨g,_,rfl,DatL.nil,h⟩
theorem db{n v:Nat}(hn:n≤5){x:List Int}(h:x∈every n v):Sh x:=by
 have:=eG n v x h;show _≤_;omega
theorem gx{n v:Nat}(hn:n≠0){x:List Int}(h:x∈every n v):x≠[]:=by
 have:=eG n v x h;intro e;subst e;exact hn this.symm
theorem gg(n v k:Int):pU 33 [.int .i64 n,.int .i64 v,.int .i64 k] (.agg [.int .i64 n,.int .i64 v,.int .i64 v,.int .i64 k,.nilf,.func 72 [.iptr [.int .i64 k] 0],.nilf]):=by
 refine pO D6 ?_;simp only[b33,ay]
 repeat' (first|refine zW ?_|apply a_n|refine zO ?_|refine vZ ?_|refine alZ ?_|refine bxZ ?_|refine stZ ?_|refine ae rfl ?_|refine r1Z ?_|fail)
 refine jk ?_
 (repeat' (first|exact ai|exact Dat.snap Dat.int|exact Dat.snap Dat.bool|exact Dat.snap Dat.str|exact Dat.snap Dat.esl|exact Dat.snap Dat.nilf|exact Dat.snap (bw _)|exact Dat.snap (bi _)|apply ap|apply d6|apply ez|(apply dR;(focus ((try simp only[bR,ZA,reduceEqDiff,↓reduceIte,reduceAdd,reduceLeDiff]);with_reducible rfl));(focus rfl))))
def kAgree(n v k:Int):KindV:=⟨n.toNat,v.toNat,v.toNat,false,fun _=>true,fun i o=>decide ((kinds o).length≤max k 1)&&o.all fun v=>decide (v∈i),fun _ _=>false⟩
theorem mX(n v kk k:Int):pU 34 [.agg [.int .i64 n,.int .i64 v,.int .i64 v,.int .i64 kk,.nilf,.func 72 [.iptr [.int .i64 k] 0],.nilf]] (.tup [encT (taskI n v v kk (kAgree n v k)).1,.int .i64 (taskI n v v kk (kAgree n v k)).2]):=by
 refine gD n v v kk (kAgree n v k) _ _ _ DatF.nil (DatF.fun1 .int) DatF.nil (fun h=>?_);unfold inR at h;have:(kAgree n v k).n≤5:=by show n.toNat≤5;omega
 refine⟨by show(n.toNat:Int)=n;omega,by show(v.toNat:Int)=v;omega,by show(v.toNat:Int)=v;omega,⟨.inl ⟨rfl,fun _=>rfl⟩⟩,by simp[kAgree],Cond2.fun1 .int (fun x hx y hy=>?_),.inl ⟨rfl,fun _ _=>rfl⟩⟩;exact qK k x y (db this hx) (db this hy)
def consensusT(n v:Int):TaskV×Int:=taskI n v v (-1) (kAgree n v 1)
theorem lR(n v:Int):pU 14 [.int .i64 n,.int .i64 v] (.tup [encT (consensusT n v).1,.int .i64 (consensusT n v).2]):=by
 refine pO Dx ?_;simp only[b14,ay];have hm:=mX n v (-1) 1;have hdd:∀k:Int,Dat (.agg [.int .i64 n,.int .i64 v,.int .i64 v,.int .i64 k,.nilf,.func 72 [.iptr [.int .i64 1] 0],.nilf]):=fun k=>fX DatF.nil (DatF.fun1 .int) DatF.nil;have zz:=aI @ba (aI @az @ar);repeat' (first|refine zW ?_|apply a_n|refine zO ?_|refine vZ ?_|refine cZ ?_ (hp:=by first|exact gg _ _ _|exact hm) (hs:=by(first|refine ak ?_ rfl|apply au);(repeat' (first|exact ai|apply aD|apply aw|exact hdd _));first|done|fail)|refine alZ ?_|refine stZ ?_|refine ae rfl ?_|refine r2Z ?_|fail)
 exact bL _ _ _
def setT(n v k:Int):TaskV×Int:=taskI n v v (max k 0) (kAgree n v (max k 0))
theorem CK(n v k:Int):pU 60 [.int .i64 n,.int .i64 v,.int .i64 k] (.tup [encT (setT n v k).1,.int .i64 (setT n v k).2]):=by
 refine pO Du ?_;simp only[b60,ay];have hm:=mX n v (max k 0) (max k 0);have hdd:Dat (.agg [.int .i64 n,.int .i64 v,.int .i64 v,.int .i64 (max k 0),.nilf,.func 72 [.iptr [.int .i64 (max k 0)] 0],.nilf]):=fX DatF.nil (DatF.fun1 .int) DatF.nil;have zz:=aI @ba (aI @az @ar);repeat' (first|refine zW ?_|apply a_n|refine zO ?_|refine vZ ?_|refine cZ ?_ (hp:=by first|exact gg _ _ _|exact hm)|refine alZ ?_|refine stZ ?_|refine ae rfl ?_|refine r2Z ?_|fail)
 exact bL _ _ _
def moreI(n:Int):Int:=if 0≤n∧n≤8 then n+1 else 9
def kApprox(n s:Int):KindV:=⟨n.toNat,2,(moreI s).toNat,false,fun _=>true,fun l m=>if (kinds l).length=1 then eqv m (IntKind.wrap .i64 (l.getD 0 default*s)) else decide (IntKind.wrap .i64 (m.foldl max (m.getD 0 default)-m.foldl min (m.getD 0 default))≤1),fun _ _=>false⟩
def approxT(n s:Int):TaskV×Int:=taskI n 2 (moreI s) (-1) (kApprox n s)
theorem rL(n s:Int):pU 34 [.agg [.int .i64 n,.int .i64 2,.int .i64 (moreI s),.int .i64 (-1),.nilf,.func 36 [.iptr [.int .i64 s] 0],.nilf]] (.tup [encT (approxT n s).1,.int .i64 (approxT n s).2]):=by
 refine gD n 2 (moreI s) (-1) (kApprox n s) _ _ _ DatF.nil (DatF.fun1 .int) DatF.nil (fun h=>?_);unfold inR at h;have h5:(kApprox n s).n≤5:=by show n.toNat≤5;omega
 have h1:(kApprox n s).n≠0:=by show n.toNat≠0;omega
 refine⟨by show(n.toNat:Int)=n;omega,rfl,by show((moreI s).toNat:Int)=moreI s;omega,⟨.inl ⟨rfl,fun _=>rfl⟩⟩,by simp[kApprox],Cond2.fun1 .int (fun x hx y hy=>?_),.inl ⟨rfl,fun _ _=>rfl⟩⟩;exact vC s x y (db h5 hx) (db h5 hy) (gx h1 hx) (gx h1 hy)
theorem rP(n s:Int):pU 15 [.int .i64 n,.int .i64 s] (.tup [encT (approxT n s).1,.int .i64 (approxT n s).2]):=by
 refine pO Dn ?_;simp only[b15,ay];have hm:=rL n s;unfold moreI at hm;refine cC ?_
 repeat' (first|apply a_n|refine zO ?_|refine vZ ?_|refine alZ ?_|refine bxZ ?_|fail)
 refine cC ?_;refine qX (only 0 [.int .i64 s]) _ [(0,.int .i64 n),(3,.iptr [.int .i64 s] 0),(4,.ptr 1 4 0)] (Fz.one ev0) ⟨.inl ev0,.inr ?_,.inl ev0,trivial⟩ ?_
 ·((try simp only[bR,ZA,reduceEqDiff,↓reduceIte,reduceAdd,reduceLeDiff]);(try with_reducible rfl))
  exact dR qP rfl (ap (.int _ _) ai)
 have zz:=aI @ba (aI @az @ar);repeat' (first|apply a_n|refine zO ?_|refine vZ ?_|refine cZ ?_ (hp:=by first|exact xq _|exact hm) (hs:=by(first|refine ak ?_ rfl|apply au);(repeat' (first|exact ai|apply aD|apply aw|exact fX DatF.nil (DatF.fun1 .int) DatF.nil));first|done|fail)|refine stZ ?_|refine ae rfl ?_|refine r2Z ?_|fail)
 exact bL _ _ _
end Go.Proofs.YtcbkggfipdldaaaGreat.Lb
namespace Go.Proofs.YtcbkggfipdldaaaGreat.Lb
open Go Go.Abs
open Nat (reduceEqDiff reduceAdd reduceLeDiff)
attribute [local irreducible] aG al bh a7 aV aU aB aX a9 bt Go.Abs.Fn aZ Go.Abs.Pure ax aO Yl
theorem uV{b n i:Nat}(h:i<n):tg 1 (.msl b n 1 0 n) (some (.int .i64 i)) none none=some (.msl b n 1 i (n-i)):=by
 simp only[tg,bq,Int.natCast_nonneg,if_true,bD];rw[if_pos ⟨trivial,by omega,aM _,by omega⟩,if_pos (.inr h),Nat.mul_one,bQ]
theorem vt{b n i:Nat}(h:i≤n)(h0:0<n):tg 1 (.msl b n 1 0 n) none (some (.int .i64 i)) none=some (.msl b n 1 0 i):=by
 simp[tg,bq];omega
theorem uk{b n i:Nat}{H:Hp}{c:List Int}(h:i<n)(hb:H b=some (c.map (AV.int .i64)))(hc:c.length=n):
    lN 1 (.int .i64 0) (.msl b n 1 i (n-i)) H=some (am H b ((c.take i++List.replicate (n-i) 0).map (AV.int .i64))):=by
 unfold lN;have hz:bn (.int .i64 0) (n-i)=(List.replicate (n-i) (0:Int)).map (AV.int .i64):=by rw[←nZ];rfl
 dsimp only;rw[if_neg (by omega),hb];dsimp only;rw[if_pos ⟨by simpa using hc,rfl,rfl,rfl,by omega⟩,hz]
 congr 2
 unfold bv;rw[dM,List.length_replicate,jD (by simp;omega),lg,hU,List.map_take]
theorem xH{H:Hp}{b n m:Nat}{c l:List Int}(hb:H b=some (c.map (AV.int .i64)))(hc:c.length=n)(hm:m≤n)(h:c.take m=l):Snap H (.msl b n 1 0 m) (aC l):=by
 subst h;refine ky hb (by simp[hc]) (by omega) (by simp;omega) (fun y hy=>by obtain⟨n,_,rfl⟩:=dp.1 hy;rfl) (fun i a c' ha hc'=>?_);rw[bQ,jW] at ha;rw[jW,fT] at hc';split at hc'
 ·rw[ha] at hc';cases hc';simp only[Option.map_eq_some_iff] at ha;obtain⟨q,_,rfl⟩:=ha;exact .int _ _
 ·cases hc'
theorem ya(l:List Int)(p:Int→Bool)(g:Nat)(caps:List AV)(hd:∀x∈caps,Dat x)(hg:∀x∈l,pU g (.int .i64 x::caps) (.bool (p x)))(hl:Sh l)(b n:Nat)(hn:l.length=n)(H:Hp)(nx:Nat)(hb:H b=some (l.map (AV.int .i64))):
    Abs.Fn Tryz.prog 44 [.msl b n 1 0 n,.func g caps] H nx fun r H' nx'=>nx'=nx∧(∀x,x≠b→H' x=H x)∧∃(c:List Int)(m:Nat),r=.msl b n 1 0 m∧H' b=some (c.map (AV.int .i64))∧c.length=n∧m≤n∧c.take m=l.filter fun x=>!p x:=by
 refine fO Df ?_;simp only[b44,ay];refine cC ?_
 repeat' (first|apply a_n|refine zO ?_|refine vZ ?_|fail)
 refine cC ?_
 repeat' (first|apply a_n|refine zO ?_|refine vZ ?_|fail)
 refine co ev0 ev0 (kF l p g caps hd hg hl) (ak (ap (cV hb rfl hn) (ap (Dat.func hd H) ai)) rfl) ?_
 repeat' (first|apply a_n|refine zO ?_|refine vZ ?_|fail)
 refine aQ (fun T H' nx'=>H'=H∧nx'=nx∧T 0=.msl b n 1 0 n∧T 1=.func g caps∧T 5=.int .i64 (jy l p)∧jy l p≠ -1) ?_ ?_
 ·have zz:=@hb;repeat' (first|refine zW ?_|apply a_n|apply a_r|refine zO ?_|refine vZ ?_|(refine zGZ ?_ ?_<;>(intro _hg;try (exfalso;omega)))|refine ae rfl ?_|refine r1Z ?_|fail)
  ·refine⟨rfl,fun _ _=>rfl,l,n,rfl,hb,hn,aM _,?_⟩;unfold jy at _hg;split at _hg
   ·omega
   ·rename_i h;rw[jz (by omega),pe.2];intro x hx;simp only[Bool.not_eq_true,List.any_eq_false] at h;simp[h x hx]
  ·exact⟨rfl,rfl,rfl,rfl,rfl,_hg⟩
 ·rintro T H nx ⟨rfl,rfl,t0,t1,t5,hne⟩
  obtain⟨k,hk,hk1,hk2,hk3⟩:∃k:Nat,jy l p=k∧k<l.length∧p (l.getD k default)=true∧∀i,i<k→p (l.getD i default)=false:=by
   unfold jy at hne ⊢;split at hne
   ·rename_i h;rw[if_pos h];have hlt:l.findIdx p<l.length:=List.findIdx_lt_length.2 (by simpa[jB] using h);refine⟨_,rfl,hlt,?_,fun i hi=>?_⟩
    ·have:=List.findIdx_getElem (w:=hlt);simpa[List.getD,hlt] using this
    ·have:=List.not_of_lt_findIdx hi;simpa[List.getD,show i<l.length by omega] using this
   ·exact absurd rfl hne
  rw[hk] at t5;refine cC (cC ?_);have zz:=aI @t0 (aI @t1 @t5);repeat' (first|apply a_n|refine zO ?_|refine vZ ?_|fail)
  refine dg (xo ?_)
  refine bo (X:=List Int×Nat×Nat) (fun x=>[(0,.msl b n 1 0 n),(1,.func g caps),(5,.int .i64 x.2.1),(6,.int .i64 x.2.2)])
   (fun x H' nx'=>nx'=nx∧(∀y,y≠b→H' y=H y)∧H' b=some (x.1.map (AV.int .i64))∧x.1.length=n∧x.2.1<x.2.2∧x.2.2≤n∧x.1.take x.2.1=(l.take x.2.2).filter (fun x=>!p x)∧x.1.drop x.2.2=l.drop x.2.2) (fun x=>n-x.2.2) (l,k,k+1)
   ⟨rfl,fun _ _=>rfl,hb,hn,ms _,by show k+1≤n;omega,?_,rfl⟩ (have zz:=aI @t0 (aI @t1 @t5);agZ) ?_
  ·rw[bN hk1,nU,List.filter_cons];simp only[hk2,Bool.not_true,cI,if_false,List.filter_nil,lg]
   symm
   rw[pe];intro x hx;obtain⟨i,hi,e⟩:=fP hx;rw[wX] at hi;have:=hk3 i (by omega);rw[show l.getD i default=x by rw[←e];simp[List.getD,show i<l.length by omega]] at this;simp[this]
  ·rintro⟨c,i,j⟩ H' nx' ⟨rfl,e1,e2,e3,e4,e5,e6,e7⟩;dsimp only at e2 e3 e4 e5 e6 e7 ⊢
   have hgj:j<n→c.getD j default=l.getD j default:=fun h=>by
    have:(c.drop j).getD 0 default=(l.drop j).getD 0 default:=by rw[e7]
    simpa[List.getD] using this
   clear zz;have zz:=aI @e2 @e3;repeat' (first|refine zW ?_|apply a_n|apply a_x|refine zO ?_|refine vZ ?_|(refine zGZ ?_ ?_<;>(intro _hg;try (exfalso;omega)))|fail)
   ·rw[hgj (by omega)];refine co ev0 ev0 (hg _ (an (by omega))) (ak (ap (.int _ _) (av hd)) rfl) ?_;clear zz;have zz:=aI @e2 @e3;repeat' (first|refine zW ?_|apply a_n|refine zO ?_|refine vZ ?_|refine stZ ?_|(refine zGZ ?_ ?_<;>(intro _hg;try (exfalso;omega)))|fail)
    ·refine⟨(c.set i (l.getD j default),i+1,j+1),by dsimp only;omega,⟨rfl,fun y hy=>by rw[af hy,e1 y hy],?_,by simpa using e3,by dsimp only;omega,by dsimp only;omega,?_,?_⟩,ag0⟩
     ·rw[aj,og (by omega)]
     ·dsimp only;rw[bN (l:=l) (by omega),nU,←e6,List.filter_cons,List.filter_nil,_hg,if_pos (by rfl),bN (by simp;omega)];rw[List.take_set_of_le (aM _),List.getD_eq_getElem?_getD,List.getElem?_set_self (by omega)];rfl
     ·dsimp only;rw[List.drop_set_of_lt (by omega)];have:(c.drop j).drop 1=(l.drop j).drop 1:=by rw[e7]
      simpa using this
    ·refine⟨(c,i,j+1),by dsimp only;omega,⟨rfl,e1,e2,e3,by dsimp only;omega,by dsimp only;omega,?_,?_⟩,ag0⟩
     ·dsimp only;rw[bN (l:=l) (by omega),nU,←e6,List.filter_cons,List.filter_nil,_hg];simp
     ·dsimp only;have:(c.drop j).drop 1=(l.drop j).drop 1:=by rw[e7]
      simpa using this
   ·clear zz;have zz:=aI @e2 (aI @e3 (aI @uV @vt));repeat' (first|apply a_n|refine zO ?_|refine vZ ?_|fail)
    refine B3 (by((try simp only[bR,ZA,reduceEqDiff,↓reduceIte,reduceAdd,reduceLeDiff]);(try with_reducible rfl));exact uk (by omega) e2 e3) ?_;clear zz;have zz:=aI @e2 (aI @e3 (aI @uV @vt));repeat' (first|refine zW ?_|apply a_n|refine zO ?_|refine vZ ?_|refine ae rfl ?_|refine r1Z ?_|fail)
    refine⟨rfl,fun x hx=>by rw[af hx,e1 x hx],_,i,rfl,aj,by simp;omega,by omega,?_⟩;rw[jz (i:=j) (by omega)] at e6;rw[←e6,List.take_append_of_le_length (by simp;omega),List.take_take,Nat.min_self]
theorem sQ(v:Int)(l m:List Int)(hm:Sh m)(h0:m≠[]):pU 43 [aC l,aC m,.iptr [.int .i64 v] 0] (.bool (decide ((kinds (m.filter fun x=>!decide (x=v))).length≤1))):=by
 refine pO Db ?_;simp only[b43,ay];refine cC ?_
 repeat' (first|apply a_n|refine zO ?_|refine vZ ?_|fail)
 refine cC ?_
 repeat' (first|apply a_n|refine zO ?_|refine vZ ?_|fail)
 refine lC ev0 (Abs.Fn.mono (by((try simp only[bR,ZA,reduceEqDiff,↓reduceIte,reduceAdd,reduceLeDiff]);(try with_reducible rfl));exact yd m hm h0 _ _) ?_);rintro _ _ _ ⟨rfl,rfl,rfl⟩
 repeat' (first|apply a_n|refine zO ?_|refine vZ ?_|fail)
 refine lC ev0 (Abs.Fn.mono (by((try simp only[bR,ZA,reduceEqDiff,↓reduceIte,reduceAdd,reduceLeDiff]);(try with_reducible rfl));exact ya m (fun x=>decide (x=v)) 46 _ (DatL.cons (Dat.iptr (DatL.cons .int DatL.nil)) DatL.nil) (fun x _=>qF x v) hm 0 m.length rfl _ _ aj) ?_);rintro _ H nx ⟨rfl,h1,c,k,rfl,h2,h3,h4,h5⟩
 repeat' (first|apply a_n|refine zO ?_|refine vZ ?_|fail)
 refine cC ?_
 repeat' (first|apply a_n|refine zO ?_|refine vZ ?_|fail)
 have hs:Sh (m.filter fun x=>!decide (x=v)):=fR (List.length_filter_le _ _) hm;refine co ev0 ev0 (eE _ hs) (ak (ap (xH h2 (by omega) h4 h5) ai) rfl) ?_
 repeat' (first|apply a_n|refine zO ?_|refine vZ ?_|refine ae rfl ?_|refine r1Z ?_|fail)
 refine aY ?_;simp only[Int.ofNat_le,show(1:Int)=((1:Nat):Int) from rfl]
def kCrus(n v:Int):KindV:=⟨n.toNat,v.toNat,(moreI v).toNat,false,fun _=>true,fun _ m=>decide ((kinds (m.filter fun x=>!decide (x=v))).length≤1),fun l m=>eqv m (l.getD 0 default)⟩
def crusT(n v:Int):TaskV×Int:=taskI n v (moreI v) (-1) (kCrus n v)
theorem vA(n v:Int):pU 34 [.agg [.int .i64 n,.int .i64 v,.int .i64 (moreI v),.int .i64 (-1),.nilf,.func 43 [.iptr [.int .i64 v] 0],.func 47 []]] (.tup [encT (crusT n v).1,.int .i64 (crusT n v).2]):=by
 refine gD n v (moreI v) (-1) (kCrus n v) _ _ _ DatF.nil (DatF.fun1 .int) DatF.fun0 (fun h=>?_);unfold inR at h;have h5:(kCrus n v).n≤5:=by show n.toNat≤5;omega
 have h1:(kCrus n v).n≠0:=by show n.toNat≠0;omega
 refine⟨by show(n.toNat:Int)=n;omega,by show(v.toNat:Int)=v;omega,by show((moreI v).toNat:Int)=moreI v;omega,⟨.inl ⟨rfl,fun _=>rfl⟩⟩,by simp[kCrus],Cond2.fun1 .int (fun x hx y hy=>?_),.inr (Cond2.fun0 fun x hx y hy=>?_)⟩
 ·exact sQ v x y (db h5 hy) (gx h1 hy)
 ·exact sn x y (gx h1 hx) (db h5 hx) (db h5 hy)
theorem xD(n v:Int):pU 17 [.int .i64 n,.int .i64 v] (.tup [encT (crusT n v).1,.int .i64 (crusT n v).2]):=by
 refine pO Dz ?_;simp only[b17,ay];have hm:=vA n v;unfold moreI at hm;refine cC ?_
 repeat' (first|apply a_n|refine zO ?_|refine vZ ?_|refine alZ ?_|refine bxZ ?_|fail)
 refine cC ?_;refine yh (only 0 [.int .i64 v]) _ [(0,.int .i64 n),(3,.iptr [.int .i64 v] 0),(4,.ptr 1 4 0)] (Fz.one ev0) ⟨.inl ev0,.inr ?_,.inl ev0,trivial⟩ ?_
 ·((try simp only[bR,ZA,reduceEqDiff,↓reduceIte,reduceAdd,reduceLeDiff]);(try with_reducible rfl))
  exact dR qP rfl (ap (.int _ _) ai)
 have zz:=aI @ba (aI @az @ar);repeat' (first|apply a_n|refine zO ?_|refine vZ ?_|refine cZ ?_ (hp:=by first|exact xq _|exact hm) (hs:=by(first|refine ak ?_ rfl|apply au);(repeat' (first|exact ai|apply aD|apply aw|exact fX DatF.nil (DatF.fun1 .int) DatF.fun0));first|done|fail)|refine stZ ?_|refine ae rfl ?_|refine r2Z ?_|fail)
 exact bL _ _ _
def kRen(n i o:Int):KindV:=⟨n.toNat,i.toNat,o.toNat,true,fun l=>decide ((kinds l).length=l.length),fun _ m=>decide ((kinds m).length=m.length),fun _ _=>false⟩
def renT(n i o:Int):TaskV×Int:=taskI n i o (-1) (kRen n i o)
theorem xQ(n i o:Int):pU 34 [.agg [.int .i64 n,.int .i64 i,.int .i64 o,.int .i64 (-1),.func 41 [],.func 42 [],.nilf]] (.tup [encT (renT n i o).1,.int .i64 (renT n i o).2]):=by
 refine gD n i o (-1) (kRen n i o) _ _ _ DatF.fun0 DatF.fun0 DatF.nil (fun h=>?_);unfold inR at h;have h5:(kRen n i o).n≤5:=by show n.toNat≤5;omega
 refine⟨by show(n.toNat:Int)=n;omega,by show(i.toNat:Int)=i;omega,by show(o.toNat:Int)=o;omega,⟨.inr ⟨41,[],rfl,DatL.nil,fun x hx=>?_⟩⟩,by simp[kRen],Cond2.fun0 (fun x hx y hy=>?_),.inl ⟨rfl,fun _ _=>rfl⟩⟩
 ·exact rN x (db h5 hx)
 ·exact rm x y (db h5 hy)
theorem uY(n i o:Int):pU 16 [.int .i64 n,.int .i64 i,.int .i64 o] (.tup [encT (renT n i o).1,.int .i64 (renT n i o).2]):=by
 refine pO Dp ?_;simp only[b16,ay];have hm:=xQ n i o;have zz:=aI @ba (aI @az @ar);repeat' (first|refine zW ?_|apply a_n|refine zO ?_|refine vZ ?_|refine cZ ?_ (hp:=hm) (hs:=by(first|refine ak ?_ rfl|apply au);(repeat' (first|exact ai|apply aD|apply aw|exact fX DatF.fun0 DatF.fun0 DatF.nil));first|done|fail)|refine alZ ?_|refine stZ ?_|refine ae rfl ?_|refine r2Z ?_|fail)
 exact bL _ _ _
def kLead(n:Int):KindV:=⟨n.toNat,1,2,false,fun _=>true,fun _ m=>decide (m.sum=1),fun _ _=>false⟩
def leadT(n:Int):TaskV×Int:=taskI n 1 2 (-1) (kLead n)
theorem wA(n:Int):pU 34 [.agg [.int .i64 n,.int .i64 1,.int .i64 2,.int .i64 (-1),.nilf,.func 80 [],.nilf]] (.tup [encT (leadT n).1,.int .i64 (leadT n).2]):=by
 refine gD n 1 2 (-1) (kLead n) _ _ _ DatF.nil DatF.fun0 DatF.nil (fun h=>?_);unfold inR at h;have h5:(kLead n).n≤5:=by show n.toNat≤5;omega
 refine⟨by show(n.toNat:Int)=n;omega,rfl,rfl,⟨.inl ⟨rfl,fun _=>rfl⟩⟩,by simp[kLead],Cond2.fun0 (fun x hx y hy=>?_),.inl ⟨rfl,fun _ _=>rfl⟩⟩;exact wG x y (db h5 hy) (fun a ha=>by have:=k9 _ _ y hy a ha;have:(kLead n).outs=2:=rfl;omega)
theorem AG(n:Int):pU 59 [.int .i64 n] (.tup [encT (leadT n).1,.int .i64 (leadT n).2]):=by
 refine pO D5 ?_;simp only[b59,ay];have hm:=wA n;have zz:=aI @ba (aI @az @ar);repeat' (first|refine zW ?_|apply a_n|refine zO ?_|refine vZ ?_|refine cZ ?_ (hp:=hm) (hs:=by(first|refine ak ?_ rfl|apply au);(repeat' (first|exact ai|apply aD|apply aw|exact fX DatF.nil DatF.fun0 DatF.nil));first|done|fail)|refine alZ ?_|refine stZ ?_|refine ae rfl ?_|refine r2Z ?_|fail)
 exact bL _ _ _
def kCom(n:Int):KindV:=⟨n.toNat,2,2,false,fun _=>true,fun l m=>eqv m 0 || eqv m 1&&decide (l.foldl min (l.getD 0 default)=1),fun l m=>eqv m (l.foldl min (l.getD 0 default))⟩
def comT(n:Int):TaskV×Int:=taskI n 2 2 (-1) (kCom n)
theorem xP(n:Int):pU 34 [.agg [.int .i64 n,.int .i64 2,.int .i64 2,.int .i64 (-1),.nilf,.func 49 [.iptr [.func 48 []] 0],.func 50 [.iptr [.func 48 []] 0]]] (.tup [encT (comT n).1,.int .i64 (comT n).2]):=by
 have hd:Dat (.func 48 []):=Dat.func DatL.nil;refine gD n 2 2 (-1) (kCom n) _ _ _ DatF.nil (DatF.fun1 hd) (DatF.fun1 hd) (fun h=>?_);unfold inR at h;have h5:(kCom n).n≤5:=by show n.toNat≤5;omega
 have h1:(kCom n).n≠0:=by show n.toNat≠0;omega
 refine⟨by show(n.toNat:Int)=n;omega,rfl,rfl,⟨.inl ⟨rfl,fun _=>rfl⟩⟩,by simp[kCom],Cond2.fun1 hd (fun x hx y hy=>?_),.inr (Cond2.fun1 hd fun x hx y hy=>?_)⟩
 ·exact vV x y (gx h1 hx) (db h5 hx) (db h5 hy)
 ·exact wn x y (gx h1 hx) (db h5 hx) (db h5 hy)
theorem zV(n:Int):pU 18 [.int .i64 n] (.tup [encT (comT n).1,.int .i64 (comT n).2]):=by
 refine pO D4 ?_;simp only[b18,ay];have hm:=xP n;have hd:Dat (.func 48 []):=Dat.func DatL.nil;refine cC ?_
 repeat' (first|apply a_n|refine zO ?_|refine vZ ?_|refine alZ ?_|fail)
 refine cC ?_
 repeat' (first|apply a_n|refine zO ?_|refine alZ ?_|refine stZ ?_|fail)
 refine cC ?_;refine qX (only 1 [.func 48 []]) _ [(0,.int .i64 n),(4,.iptr [.func 48 []] 0),(2,.ptr 0 4 0)] (Fz.one ev0) ⟨.inl ev0,.inr ?_,.inl ev0,trivial⟩ ?_
 ·((try simp only[bR,ZA,reduceEqDiff,↓reduceIte,reduceAdd,reduceLeDiff]);(try with_reducible rfl))
  exact dR qP rfl (ap (hd _) ai)
 have zz:=aI @ba (aI @az @ar);repeat' (first|apply a_n|refine zO ?_|refine vZ ?_|refine cZ ?_ (hp:=hm) (hs:=by(first|refine ak ?_ rfl|apply au);(repeat' (first|exact ai|apply aD|apply aw|exact fX DatF.nil (DatF.fun1 hd) (DatF.fun1 hd)));first|done|fail)|refine stZ ?_|refine ae rfl ?_|refine r2Z ?_|fail)
 exact bL _ _ _
end Go.Proofs.YtcbkggfipdldaaaGreat.Lb
namespace Go.Proofs.YtcbkggfipdldaaaGreat.Lb
open Go Go.Abs
attribute [local irreducible] aG al bh a7 aV aU aB aX a9 bt Go.Abs.Fn aZ Go.Abs.Pure ax aO Yl
theorem mem_kinds{l:List Int}{v:Int}:v∈kinds l↔v∈l:=by
 suffices h:∀(l ks:List Int),v∈l.foldl (fun ks v=>if v∈ks then ks else ks++[v]) ks↔v∈ks∨v∈l by simpa[kinds] using h l []
 intro l
 induction l with
 |nil=>simp
 |cons a l ih=>
  intro ks;rw[List.foldl_cons,ih];split
  ·rename_i h;rw[fo];constructor
   ·rintro(h1|h1)
    ·exact .inl h1
    ·exact .inr (.inr h1)
   ·rintro(h1|rfl|h1)
    ·exact .inl h1
    ·exact .inl h
    ·exact .inr h1
  ·rw[pf,qR,fo,or_assoc]
def CA(outs:Int)(l m:List Int):Bool:=if (kinds l).length=1 then eqv m (IntKind.wrap .i64 (l.getD 0 default*IntKind.wrap .i64 (outs-1))) else decide (IntKind.wrap .i64 (m.foldl max (m.getD 0 default)-m.foldl min (m.getD 0 default))≤1)
def yH(ins:Int)(m:List Int):Bool:=m.all fun x=>m.all fun y=>!(decide (x<ins)&&decide (y<ins)&&decide (x≠y))
end Go.Proofs.YtcbkggfipdldaaaGreat.Lb
namespace Go.Proofs.YtcbkggfipdldaaaGreat.Lb
open Go Go.Abs
attribute [local irreducible] aG al bh a7 aV aU aB aX a9 bt Go.Abs.Fn aZ Go.Abs.Pure ax aO Yl
def xS(task ins outs k:Int)(l m:List Int):Bool:=
 if task=0 then CA outs l m else if task=1 then eqv m 0 || (eqv m 1&& !decide (0∈l)) else if task=2 then decide ((kinds m).length=1)&&m.all (fun v=>decide (v∈l)) else if task=3 then yH ins m else
 if task=4 then decide (m.sum=1) else if task=5 then decide ((kinds m).length=m.length) else decide (((kinds m).length:Int)≤k)&&m.all (fun v=>decide (v∈l))
def BG(task:Int)(l m:List Int):Bool:=if task=1 then(decide (0∈l)&&eqv m 0) || (!decide (0∈l)&&eqv m 1) else if task=3 then eqv m (l.getD 0 default) else false
def BO(task:Int)(l:List Int):Bool:=decide (task≠5) || decide ((kinds l).length=l.length)
end Go.Proofs.YtcbkggfipdldaaaGreat.Lb
namespace Go.Proofs.YtcbkggfipdldaaaGreat.Lb
open Go Go.Abs
open Nat (reduceEqDiff reduceAdd reduceLeDiff)
attribute [local irreducible] aG al bh a7 aV aU aB aX a9 bt Go.Abs.Fn aZ Go.Abs.Pure ax aO Yl
def gm(base lim:Nat):Nat→Nat
 |0=>1
 |i+1=>if gm base lim i≤lim then gm base lim i*base else gm base lim i
theorem mP{base lim:Nat}(hb:base≤8)(h1:1≤lim):∀i,gm base lim i≤lim*8
 |0=>by unfold gm;omega
 |i+1=>by
  unfold gm;split
  ·exact Nat.mul_le_mul (by assumption) hb
  ·exact mP hb h1 i
theorem pz{base lim i:Nat}(h:lim<gm base lim i):∀n,i≤n→gm base lim n=gm base lim i
 |0,hn=>by rw[show i=0 by omega]
 |n+1,hn=>by
  by_cases e:i=n+1
  ·rw[e]
  ·have:=pz h n (by omega);show(if gm base lim n≤lim then gm base lim n*base else gm base lim n)=_;rw[this,if_neg (by omega)]
theorem uE(base n lim:Nat)(hb:base≤8)(hn:n≤5)(h1:1≤lim∧lim≤2000):pU 32 [.int .i64 base,.int .i64 n,.int .i64 lim] (.int .i64 (gm base lim n)):=by
 refine pO CZ ?_;simp only[b32,ay];have p0:((gm base lim 0:Nat):Int)=1:=rfl;have nm:∀a b:Nat,(a:Int)*b=((a*b:Nat):Int):=fun a b=>(Int.natCast_mul a b).symm
 repeat' (first|refine zW ?_|apply a_n|refine zO ?_|refine vZ ?_|fail)
 refine dJ (X:=Nat) (fun k=>[(0,.int .i64 base),(1,.int .i64 n),(2,.int .i64 lim),(7,.int .i64 (gm base lim k)),(8,.int .i64 k)]) (fun k=>k≤n) (fun k=>n-k) 0 (cu _) (have zz:=@p0;agZ) ?_;rintro k hk;have hp:=mP hb h1.1 k
 repeat' (first|refine zW ?_|apply a_n|apply a_x|refine zO ?_|refine vZ ?_|refine gTZ ?_|refine gFZ ?_|refine cFZ ?_|(refine zGZ ?_ ?_<;>(intro _hg;try (exfalso;omega)))|refine ae rfl ?_|refine r1Z ?_|fail)
 ·have hpb:gm base lim k*base≤2000*8:=Nat.mul_le_mul (by omega) hb;refine⟨k+1,by omega,by omega,?_,rfl,rfl⟩;rw[gm,if_pos (by omega)];simp (disch:=omega) only[agr,ZG,reduceEqDiff,↓reduceIte,nm]
 ·refine aR ?_;rw[pz (by omega) n hk]
 ·refine aR ?_;rw[show k=n by omega]
structure Two(H:Hp)(nx lo:Nat)(so sc:AV)(A C:List AV):Prop where
 r1:Row H 1 so A
 r2:Row H 1 sc C
 b1:∀b,cH so=some b→lo≤b∧b<nx
 b2:∀b,cH sc=some b→lo≤b∧b<nx
 ne:∀b,cH so=some b→cH sc≠some b
theorem Two.swap{H:Hp}{nx lo:Nat}{so sc:AV}{A C:List AV}(h:Two H nx lo so sc A C):Two H nx lo sc so C A:=⟨h.r2,h.r1,h.b2,h.b1,fun b h1 h2=>h.ne b h2 h1⟩
theorem Two.put1{H E:Hp}{nx e lo:Nat}{so sc s2:AV}{A C new:List AV}(h:Two H nx lo so sc A C)(hlo:lo≤nx)(hrow:Row E 1 s2 (A++new))(hle:nx≤e)(hs:∀i,i<nx→cH so≠some i→E i=H i)
    (hb:∀b,cH s2=some b→cH so=some b∨nx≤b∧b<e):Two E e lo s2 sc (A++new) C:=by
 refine⟨hrow,h.r2.same fun b hb'=>hs b (h.b2 b hb').2 (fun h1=>h.ne b h1 hb'),fun b hb'=>?_,fun b hb'=>?_,fun b hb' h2=>?_⟩
 ·rcases hb b hb' with h1|h1
  ·have:=h.b1 b h1;omega
  ·omega
 ·have:=h.b2 b hb';omega
 ·rcases hb b hb' with h1|h1
  ·exact h.ne b h1 h2
  ·have:=h.b2 b h2;omega
end Go.Proofs.YtcbkggfipdldaaaGreat.Lb
namespace Go.Proofs.YtcbkggfipdldaaaGreat.Lb
open Go Go.Abs
attribute [local irreducible] aG al bh a7 aV aU aB aX a9 bt Go.Abs.Fn aZ Go.Abs.Pure ax aO Yl
def Bd(task ins outs k:Int)(n o:Nat)(l:List Int):CaseV:=⟨l,(every n o).filter (xS task ins outs k l),(every n o).filter fun m=>xS task ins outs k l m&&BG task l m⟩
def rcases(task ins outs k:Int)(n o:Nat)(L:List (List Int)):List CaseV:=(L.filter (BO task)).map (Bd task ins outs k n o)
end Go.Proofs.YtcbkggfipdldaaaGreat.Lb
namespace Go.Proofs.YtcbkggfipdldaaaGreat.Lb
open Go Go.Abs
open Nat (reduceEqDiff reduceAdd reduceLeDiff)
attribute [local irreducible] aG al bh a7 aV aU aB aX a9 bt Go.Abs.Fn aZ Go.Abs.Pure ax aO Yl
theorem ve(a:List Int)(ha:Sh a):pU 31 [aC a,aC a] (.int .i64 0):=by
 refine pO Cz ?_;simp only[b31,ay]
 repeat' (first|refine zW ?_|apply a_n|refine zO ?_|refine vZ ?_|fail)
 refine dJ (X:=Nat) (fun k=>[(0,aC a),(1,aC a),(5,.int .i64 k)]) (fun k=>k≤a.length) (fun k=>a.length-k) 0 (cu _) ag0 ?_;rintro k h1
 repeat' (first|refine zW ?_|apply a_n|apply a_x|refine zO ?_|refine vZ ?_|refine gTZ ?_|refine gFZ ?_|refine cFZ ?_|(refine zGZ ?_ ?_<;>(intro _hg;try (exfalso;omega)))|refine ae rfl ?_|refine r1Z ?_|fail)
 ·refine⟨k+1,by omega,by omega,ag0,rfl,rfl⟩
 ·exact .int _ _
theorem ff(a:List (List Int))(ha:Sh a)(hs:∀x∈a,Sh x):pU 19 [bd a,bd a] (.bool true):=by
 refine pO BL ?_;simp only[b19,ay]
 repeat' (first|refine zW ?_|apply a_n|refine zO ?_|refine vZ ?_|(refine zGZ ?_ ?_<;>(intro _hg;try (exfalso;omega)))|fail)
 refine dJ (X:=Nat) (fun k=>[(0,bd a),(1,bd a),(5,.int .i64 k)]) (fun k=>k≤a.length) (fun k=>a.length-k) 0 (cu _) ag0 ?_;rintro k h1
 repeat' (first|refine zW ?_|refine zM ?_|apply a_n|apply a_x|refine zO ?_|refine vZ ?_|refine cZ ?_ (hp:=by exact ve _ (hs _ (an (by omega))))|(refine zGZ ?_ ?_<;>(intro _hg;try (exfalso;omega)))|refine ae rfl ?_|refine r1Z ?_|fail)
 ·refine⟨k+1,by omega,by omega,ag0,rfl,rfl⟩
 ·exact .bool _
theorem aS(l:List CaseV):dG (encCs l)=some (.int .i64 l.length):=by simp[dG,encCs]
theorem a6{l:List CaseV}{k:Nat}(h:k<l.length):eH 3 (encCs l) (.int .i64 k)=some (.iptr [aC (l.getD k default).inp,bd (l.getD k default).out,bd (l.getD k default).calm] 0):=by
 simp[eH,encCs,h,List.getD,eb,AV.cells]
def ShC(c:CaseV):Prop:=Sh c.inp∧Sh c.out∧(∀x∈c.out,Sh x)∧Sh c.calm∧∀x∈c.calm,Sh x
theorem xf(t:TaskV)(h1:Sh t.cases)(h2:∀c∈t.cases,ShC c):pU 12 [encT t,encT t] (.bool true):=by
 refine pO Cn ?_;simp only[b12,ay];have zz:=aI @ba (aI @az (aI @ar @aS));repeat' (first|refine zW ?_|apply a_n|refine zO ?_|refine vZ ?_|refine bxZ ?_|refine gTZ ?_|(refine zGZ ?_ ?_<;>(intro _hg;try (exfalso;omega)))|fail)
 refine bo (X:=Nat) (fun k=>[(2,.ptr 0 4 0),(3,.ptr 1 4 0),(5,.int .i64 k)]) (fun k H nx=>k≤t.cases.length∧2≤nx∧H 0=some [.int .i64 t.n,.int .i64 t.ins,.int .i64 t.outs,encCs t.cases]∧H 1=some [.int .i64 t.n,.int .i64 t.ins,.int .i64 t.outs,encCs t.cases]) (fun k=>t.cases.length-k) 0 ⟨cu _,aM _,rfl,rfl⟩ (by simp (disch:=omega) only[agr,ZG,reduceEqDiff,↓reduceIte,de,dF,reduceAdd,bQ]) ?_;rintro k H nx ⟨hk,hn,g0,g1⟩;by_cases hj:k<t.cases.length
 ·obtain⟨s1,s2,s3,s4,s5⟩:=h2 _ (an hj);clear zz;have zz:=aI @g0 (aI @g1 (aI @az (aI @ar (aI @aS @a6))));repeat' (first|refine zW ?_|apply a_n|refine zO ?_|refine vY ?_|refine cY ?_ (hp:=by first|exact ve _ s1|exact ff _ s2 s3|exact ff _ s4 s5)|refine alY ?_|refine stY ?_|refine gTY ?_|refine cFY ?_|(refine zGY ?_ ?_<;>(intro _hg;try (exfalso;omega)))|fail)
  refine⟨k+1,by omega,⟨by omega,by omega,?_,?_⟩,ag0⟩
  ·rw[af (by omega),af (by omega),af (by omega),af (by omega),g0]
  ·rw[af (by omega),af (by omega),af (by omega),af (by omega),g1]
 ·clear zz;have zz:=aI @g0 (aI @g1 (aI @az (aI @ar (aI @aS @a6))));repeat' (first|refine zW ?_|apply a_n|apply a_x|refine zO ?_|refine vY ?_|(refine zGY ?_ ?_<;>(intro _hg;try (exfalso;omega)))|refine ae rfl ?_|refine r1Y ?_|fail)
  exact .bool _
def jY(n ins outs:Int):Bool:=decide (n<1∨5<n∨ins<1∨8<ins∨outs<1∨8<outs) || decide (gm ins.toNat 1000 n.toNat*gm outs.toNat 1000 n.toNat≤3000)
theorem zU(n ins outs:Int):pU 13 [.int .i64 n,.int .i64 ins,.int .i64 outs] (.bool (jY n ins outs)):=by
 refine pO Dq ?_;simp only[b13,ay];refine cC ?_
 repeat' (first|apply a_n|refine zO ?_|refine vZ ?_|fail)
 by_cases h:n<1∨5<n∨ins<1∨8<ins∨outs<1∨8<outs
 ·refine aQ (fun _ _ _=>False) ?_ (fun _ _ _ h=>h.elim)
  repeat' (first|refine zW ?_|apply a_n|apply a_r|refine zO ?_|refine vZ ?_|refine gTZ ?_|refine gFZ ?_|refine cTZ ?_|(refine zGZ ?_ ?_<;>(intro _hg;try (exfalso;omega)))|refine ae rfl ?_|refine r1Z ?_|fail)
  all_goals (refine aY ?_;unfold jY;rw[cA h];rfl)
 ·refine aQ (fun T H nx=>T 0=.int .i64 n∧T 1=.int .i64 ins∧T 2=.int .i64 outs) ?_ ?_
  ·repeat' (first|refine zW ?_|apply a_n|refine zO ?_|refine vZ ?_|refine gTZ ?_|(refine zGZ ?_ ?_<;>(intro _hg;try (exfalso;omega)))|fail)
   exact⟨rfl,rfl,rfl⟩
  ·rintro T H nx ⟨t0,t1,t2⟩;obtain⟨N,rfl⟩:∃N:Nat,n=N:=⟨n.toNat,by omega⟩
   obtain⟨V,rfl⟩:∃V:Nat,ins=V:=⟨ins.toNat,by omega⟩
   obtain⟨O,rfl⟩:∃O:Nat,outs=O:=⟨outs.toNat,by omega⟩
   have q1:=mP (base:=V) (lim:=1000) (by omega) (by omega) N;have q2:=mP (base:=O) (lim:=1000) (by omega) (by omega) N;have q3:gm V 1000 N*gm O 1000 N≤(1000*8)*(1000*8):=Nat.mul_le_mul q1 q2;have p1:=uE V N 1000 (by omega) (by omega) (by omega);have p2:=uE O N 1000 (by omega) (by omega) (by omega);have nm:∀a b:Nat,(a:Int)*b=((a*b:Nat):Int):=fun a b=>(Int.natCast_mul a b).symm;have zz:=aI @t0 (aI @t1 (aI @t2 @nm));repeat' (first|refine zW ?_|apply a_n|refine zO ?_|refine vZ ?_|refine cZ ?_ (hp:=by first|exact p1|exact p2)|refine ae rfl ?_|refine r1Z ?_|fail)
   refine aY ?_;unfold jY;rw[dN h,Bool.false_or,bD,bD,bD];exact decide_eq_decide.2 (Int.ofNat_le (n:=3000))
end Go.Proofs.YtcbkggfipdldaaaGreat.Lb
namespace Go.Proofs.YtcbkggfipdldaaaGreat.Lb
open Go Go.Abs
theorem vX{H:Hp}{b n len:Nat}{cs l:List AV}(hb:H b=some cs)(hn:cs.length=n)(hl:l.length=len)(hs:n=len)(hc:∀y∈l,y.cells=[y])(h:aO H cs l):Snap H (.msl b n 1 0 len) (.sl 1 l):=by
 subst hs;refine ky hb hn (by omega) hl hc (fun i a c ha hc'=>?_);rw[bQ] at ha;exact h.2 i a c ha hc'
attribute [local irreducible] aG al bh a7 aV aU aB aX a9 bt Go.Abs.Fn aZ Go.Abs.Pure ax aO Yl
theorem zo:(consensusT 2 2).2=0∧(consensusT 2 2).1.cases.length=4∧((consensusT 2 2).1.cases.getD 1 default).out=[[0,0],[1,1]]∧((consensusT 2 2).1.cases.getD 3 default).out.length=1∧((consensusT 2 2).1.cases.getD 1 default).calm.length=0:=by decide
theorem yB:(approxT 2 3).2=0∧(approxT 2 3).1.cases.length=4∧((approxT 2 3).1.cases.getD 1 default).out.length=10∧((approxT 2 3).1.cases.getD 3 default).out.length=1:=by decide
theorem Ag:(renT 2 3 3).2=0∧(renT 2 3 3).1.cases.length=6∧((renT 2 3 3).1.cases.getD 0 default).out.length=6:=by decide
theorem yN:(renT 3 3 2).2=16∧(renT 3 2 3).2=16:=by decide
theorem zb:(crusT 2 2).2=0∧(crusT 2 2).1.cases.length=4∧((crusT 2 2).1.cases.getD 0 default).out.length=7∧((crusT 2 2).1.cases.getD 2 default).calm=[[1,1]]:=by decide
theorem Al:(comT 2).2=0∧(comT 2).1.cases.length=4∧((comT 2).1.cases.getD 3 default).calm=[[1,1]]∧((comT 2).1.cases.getD 3 default).out.length=2∧((comT 2).1.cases.getD 1 default).out.length=1:=by decide
theorem qI{H:Hp}{b n len:Nat}{cs:List AV}{l:List (List Int)}(hb:H b=some cs)(hn:cs.length=n)(hl:l.length=len)(hs:n=len)(h:aO H cs (l.map aC)):Snap H (.msl b n 1 0 len) (bd l):=
 vX hb hn (by simpa using hl) hs (fun y hy=>by obtain⟨x,_,rfl⟩:=dp.1 hy;rfl) h
theorem awake_c:pU 5 [] (.bool true):=by
 refine pO is5 ?_;simp only[b5,ay];have c1:=lR 2 2;have c2:=rP 2 3;have c3:=uY 2 3 3;have c4:=uY 3 3 2;have c5:=uY 3 2 3;have c6:=xD 2 2;have c7:=zV 2;obtain⟨a1,a2,a3,a4,a5⟩:=zo;obtain⟨b1,b2,b3,b4⟩:=yB;obtain⟨d1,d2,d3⟩:=Ag;obtain⟨e1,e2⟩:=yN;obtain⟨f1,f2,f3,f4⟩:=zb;obtain⟨g1,g2,g3,g4,g5⟩:=Al;generalize consensusT 2 2=C1 at *;generalize approxT 2 3=C2 at *;generalize renT 2 3 3=C3 at *;generalize renT 3 3 2=C4 at *;generalize renT 3 2 3=C5 at *;generalize crusT 2 2=C6 at *;generalize comT 2=C7 at *;refine cC ?_
 repeat' (first|apply a_n|refine zO ?_|refine vZ ?_|fail)
 refine cC ?_;have zz:=aI @ba (aI @az (aI @ar @a1));repeat' (first|apply a_n|refine zO ?_|refine vZ ?_|refine cZ ?_ (hp:=c1)|refine alZ ?_|refine stZ ?_|fail)
 refine cC ?_;clear zz;have zz:=aI @ba (aI @az (aI @ar @b1));repeat' (first|apply a_n|refine zO ?_|refine vZ ?_|refine cZ ?_ (hp:=c2)|refine alZ ?_|refine stZ ?_|fail)
 refine cC ?_;clear zz;have zz:=aI @ba (aI @az (aI @ar @d1));repeat' (first|apply a_n|refine zO ?_|refine vZ ?_|refine cZ ?_ (hp:=c3)|refine alZ ?_|refine stZ ?_|fail)
 refine cC ?_;clear zz;have zz:=aI @ba (aI @az (aI @ar @e1));repeat' (first|apply a_n|refine zO ?_|refine vZ ?_|refine cZ ?_ (hp:=c4)|refine alZ ?_|refine stZ ?_|fail)
 refine cC ?_;clear zz;have zz:=aI @ba (aI @az (aI @ar @e2));repeat' (first|apply a_n|refine zO ?_|refine vZ ?_|refine cZ ?_ (hp:=c5)|refine alZ ?_|refine stZ ?_|fail)
 refine cC ?_;clear zz;have zz:=aI @ba (aI @az (aI @ar @f1));repeat' (first|apply a_n|refine zO ?_|refine vZ ?_|refine cZ ?_ (hp:=c6)|refine alZ ?_|refine stZ ?_|fail)
 refine cC ?_;clear zz;have zz:=aI @ba (aI @az (aI @ar @g1));repeat' (first|apply a_n|refine zO ?_|refine vZ ?_|refine cZ ?_ (hp:=c7)|refine alZ ?_|refine stZ ?_|fail)
 refine aQ (fun T H nx=>nx=7∧T 1=.ptr 0 4 0∧T 3=.ptr 1 4 0∧T 5=.ptr 2 4 0∧T 11=.ptr 5 4 0∧T 13=.ptr 6 4 0∧H 0=some [.int .i64 C1.1.n,.int .i64 C1.1.ins,.int .i64 C1.1.outs,encCs C1.1.cases]∧H 1=some [.int .i64 C2.1.n,.int .i64 C2.1.ins,.int .i64 C2.1.outs,encCs C2.1.cases]
  ∧H 2=some [.int .i64 C3.1.n,.int .i64 C3.1.ins,.int .i64 C3.1.outs,encCs C3.1.cases]∧H 5=some [.int .i64 C6.1.n,.int .i64 C6.1.ins,.int .i64 C6.1.outs,encCs C6.1.cases]∧H 6=some [.int .i64 C7.1.n,.int .i64 C7.1.ins,.int .i64 C7.1.outs,encCs C7.1.cases]) ?_ ?_
 ·clear zz;have zz:=aI @aS (aI @a2 (aI @b2 (aI @d2 (aI @f2 @g2))));repeat' (first|refine zW ?_|apply a_n|refine zO ?_|refine vZ ?_|refine gTZ ?_|(refine zGZ ?_ ?_<;>(intro _hg;try (exfalso;omega)))|fail)
  exact⟨rfl,rfl,rfl,rfl,rfl,rfl,rfl,rfl,rfl,rfl,rfl⟩
 ·rintro T H nx ⟨rfl,t1,t3,t5,t11,t13,h0,h1,h2,h5,h6⟩;have i1:eH 3 (encCs C1.1.cases) (.int .i64 1)=_:=a6 (l:=C1.1.cases) (k:=1) (by omega);have i2:eH 3 (encCs C1.1.cases) (.int .i64 3)=_:=a6 (l:=C1.1.cases) (k:=3) (by omega);have i3:eH 3 (encCs C2.1.cases) (.int .i64 1)=_:=a6 (l:=C2.1.cases) (k:=1) (by omega);have i4:eH 3 (encCs C2.1.cases) (.int .i64 3)=_:=a6 (l:=C2.1.cases) (k:=3) (by omega);have i5:eH 3 (encCs C3.1.cases) (.int .i64 0)=_:=a6 (l:=C3.1.cases) (k:=0) (by omega);have i6:eH 3 (encCs C6.1.cases) (.int .i64 0)=_:=a6 (l:=C6.1.cases) (k:=0) (by omega);have i7:eH 3 (encCs C6.1.cases) (.int .i64 2)=_:=a6 (l:=C6.1.cases) (k:=2) (by omega);have i8:eH 3 (encCs C7.1.cases) (.int .i64 3)=_:=a6 (l:=C7.1.cases) (k:=3) (by omega);have i9:eH 3 (encCs C7.1.cases) (.int .i64 1)=_:=a6 (l:=C7.1.cases) (k:=1) (by omega);rw[a3] at i1;rw[f4] at i7;rw[g3] at i8;clear zz;have zz:=aI @t1 (aI @t3 (aI @t5 (aI @t11 (aI @t13 (aI @h0 (aI @h1 (aI @h2 (aI @h5 (aI @h6 (aI @aS (aI @fi (aI @i1 (aI @i2 (aI @i3 (aI @i4 (aI @i5 (aI @i6 (aI @i7 (aI @i8 @i9)))))))))))))))))));repeat' (first|refine zW ?_|apply a_n|refine zO ?_|refine vZ ?_|refine blZ ?_|fail)
  refine co ev0 ev0 (ff [[0,0],[1,1]] (by simp) (by simp)) (ak (ap (bi _ _) (ap (qI (len:=2) (l:=[[0,0],[1,1]]) aj rfl rfl rfl (ap (cV (len:=2) (l:=[0,0]) ev0 rfl rfl) (ap (cV (len:=2) (l:=[1,1]) ev0 rfl rfl) ai))) ai)) rfl) ?_;clear zz;have zz:=aI @t1 (aI @t3 (aI @t5 (aI @t11 (aI @t13 (aI @h0 (aI @h1 (aI @h2 (aI @h5 (aI @h6 (aI @aS (aI @fi (aI @i1 (aI @i2 (aI @i3 (aI @i4 (aI @i5 (aI @i6 (aI @i7 (aI @i8 (aI @i9 (aI @a4 (aI @a5 (aI @b3 (aI @b4 (aI @d3 (aI @f3 (aI @g4 @g5)))))))))))))))))))))))))));repeat' (first|apply a_n|refine zO ?_|refine vZ ?_|refine blZ ?_|refine gTZ ?_|(refine zGZ ?_ ?_<;>(intro _hg;try (exfalso;omega)))|fail)
  refine co ev0 ev0 (ff [[1,1]] (by simp) (by simp)) (ak (ap (bi _ _) (ap (qI (len:=1) (l:=[[1,1]]) aj rfl rfl rfl (ap (cV (len:=2) (l:=[1,1]) ev0 rfl rfl) ai)) ai)) rfl) ?_;clear zz;have zz:=aI @t1 (aI @t3 (aI @t5 (aI @t11 (aI @t13 (aI @h0 (aI @h1 (aI @h2 (aI @h5 (aI @h6 (aI @aS (aI @fi (aI @i1 (aI @i2 (aI @i3 (aI @i4 (aI @i5 (aI @i6 (aI @i7 (aI @i8 (aI @i9 (aI @a4 (aI @a5 (aI @b3 (aI @b4 (aI @d3 (aI @f3 (aI @g4 @g5)))))))))))))))))))))))))));repeat' (first|apply a_n|refine zO ?_|refine vZ ?_|refine blZ ?_|refine gTZ ?_|fail)
  refine co ev0 ev0 (ff [[1,1]] (by simp) (by simp)) (ak (ap (bi _ _) (ap (qI (len:=1) (l:=[[1,1]]) aj rfl rfl rfl (ap (cV (len:=2) (l:=[1,1]) ev0 rfl rfl) ai)) ai)) rfl) ?_;clear zz;have zz:=aI @t1 (aI @t3 (aI @t5 (aI @t11 (aI @t13 (aI @h0 (aI @h1 (aI @h2 (aI @h5 (aI @h6 (aI @aS (aI @fi (aI @i1 (aI @i2 (aI @i3 (aI @i4 (aI @i5 (aI @i6 (aI @i7 (aI @i8 (aI @i9 (aI @a4 (aI @a5 (aI @b3 (aI @b4 (aI @d3 (aI @f3 (aI @g4 @g5)))))))))))))))))))))))))));repeat' (first|apply a_n|refine zO ?_|refine vZ ?_|refine gTZ ?_|(refine zGZ ?_ ?_<;>(intro _hg;try (exfalso;omega)))|refine ae rfl ?_|refine r1Z ?_|fail)
  all_goals exact aY (by simp)
end Go.Proofs.YtcbkggfipdldaaaGreat.Lb
namespace Go.Proofs.YtcbkggfipdldaaaGreat.Lb
open Go Go.Abs
theorem kinds_pos{l:List Int}(h:l≠[]):1≤(kinds l).length:=by
 cases l with
 |nil=>exact absurd rfl h
 |cons a l=>
  have:a∈kinds (a::l):=mem_kinds.2 (by simp);cases hk:kinds (a::l) with
  |nil=>rw[hk] at this;cases this
  |cons _ _=>simp
theorem kinds_one{l:List Int}:(kinds l).length≤1↔ ∀x∈l,∀y∈l,x=y:=by
 constructor
 ·intro h x hx y hy;have hx:=mem_kinds.2 hx;have hy:=mem_kinds.2 hy
  match hk:kinds l,h,hx,hy with
  |[],_,hx,_=>cases hx
  |[a],_,hx,hy=>simp at hx hy;omega
  |a::b::r,h,_,_=>simp at h
 ·intro h;cases l with
  |nil=>simp[kinds]
  |cons c l=>
   have key:∀(l ks:List Int),(∀x∈l,x=c)→(ks=[]∨ks=[c])→(l.foldl (fun ks v=>if v∈ks then ks else ks++[v]) ks=[]∨l.foldl (fun ks v=>if v∈ks then ks else ks++[v]) ks=[c]):=by
    intro l
    induction l with
    |nil=>intro ks _ h;exact h
    |cons a l ih=>
     intro ks h1 h2;rw[List.foldl_cons];refine ih _ (fun x hx=>h1 x (by simp[hx])) ?_;have:a=c:=h1 a (by simp);subst this;rcases h2 with rfl|rfl
     ·simp
     ·simp
   rcases key (c::l) [] (fun x hx=>h x hx c (by simp)) (.inl rfl) with h|h
   ·unfold kinds;rw[h];simp
   ·unfold kinds;rw[h];simp
end Go.Proofs.YtcbkggfipdldaaaGreat.Lb
namespace Go.Proofs.YtcbkggfipdldaaaGreat.Lb
open Go Go.Abs
attribute [local irreducible] aG al bh a7 aV aU aB aX a9 bt Go.Abs.Fn aZ Go.Abs.Pure ax aO Yl
end Go.Proofs.YtcbkggfipdldaaaGreat.Lb
namespace Go.Proofs.YtcbkggfipdldaaaGreat.Lb
open Go Go.Abs
end Go.Proofs.YtcbkggfipdldaaaGreat.Lb
namespace Go.Proofs.YtcbkggfipdldaaaGreat.Lb
open Go Go.Abs
attribute [local irreducible] aG al bh a7 aV aU aB aX a9 bt Go.Abs.Fn aZ Go.Abs.Pure ax aO Yl
def vh:ByteArray:=ByteArray.mk (Array.mk [97,112,112,114,111,120,105,109,97,116,101])
def zc:ByteArray:=ByteArray.mk (Array.mk [99,111,109,109,105,116])
def vb:ByteArray:=ByteArray.mk (Array.mk [99,111,110,115,101,110,115,117,115])
def vq:ByteArray:=ByteArray.mk (Array.mk [99,114,117,115,97,100,101,114])
def ux:ByteArray:=ByteArray.mk (Array.mk [108,101,97,100,101,114])
def zA:ByteArray:=ByteArray.mk (Array.mk [114,101,110,97,109,105,110,103])
def zh:ByteArray:=ByteArray.mk (Array.mk [115,101,116])
theorem Dv(n a b:Int):pU 54 [.int .i64 n,.int .i64 a,.int .i64 b] (.tup [encT (approxT n a).1,.int .i64 (approxT n a).2]):=by
 refine pO DG ?_;simp only[b54,ay];have h:=rP n a;have zz:=aI @ba (aI @az @ar);repeat' (first|refine zW ?_|apply a_n|refine zO ?_|refine vZ ?_|refine cZ ?_ (hp:=h)|refine alZ ?_|refine stZ ?_|refine ae rfl ?_|refine r2Z ?_|fail)
 exact bL _ _ _
theorem DK(n a b:Int):pU 55 [.int .i64 n,.int .i64 a,.int .i64 b] (.tup [encT (comT n).1,.int .i64 (comT n).2]):=by
 refine pO Dh ?_;simp only[b55,ay];have h:=zV n;have zz:=aI @ba (aI @az @ar);repeat' (first|refine zW ?_|apply a_n|refine zO ?_|refine vZ ?_|refine cZ ?_ (hp:=h)|refine alZ ?_|refine stZ ?_|refine ae rfl ?_|refine r2Z ?_|fail)
 exact bL _ _ _
theorem CY(n a b:Int):pU 56 [.int .i64 n,.int .i64 a,.int .i64 b] (.tup [encT (consensusT n a).1,.int .i64 (consensusT n a).2]):=by
 refine pO DZ ?_;simp only[b56,ay];have h:=lR n a;have zz:=aI @ba (aI @az @ar);repeat' (first|refine zW ?_|apply a_n|refine zO ?_|refine vZ ?_|refine cZ ?_ (hp:=h)|refine alZ ?_|refine stZ ?_|refine ae rfl ?_|refine r2Z ?_|fail)
 exact bL _ _ _
theorem CV(n a b:Int):pU 57 [.int .i64 n,.int .i64 a,.int .i64 b] (.tup [encT (crusT n a).1,.int .i64 (crusT n a).2]):=by
 refine pO DT ?_;simp only[b57,ay];have h:=xD n a;have zz:=aI @ba (aI @az @ar);repeat' (first|refine zW ?_|apply a_n|refine zO ?_|refine vZ ?_|refine cZ ?_ (hp:=h)|refine alZ ?_|refine stZ ?_|refine ae rfl ?_|refine r2Z ?_|fail)
 exact bL _ _ _
theorem C0(n a b:Int):pU 58 [.int .i64 n,.int .i64 a,.int .i64 b] (.tup [encT (leadT n).1,.int .i64 (leadT n).2]):=by
 refine pO Di ?_;simp only[b58,ay];have h:=AG n;have zz:=aI @ba (aI @az @ar);repeat' (first|refine zW ?_|apply a_n|refine zO ?_|refine vZ ?_|refine cZ ?_ (hp:=h)|refine alZ ?_|refine stZ ?_|refine ae rfl ?_|refine r2Z ?_|fail)
 exact bL _ _ _
def eP:List AV:=[.str vh,.str zc,.str vb,.str vq,.str ux,.str zA,.str zh]
def gz:List AV:=[.func 54 [],.func 55 [],.func 56 [],.func 57 [],.func 58 [],.func 16 [],.func 60 []]
theorem uS(H:Hp)(nx:Nat):Abs.Fn Tryz.prog 22 [] H nx fun r H' nx'=>r=.mp nx∧H' nx=some [.omap eP gz]∧nx'=nx+1∧∀x,x≠nx→H' x=H x:=by
 refine fO DD ?_;simp only[b22,ay]
 repeat' (first|refine zW ?_|apply a_n|refine zO ?_|refine vZ ?_|fail)
 refine zP ?_;refine iE ev0 aj (kv:=.str vh) (xv:=.func 54 []) rfl rfl rfl (r:=none) (by decide+kernel) ?_;refine iE ev0 aj (kv:=.str zc) (xv:=.func 55 []) rfl rfl rfl (r:=none) (by decide+kernel) ?_;refine iE ev0 aj (kv:=.str vb) (xv:=.func 56 []) rfl rfl rfl (r:=none) (by decide+kernel) ?_;refine iE ev0 aj (kv:=.str vq) (xv:=.func 57 []) rfl rfl rfl (r:=none) (by decide+kernel) ?_;refine iE ev0 aj (kv:=.str ux) (xv:=.func 58 []) rfl rfl rfl (r:=none) (by decide+kernel) ?_;refine iE ev0 aj (kv:=.str zA) (xv:=.func 16 []) rfl rfl rfl (r:=none) (by decide+kernel) ?_;refine iE ev0 aj (kv:=.str zh) (xv:=.func 60 []) rfl rfl rfl (r:=none) (by decide+kernel) ?_
 repeat' (first|apply a_n|refine zO ?_|refine vZ ?_|refine ae rfl ?_|refine r1Z ?_|fail)
 refine⟨rfl,?_,rfl,fun x hx=>?_⟩
 ·rw[aj];rfl
 ·simp only[af hx]
end Go.Proofs.YtcbkggfipdldaaaGreat.Lb
namespace Go.Proofs.YtcbkggfipdldaaaGreat.Lb
open Go Go.Abs
open Nat (reduceEqDiff reduceAdd reduceLeDiff)
def pickB(s:ByteArray):Option Nat:=
 if (s.toList==vh.toList)=true then some 0 else if (s.toList==zc.toList)=true then some 1 else if (s.toList==vb.toList)=true then some 2 else if (s.toList==vq.toList)=true then some 3 else
 if (s.toList==ux.toList)=true then some 4 else if (s.toList==zA.toList)=true then some 5 else if (s.toList==zh.toList)=true then some 6 else none
theorem sL(s:ByteArray):cR (.one .str) (.str s) eP=some (pickB s):=by
 unfold eP pickB;simp only[cR,jM,iv]
 repeat' split
 all_goals simp_all
def getT(s:ByteArray)(n a b:Int):TaskV×Int:=match pickB s with
 |some 0=>approxT n a
 |some 1=>comT n
 |some 2=>consensusT n a
 |some 3=>crusT n a
 |some 4=>leadT n
 |some 5=>renT n a b
 |some 6=>setT n a b
 |_=>(T00,8)
theorem yu(s:ByteArray):pickB s=none∨pickB s=some 0∨pickB s=some 1∨pickB s=some 2∨pickB s=some 3∨pickB s=some 4∨pickB s=some 5∨pickB s=some 6:=by
 unfold pickB
 repeat' split
 all_goals simp
attribute [local irreducible] aG al bh a7 aV aU aB aX a9 bt Go.Abs.Fn aZ Go.Abs.Pure ax aO Yl
theorem get_c(s:ByteArray)(n a b:Int):pU 7 [.str s,.int .i64 n,.int .i64 a,.int .i64 b] (.tup [encT (getT s n a b).1,.int .i64 (getT s n a b).2]):=by
 refine pO is7 ?_;simp only[b7,ay];refine cC ?_
 repeat' (first|apply a_n|refine zO ?_|refine vZ ?_|refine alZ ?_|fail)
 refine cC ?_
 repeat' (first|apply a_n|refine zO ?_|fail)
 refine lC ev0 (Abs.Fn.mono (by((try simp only[bR,ZA,reduceEqDiff,↓reduceIte,reduceAdd,reduceLeDiff]);(try with_reducible rfl));exact uS _ _) ?_);rintro _ H nx ⟨rfl,h1,rfl,h2⟩
 repeat' (first|apply a_n|refine zO ?_|refine vZ ?_|fail)
 refine AD ev0 h1 ev0 rfl (sL s) ?_;have h0:=h2 0 (by omega);rw[show am bA 0 [AV.int IntKind.i64 0,AV.int IntKind.i64 0,AV.int IntKind.i64 0,AV.esl] 0=some [AV.int IntKind.i64 0,AV.int IntKind.i64 0,AV.int IntKind.i64 0,AV.esl] from rfl] at h0;have c1:=Dv n a b;have c2:=DK n a b;have c3:=CY n a b;have c4:=CV n a b;have c5:=C0 n a b;have c6:=uY n a b;have c7:=CK n a b;unfold getT;rcases yu s with e|e|e|e|e|e|e|e<;>rw[e]<;>simp only[mget,gz,if_true,List.getD,mA,ua,Option.getD]
 ·have zz:=aI @ba (aI @az (aI @ar @h0));repeat' (first|refine zW ?_|apply a_n|apply a_r|refine zO ?_|refine vZ ?_|refine stZ ?_|refine cTZ ?_|refine ae rfl ?_|refine r2Z ?_|fail)
  exact eI 8
 ·have zz:=aI @ba (aI @az (aI @ar @h0));repeat' (first|refine zW ?_|apply a_n|refine zO ?_|refine vZ ?_|refine cZ ?_ (hp:=c1)|refine stZ ?_|refine cFZ ?_|refine ae rfl ?_|refine r2Z ?_|fail)
  exact bL _ _ _
 ·have zz:=aI @ba (aI @az (aI @ar @h0));repeat' (first|refine zW ?_|apply a_n|refine zO ?_|refine vZ ?_|refine cZ ?_ (hp:=c2)|refine stZ ?_|refine cFZ ?_|refine ae rfl ?_|refine r2Z ?_|fail)
  exact bL _ _ _
 ·have zz:=aI @ba (aI @az (aI @ar @h0));repeat' (first|refine zW ?_|apply a_n|refine zO ?_|refine vZ ?_|refine cZ ?_ (hp:=c3)|refine stZ ?_|refine cFZ ?_|refine ae rfl ?_|refine r2Z ?_|fail)
  exact bL _ _ _
 ·have zz:=aI @ba (aI @az (aI @ar @h0));repeat' (first|refine zW ?_|apply a_n|refine zO ?_|refine vZ ?_|refine cZ ?_ (hp:=c4)|refine stZ ?_|refine cFZ ?_|refine ae rfl ?_|refine r2Z ?_|fail)
  exact bL _ _ _
 ·have zz:=aI @ba (aI @az (aI @ar @h0));repeat' (first|refine zW ?_|apply a_n|refine zO ?_|refine vZ ?_|refine cZ ?_ (hp:=c5)|refine stZ ?_|refine cFZ ?_|refine ae rfl ?_|refine r2Z ?_|fail)
  exact bL _ _ _
 ·have zz:=aI @ba (aI @az (aI @ar @h0));repeat' (first|refine zW ?_|apply a_n|refine zO ?_|refine vZ ?_|refine cZ ?_ (hp:=c6)|refine stZ ?_|refine cFZ ?_|refine ae rfl ?_|refine r2Z ?_|fail)
  exact bL _ _ _
 ·have zz:=aI @ba (aI @az (aI @ar @h0));repeat' (first|refine zW ?_|apply a_n|refine zO ?_|refine vZ ?_|refine cZ ?_ (hp:=c7)|refine stZ ?_|refine cFZ ?_|refine ae rfl ?_|refine r2Z ?_|fail)
  exact bL _ _ _
end Go.Proofs.YtcbkggfipdldaaaGreat.Lb
namespace Go.Proofs.YtcbkggfipdldaaaGreat
open Go Go.Abs
theorem cw:∀{n v:Nat}{x:List Int},x∈Lb.every n v↔x.length=n∧∀z∈x,0≤z∧z<(v:Int)
 |0,v,x=>by
  rw[Lb.every,qR];constructor
  ·rintro rfl;exact⟨rfl,fun z hz=>by cases hz⟩
  ·rintro⟨h,_⟩;exact e8.1 h
 |n+1,v,x=>by
  rw[Lb.every,List.mem_flatMap];constructor
  ·rintro⟨a,ha,hx⟩;obtain⟨r,hr,rfl⟩:=dp.1 hx;obtain⟨h1,h2⟩:=cw.1 hr;have:=en.1 ha;refine⟨by rw[de,h1],fun z hz=>?_⟩;rcases fo.1 hz with rfl|hz
   ·omega
   ·exact h2 z hz
  ·rintro⟨h1,h2⟩;cases x with
   |nil=>cases h1
   |cons a r=>
    have ha:=h2 a (wk ..);refine⟨a.toNat,en.2 (by omega),dp.2 ⟨r,cw.2 ⟨by simpa using h1,fun z hz=>h2 z (yq _ hz)⟩,?_⟩⟩;rw[Int.toNat_of_nonneg ha.1]
theorem eU:∀{n v:Nat},(Lb.every n v).Pairwise fun a b=>bl a b<0
 |0,v=>List.pairwise_singleton _ _
 |n+1,v=>by
  rw[Lb.every,List.pairwise_flatMap];refine⟨fun a _=>?_,?_⟩
  ·rw[List.pairwise_map];refine(eU (n:=n) (v:=v)).imp fun{x y} h=>?_;rw[bl,if_neg (by omega),if_neg (by omega)];exact h
  ·refine List.pairwise_lt_range.imp fun{a b} hab x hx y hy=>?_;obtain⟨r,_,rfl⟩:=dp.1 hx;obtain⟨q,_,rfl⟩:=dp.1 hy;rw[bl,if_pos (by omega)];decide
theorem sH{n v:Nat}:(Lb.every n v).Nodup:=eU.imp fun{a b} h e=>by subst e;rw[ew] at h;omega
theorem oL{l:List (List Int)}(h:l.Pairwise fun a b=>bl a b<0):∀i,i<l.length→ci l i=false:=fun i hi=>by
 unfold ci;by_cases h0:0<i
 ·have:=(vU.1 h) (i-1) i (by omega) hi (by omega);rw[show l.getD i default=l[i] by simp[List.getD,hi],show l.getD (i-1) default=l[i-1] by simp[List.getD,show i-1<l.length by omega],dN (show ¬0≤bl l[i-1] l[i] by omega),Bool.and_false]
 ·rw[dN h0,Bool.false_and]
theorem pJ{l:List (List Int)}(h:l.Pairwise fun a b=>bl a b<0):dI bl l:=h.imp fun{a b} h=>by rw[f0];omega
def kU(n outs:Nat)(pa pm:List Int→List Int→Bool)(i:List Int):CaseV:=⟨i,(Lb.every n outs).filter (pa i),(Lb.every n outs).filter fun o=>pa i o&&pm i o⟩
def tsk(n ins outs:Nat)(pc:List Int→Bool)(pa pm:List Int→List Int→Bool):TaskV:=⟨n,ins,outs,((Lb.every n ins).filter pc).map (kU n outs pa pm)⟩
section
variable{n ins outs:Nat}{pc:List Int→Bool}{pa pm:List Int→List Int→Bool}
theorem uK{c:CaseV}(h:c∈(tsk n ins outs pc pa pm).cases):∃i∈Lb.every n ins,pc i=true∧kU n outs pa pm i=c:=by
 obtain⟨i,hi,e⟩:=dp.1 (show c∈((Lb.every n ins).filter pc).map (kU n outs pa pm) from h);obtain⟨h1,h2⟩:=fQ.1 hi;exact⟨i,h1,h2,e⟩
theorem wV(hn:1≤n∧n≤5)(hi:1≤ins∧ins≤8)(ho:1≤outs∧outs≤8)(h1:1≤((Lb.every n ins).filter pc).length∧((Lb.every n ins).filter pc).length≤1024)
    (h2:∀i∈Lb.every n ins,pc i=true→1≤((Lb.every n outs).filter (pa i)).length∧((Lb.every n outs).filter (pa i)).length≤1024):bU (tsk n ins outs pc pa pm)=0:=by
 have hcl:(tsk n ins outs pc pa pm).cases.length=((Lb.every n ins).filter pc).length:=by unfold tsk;rw[dM]
 unfold bU;rw[if_neg (by show ¬((n:Int)<1∨5<(n:Int)∨(ins:Int)<1∨8<(ins:Int)∨(outs:Int)<1∨8<(outs:Int));omega),if_neg (by rw[hcl];omega)];refine cL fun k hk=>?_;obtain⟨i,hi3,hpc,e⟩:=uK (an hk);obtain⟨l1,l2⟩:=cw.1 hi3;have v0:bH i n ins=0:=mZ (by omega) l2
 have u0:ci ((tsk n ins outs pc pa pm).cases.map CaseV.inp) k=false:=by
  have e2:(tsk n ins outs pc pa pm).cases.map CaseV.inp=(Lb.every n ins).filter pc:=by
   unfold tsk;rw[List.map_map];exact(qu fun x _=>rfl).trans (List.map_id _)
  rw[e2];exact oL (eU.filter pc) k (by omega)
 unfold gN;rw[←e];change (if bH i (n:Int) (ins:Int)≠0 then bH i (n:Int) (ins:Int) else if ci ((tsk n ins outs pc pa pm).cases.map CaseV.inp) k=true then 14 else cp (n:Int) (outs:Int) (kU n outs pa pm i))=0;rw[v0,if_neg (fun q=>q rfl),u0,if_neg Bool.false_ne_true];refine sB (h2 i hi3 hpc) (fun v hv=>?_) (oL (eU.filter _)) (fun v hv=>?_) (oL (eU.filter _))
 ·obtain⟨a,b⟩:=cw.1 (fQ.1 hv).1;exact mZ (by omega) b
 ·obtain⟨a,b⟩:=fQ.1 hv;rw[dl] at b;exact fQ.2 ⟨a,b.1⟩
theorem sa{α:Type}[DecidableEq α]{f:α→α}{L:List α}(hn:L.Nodup)(hf:∀x∈L,f x∈L)(hi:∀x∈L,∀y∈L,f x=f y→x=y):(L.map f).Perm L:=by
 have hm:(L.map f).Nodup:=by
  unfold List.Nodup;rw[List.pairwise_map];exact List.Pairwise.imp_of_mem (fun{x y} hx hy h e=>h (hi x hx y hy e)) hn
 refine(List.perm_ext_iff_of_nodup hm hn).2 fun y=>⟨fun h=>?_,fun h=>Classical.byContradiction fun q=>?_⟩
 ·obtain⟨x,hx,rfl⟩:=dp.1 h;exact hf x hx
 ·have:=oZ (List.nodup_cons.2 ⟨q,hm⟩) (show y :: L.map f ⊆ L from fun z hz=>by
    rcases fo.1 hz with rfl|hz
    ·exact h
    ·obtain⟨x,hx,rfl⟩:=dp.1 hz;exact hf x hx)
  rw[de,dM] at this;omega
theorem Bp(v:List Int):((List.range v.length).map fun q=>v.getD q default)=v:=by
 refine List.ext_getElem (by simp) fun i h1 h2=>?_;simp[List.getD,h2]
variable{p:List Int}
theorem ut(hp:cq p=0){v:List Int}(hv:v.length=p.length):(bP v p).Perm v:=by
 obtain⟨p1,p2,p3,p4⟩:=jt hp
 have hf:=sa (f:=fun i=>(p.getD i default).toNat) (L:=List.range p.length) List.nodup_range (fun i hi=>by
  have:=p3 i (en.1 hi);exact en.2 (by omega)) (fun i hi j hj e=>by
  have hi:=en.1 hi;have hj:=en.1 hj;have a:=p3 i hi;have b:=p3 j hj;have e:(p.getD i default).toNat=(p.getD j default).toNat:=e;rcases tH i j with h|h|h
  ·exact absurd (show p.getD i default=p.getD j default by omega) (p4 i j h hj)
  ·exact h
  ·exact absurd (show p.getD j default=p.getD i default by omega) (p4 j i h hi))
 have h1:=(hf.map (fun q=>(bP v p).getD q default))
 rw[List.map_map] at h1
 have e1:(List.range p.length).map (fun q=>(bP v p).getD q default)=bP v p:=by
  rw[show p.length=(bP v p).length by rw[d5,hv]];exact Bp _
 have e2:(List.range p.length).map ((fun q=>(bP v p).getD q default) ∘ fun i=>(p.getD i default).toNat)=v:=by
  refine(qu fun i hi=>?_).trans (by rw[←hv];exact Bp v);exact jm hp hv (en.1 hi)
 rw[e1,e2] at h1;exact h1.symm
theorem ul(hp:cq p=0)(hpn:p.length=n){x:List Int}{v:Nat}(hx:x∈Lb.every n v):bP x p∈Lb.every n v:=by
 obtain⟨h1,h2⟩:=cw.1 hx;exact cw.2 ⟨by rw[d5,h1],fun z hz=>h2 z (vJ hp (by omega) hz)⟩
theorem po(hp:cq p=0)(hpn:p.length=n){v:Nat}{q q':List Int→Bool}(h:∀o∈Lb.every n v,q' (bP o p)=q o):((Lb.every n v).filter q').Perm (((Lb.every n v).filter q).map fun o=>bP o p):=by
 have h1:=sa (f:=fun o=>bP o p) (L:=Lb.every n v) sH (fun x hx=>ul hp hpn hx) (fun x hx y hy e=>px hp (by rw[(cw.1 hx).1,hpn]) (by rw[(cw.1 hy).1,hpn]) e);have h2:=(h1.filter q').symm;have e:(Lb.every n v).filter (q' ∘ fun o=>bP o p)=(Lb.every n v).filter q:=List.filter_congr h;rw[List.filter_map,e] at h2;exact h2
theorem rK(hp:cq p=0)(hpn:p.length=n){v:Nat}{q q':List Int→Bool}(h:∀o∈Lb.every n v,q' (bP o p)=q o):gv ((Lb.every n v).filter q) p=(Lb.every n v).filter q':=
 (fK vQ (fun x _ y _=>qh) (pJ (eU.filter _)) (po hp hpn h)).symm
theorem zq(hp:cq p=0)(hpn:p.length=n)(hc:∀i∈Lb.every n ins,pc (bP i p)=pc i)(ha:∀i∈Lb.every n ins,∀o∈Lb.every n outs,pa (bP i p) (bP o p)=pa i o)(hm:∀i∈Lb.every n ins,∀o∈Lb.every n outs,pm (bP i p) (bP o p)=pm i o):renT (tsk n ins outs pc pa pm) p=tsk n ins outs pc pa pm:=by
 have hr:∀i∈Lb.every n ins,mr p (kU n outs pa pm i)=kU n outs pa pm (bP i p):=fun i hi=>by
  unfold mr kU;dsimp only;rw[rK hp hpn (q':=pa (bP i p)) (fun o ho=>ha i hi o ho),rK hp hpn (q':=fun o=>pa (bP i p) o&&pm (bP i p) o) (fun o ho=>by rw[ha i hi o ho,hm i hi o ho])]
 have e:((((Lb.every n ins).filter pc).map (kU n outs pa pm)).map (mr p))=(((Lb.every n ins).filter pc).map fun i=>bP i p).map (kU n outs pa pm):=by
  rw[List.map_map,List.map_map];exact qu fun i hi=>hr i (fQ.1 hi).1
 have key:kd KC ((((Lb.every n ins).filter pc).map (kU n outs pa pm)).map (mr p))=((Lb.every n ins).filter pc).map (kU n outs pa pm):=by
  rw[e]
  symm
  refine fK A3 ?_ ?_ ((po hp hpn (q:=pc) (q':=pc) hc).map _)
  ·intro x hx y hy h1 h2;obtain⟨i,_,rfl⟩:=dp.1 hx;obtain⟨j,_,rfl⟩:=dp.1 hy;have:=qh (x:=i) (y:=j) h1 h2;rw[this]
  ·unfold dI;rw[List.pairwise_map];exact pJ (eU.filter pc)
 show TaskV.mk n ins outs (kd KC ((((Lb.every n ins).filter pc).map (kU n outs pa pm)).map (mr p)))=TaskV.mk n ins outs (((Lb.every n ins).filter pc).map (kU n outs pa pm));rw[key]
end
theorem rU(l:List Int):(Lb.kinds l).Nodup:=by
 suffices h:∀(l ks:List Int),ks.Nodup→(l.foldl (fun ks v=>if v∈ks then ks else ks++[v]) ks).Nodup from h l [] List.nodup_nil
 intro l
 induction l with
 |nil=>exact fun ks h=>h
 |cons a l ih=>
  intro ks h;rw[List.foldl_cons];refine ih _ ?_;split
  ·exact h
  ·rename_i q;rw[List.nodup_append];exact⟨h,List.pairwise_singleton _ _,fun x hx y hy e=>q (by rw[qR.1 hy] at e;rw[←e];exact hx)⟩
theorem ij{a b:List Int}(h:a.Perm b):(Lb.kinds a).length=(Lb.kinds b).length:=by
 have h1:=oZ (rU a) (show Lb.kinds a ⊆ Lb.kinds b from fun x hx=>Lb.mem_kinds.2 (h.mem_iff.1 (Lb.mem_kinds.1 hx)));have h2:=oZ (rU b) (show Lb.kinds b ⊆ Lb.kinds a from fun x hx=>Lb.mem_kinds.2 (h.mem_iff.2 (Lb.mem_kinds.1 hx)));omega
theorem dr{l:List Int}(h:l≠[]):l.getD 0 default∈l:=an (nX.2 h)
theorem io{l:List Int}{v:Int}:Lb.eqv l v=true↔l≠[]∧∀x∈l,x=v:=by
 unfold Lb.eqv;rw[jA];constructor
 ·rintro⟨h1,h2⟩;have hne:l≠[]:=by rintro rfl;exact absurd h1 (by decide)
  have:=Lb.kinds_one.1 (show(Lb.kinds l).length≤1 by omega);exact⟨hne,fun x hx=>by rw[←h2];exact this x hx _ (dr hne)⟩
 ·rintro⟨h1,h2⟩;have a:=Lb.kinds_one.2 (fun x hx y hy=>(h2 x hx).trans (h2 y hy).symm);have b:=Lb.kinds_pos h1;exact⟨by omega,h2 _ (dr h1)⟩
theorem kM{a b:List Int}(h:a.Perm b)(v:Int):Lb.eqv a v=Lb.eqv b v:=by
 rw[Bool.eq_iff_iff,io,io]
 have hn:a≠[]↔b≠[]:=by
  rw[←nX,←nX,h.length_eq]
 rw[hn];exact⟨fun q=>⟨q.1,fun x hx=>q.2 x (h.mem_iff.2 hx)⟩,fun q=>⟨q.1,fun x hx=>q.2 x (h.mem_iff.1 hx)⟩⟩
theorem mL:∀(l:List Int)(a:Int),(l.foldl min a=a∨l.foldl min a∈l)∧l.foldl min a≤a∧∀x∈l,l.foldl min a≤x
 |[],a=>⟨.inl rfl,Int.le_refl _,fun x h=>by cases h⟩
 |b::l,a=>by
  obtain⟨h1,h2,h3⟩:=mL l (min a b);rw[List.foldl_cons];refine⟨?_,by omega,fun x hx=>?_⟩
  ·rcases h1 with h|h
   ·by_cases q:a≤b
    ·left;rw[h];omega
    ·right;rw[h,show min a b=b by omega];exact wk ..
   ·exact .inr (yq _ h)
  ·rcases fo.1 hx with rfl|hx
   ·omega
   ·exact h3 x hx
theorem mO:∀(l:List Int)(a:Int),(l.foldl max a=a∨l.foldl max a∈l)∧a≤l.foldl max a∧∀x∈l,x≤l.foldl max a
 |[],a=>⟨.inl rfl,Int.le_refl _,fun x h=>by cases h⟩
 |b::l,a=>by
  obtain⟨h1,h2,h3⟩:=mO l (max a b);rw[List.foldl_cons];refine⟨?_,by omega,fun x hx=>?_⟩
  ·rcases h1 with h|h
   ·by_cases q:b≤a
    ·left;rw[h];omega
    ·right;rw[h,show max a b=b by omega];exact wk ..
   ·exact .inr (yq _ h)
  ·rcases fo.1 hx with rfl|hx
   ·omega
   ·exact h3 x hx
theorem lB{a b:List Int}(h:a.Perm b)(h0:a≠[]):a.foldl min (a.getD 0 default)=b.foldl min (b.getD 0 default):=by
 have h0b:b≠[]:=fun e=>by subst e;exact h0 h.eq_nil
 obtain⟨a1,-,a3⟩:=mL a (a.getD 0 default);obtain⟨b1,-,b3⟩:=mL b (b.getD 0 default);have a4:a.foldl min (a.getD 0 default)∈a:=a1.elim (fun e=>by rw[e];exact dr h0) id;have b4:b.foldl min (b.getD 0 default)∈b:=b1.elim (fun e=>by rw[e];exact dr h0b) id;have:=a3 _ (h.mem_iff.2 b4);have:=b3 _ (h.mem_iff.1 a4);omega
theorem wc{a b:List Int}(h:a.Perm b)(h0:a≠[]):a.foldl max (a.getD 0 default)=b.foldl max (b.getD 0 default):=by
 have h0b:b≠[]:=fun e=>by subst e;exact h0 h.eq_nil
 obtain⟨a1,-,a3⟩:=mO a (a.getD 0 default);obtain⟨b1,-,b3⟩:=mO b (b.getD 0 default);have a4:a.foldl max (a.getD 0 default)∈a:=a1.elim (fun e=>by rw[e];exact dr h0) id;have b4:b.foldl max (b.getD 0 default)∈b:=b1.elim (fun e=>by rw[e];exact dr h0b) id;have:=a3 _ (h.mem_iff.2 b4);have:=b3 _ (h.mem_iff.1 a4);omega
theorem rC{a b c d:List Int}(h:a.Perm b)(h2:c.Perm d):(c.all fun v=>decide (v∈a))=d.all fun v=>decide (v∈b):=by
 rw[Bool.eq_iff_iff,cT,cT];exact⟨fun q x hx=>cA (h.mem_iff.1 (nJ (q x (h2.mem_iff.2 hx)))),fun q x hx=>cA (h.mem_iff.2 (nJ (q x (h2.mem_iff.1 hx))))⟩
theorem yc{a b:List Int}(h:a.Perm b):a.sum=b.sum:=by
 induction h with
 |nil=>rfl
 |cons x _ ih=>rw[List.sum_cons,List.sum_cons,ih]
 |swap x y l=>rw[List.sum_cons,List.sum_cons,List.sum_cons,List.sum_cons];omega
 |trans _ _ h1 h2=>exact h1.trans h2
def cvC(c:Lb.CaseV):CaseV:=⟨c.inp,c.out,c.calm⟩
def cvT(t:Lb.TaskV):TaskV:=⟨t.n,t.ins,t.outs,t.cases.map cvC⟩
theorem Ax(t:Lb.TaskV):Lb.encT t=encT (cvT t):=by
 unfold Lb.encT encT cvT Lb.encCs encCs;rw[List.map_map];rfl
theorem wj{k:Lb.KindV}(h:(Lb.taskOf k).2=0):cvT (Lb.taskOf k).1=tsk k.n k.ins k.outs k.pc k.pa k.pm∧(1≤((Lb.every k.n k.ins).filter k.pc).length∧((Lb.every k.n k.ins).filter k.pc).length≤1024)∧(k.hasC=true→k.n≤k.outs)∧∀i∈Lb.every k.n k.ins,k.pc i=true→((Lb.every k.n k.outs).filter (k.pa i)).length≤1024:=by
 unfold Lb.taskOf at h ⊢;by_cases h1:Lb.cnt (Lb.every k.n k.ins) k.pc=0
 ·rw[if_pos h1] at h;exact absurd h (by decide)
 rw[if_neg h1] at h ⊢;by_cases h2:k.hasC=true∧k.outs<k.n
 ·rw[if_pos h2] at h;exact absurd h (by decide)
 rw[if_neg h2] at h ⊢;by_cases h3:1024<Lb.cnt (Lb.every k.n k.ins) k.pc
 ·rw[if_pos h3] at h;exact absurd h (by decide)
 rw[if_neg h3] at h ⊢;cases h4:(Lb.casesOf k (Lb.every k.n k.ins)).any (fun c=>decide (1024<c.out.length)) with
 |true=>rw[h4,if_pos rfl] at h;exact absurd h (by decide)
 |false=>
  rw[if_neg Bool.false_ne_true];unfold Lb.cnt at h1 h3;refine⟨?_,⟨by omega,by omega⟩,fun q=>Nat.not_lt.1 fun r=>h2 ⟨q,r⟩,fun i hi hp=>?_⟩
  ·unfold cvT tsk Lb.casesOf;dsimp only;rw[List.map_map];rfl
  ·rw[List.any_eq_false] at h4;have:=h4 (Lb.caseOf k i) (dp.2 ⟨i,fQ.2 ⟨hi,hp⟩,rfl⟩);have h5:¬1024<((Lb.every k.n k.outs).filter (k.pa i)).length:=fun q=>this (cA q);omega
theorem ow{k:Lb.KindV}(h:(Lb.taskOf k).2≠0):(Lb.taskOf k).1=Lb.T00∧((Lb.taskOf k).2=16∨(Lb.taskOf k).2=17):=by
 unfold Lb.taskOf at h ⊢;split
 ·exact⟨rfl,.inl rfl⟩
 rename_i h1;rw[if_neg h1] at h;split
 ·exact⟨rfl,.inl rfl⟩
 rename_i h2;rw[if_neg h2] at h;split
 ·exact⟨rfl,.inr rfl⟩
 rename_i h3;rw[if_neg h3] at h;split
 ·exact⟨rfl,.inr rfl⟩
 rename_i h4;rw[if_neg h4] at h;exact absurd rfl h
theorem dV(n ins outs kk:Int)(k:Lb.KindV):((Lb.taskI n ins outs kk k).2≠0∧(Lb.taskI n ins outs kk k).1=Lb.T00∧((Lb.taskI n ins outs kk k).2=2∨(Lb.taskI n ins outs kk k).2=16∨(Lb.taskI n ins outs kk k).2=17))∨(Lb.inR n ins outs kk∧Lb.taskI n ins outs kk k=Lb.taskOf k∧(Lb.taskOf k).2=0):=by
 unfold Lb.taskI;by_cases hr:Lb.inR n ins outs kk
 rotate_left
 ·rw[if_neg hr];exact .inl ⟨(by decide:(2:Int)≠0),rfl,.inl rfl⟩
 rw[if_pos hr];by_cases h:(Lb.taskOf k).2=0
 ·exact .inr ⟨hr,rfl,h⟩
 ·exact .inl ⟨h,(ow h).1,.inr (ow h).2⟩
structure GoodT(t:TaskV)(n:Int)(ag sy:Prop):Prop where
 chk:bU t=0
 num:t.n=n
 agr:ag→gu t=true
 sym:sy→∀p,cq p=0→(p.length:Int)=n→renT t p=t
theorem fW{k:Lb.KindV}{ag sy:Prop}(hn:1≤k.n∧k.n≤5)(hi:1≤k.ins∧k.ins≤8)(ho:1≤k.outs∧k.outs≤8)(h:(Lb.taskOf k).2=0)
    (hne:∀i∈Lb.every k.n k.ins,k.pc i=true→(k.hasC=true→k.n≤k.outs)→∃o∈Lb.every k.n k.outs,k.pa i o=true)
    (hag:ag→∀i∈Lb.every k.n k.ins,∀o∈Lb.every k.n k.outs,k.pa i o=true→fY o=true)
    (hc:sy→∀i i':List Int,i.length=k.n→i'.Perm i→k.pc i'=k.pc i)
    (ha:sy→∀i i' o o':List Int,i.length=k.n→o.length=k.n→i'.Perm i→o'.Perm o→k.pa i' o'=k.pa i o)
    (hm:sy→∀i i' o o':List Int,i.length=k.n→o.length=k.n→i'.Perm i→o'.Perm o→k.pm i' o'=k.pm i o):GoodT (cvT (Lb.taskOf k).1) k.n ag sy:=by
 obtain⟨e,l1,l2,l3⟩:=wj h;rw[e];refine⟨wV hn hi ho l1 fun i hi2 hp=>⟨?_,l3 i hi2 hp⟩,rfl,fun q=>?_,fun q p hp hpn=>?_⟩
 ·obtain⟨o,o1,o2⟩:=hne i hi2 hp l2;exact nX.2 (List.ne_nil_of_mem (fQ.2 ⟨o1,o2⟩))
 ·unfold gu;rw[cT];intro c hcm;obtain⟨i,i1,i2,rfl⟩:=uK hcm;rw[cT];intro o hom;obtain⟨o1,o2⟩:=fQ.1 hom;exact hag q i i1 o o1 o2
 ·have hpl:p.length=k.n:=by omega
  have hmv:∀{x:List Int}{v:Nat},x∈Lb.every k.n v→x.length=k.n∧(bP x p).Perm x:=fun{x v} hx=>by
   have:=(cw.1 hx).1;exact⟨this,ut hp (by omega)⟩
  exact zq hp hpl (fun i i1=>hc q i _ (hmv i1).1 (hmv i1).2) (fun i i1 o o1=>ha q i _ o _ (hmv i1).1 (hmv o1).1 (hmv i1).2 (hmv o1).2) (fun i i1 o o1=>hm q i _ o _ (hmv i1).1 (hmv o1).1 (hmv i1).2 (hmv o1).2)
theorem gG{n v:Nat}{x:Int}(hx:0≤x∧x<(v:Int)):List.replicate n x∈Lb.every n v:=cw.2 ⟨List.length_replicate,fun z hz=>by rw[List.eq_of_mem_replicate hz];exact hx⟩
theorem uX{n:Nat}{x:Int}(h:1≤n):Lb.eqv (List.replicate n x) x=true:=io.2 ⟨fun e=>by have:=congrArg List.length e;simp at this;omega,fun z hz=>List.eq_of_mem_replicate hz⟩
theorem wt{n:Nat}{x:Int}:(Lb.kinds (List.replicate n x)).length≤1:=Lb.kinds_one.2 fun a ha b hb=>by rw[List.eq_of_mem_replicate ha,List.eq_of_mem_replicate hb]
theorem ng{o:List Int}(h:∀x∈o,∀y∈o,x=y):fY o=true:=by
 unfold fY;rw[cT];intro x hx;exact cA (h x hx _ (dr (List.ne_nil_of_mem hx)))
theorem nY{n v k kk:Int}{ag:Prop}(hr:Lb.inR n v v kk)(hk:1≤max k 1)(hag:ag→k≤1)(h:(Lb.taskOf (Lb.kAgree n v k)).2=0):GoodT (cvT (Lb.taskOf (Lb.kAgree n v k)).1) n ag True:=by
 unfold Lb.inR at hr;have:=fW (k:=Lb.kAgree n v k) (ag:=ag) (sy:=True) (show 1≤n.toNat∧n.toNat≤5 by omega) (show 1≤v.toNat∧v.toNat≤8 by omega) (show 1≤v.toNat∧v.toNat≤8 by omega) h (fun i hi _ _=>?_) (fun q i _ o _ ho=>?_) (fun _ i i' _ hp=>rfl) (fun _ i i' o o' _ _ h1 h2=>?_) (fun _ _ _ _ _ _ _ _ _=>rfl)
 ·rwa [show(((Lb.kAgree n v k).n:Nat):Int)=n from by show(n.toNat:Int)=n;omega] at this
 ·obtain⟨i1,i2⟩:=cw.1 hi;have i1:i.length=n.toNat:=i1;have hi0:i≠[]:=fun e=>by rw[e] at i1;simp at i1;omega
  refine⟨List.replicate n.toNat (i.getD 0 default),gG (i2 _ (dr hi0)),?_⟩;show(decide (((Lb.kinds (List.replicate n.toNat (i.getD 0 default))).length:Int)≤max k 1)&&(List.replicate n.toNat (i.getD 0 default)).all fun x=>decide (x∈i))=true;have:=wt (n:=n.toNat) (x:=i.getD 0 default);rw[cA (by omega),Bool.true_and,cT];exact fun x hx=>cA (by rw[List.eq_of_mem_replicate hx];exact dr hi0)
 ·have ho:(decide (((Lb.kinds o).length:Int)≤max k 1)&&o.all fun x=>decide (x∈i))=true:=ho;rw[dl] at ho;have h1:=nJ ho.1;have:=hag q;exact ng (Lb.kinds_one.1 (by omega))
 ·show(decide (((Lb.kinds o').length:Int)≤max k 1)&&o'.all fun x=>decide (x∈i'))=(decide (((Lb.kinds o).length:Int)≤max k 1)&&o.all fun x=>decide (x∈i));rw[ij h2,rC h1 h2]
theorem lI{n:Int}{i:List Int}(hn:1≤n)(h:i.length=n.toNat):i≠[]:=fun e=>by rw[e] at h;simp at h;omega
theorem rR{n s kk:Int}(hr:Lb.inR n 2 (Lb.moreI s) kk)(h:(Lb.taskOf (Lb.kApprox n s)).2=0):GoodT (cvT (Lb.taskOf (Lb.kApprox n s)).1) n False True:=by
 unfold Lb.inR at hr
 have hs:0≤s∧s≤7∧Lb.moreI s=s+1:=by
  unfold Lb.moreI at hr ⊢;split at hr
  ·rename_i q;rw[if_pos q];omega
  ·omega
 have:=fW (k:=Lb.kApprox n s) (ag:=False) (sy:=True) (show 1≤n.toNat∧n.toNat≤5 by omega) (show 1≤2∧2≤8 by omega) (show 1≤(Lb.moreI s).toNat∧(Lb.moreI s).toNat≤8 by omega) h (fun i hi _ _=>?_) (fun q=>q.elim) (fun _ i i' _ hp=>rfl) (fun _ i i' o o' hi ho h1 h2=>?_) (fun _ _ _ _ _ _ _ _ _=>rfl)
 ·rwa [show(((Lb.kApprox n s).n:Nat):Int)=n from by show(n.toNat:Int)=n;omega] at this
 ·obtain⟨i1,i2⟩:=cw.1 hi;have hi0:i≠[]:=lI (by omega) i1;have g0:=i2 _ (dr hi0);have g0:0≤i.getD 0 default∧i.getD 0 default<2:=g0
  have hx:0≤i.getD 0 default*s∧i.getD 0 default*s≤s:=by
   rcases(by omega:i.getD 0 default=0∨i.getD 0 default=1) with e|e<;>rw[e]<;>omega
  by_cases hk:(Lb.kinds i).length=1
  ·refine⟨List.replicate n.toNat (i.getD 0 default*s),gG (v:=(Lb.moreI s).toNat) (by omega),?_⟩;show(if (Lb.kinds i).length=1 then Lb.eqv _ (IntKind.wrap .i64 (i.getD 0 default*s)) else _)=true;rw[if_pos hk,j5 (by omega) (by omega)];exact uX (by omega)
  ·refine⟨List.replicate n.toNat 0,gG (v:=(Lb.moreI s).toNat) (by omega),?_⟩;show(if (Lb.kinds i).length=1 then _ else decide (IntKind.wrap .i64 ((List.replicate n.toNat (0:Int)).foldl max ((List.replicate n.toNat (0:Int)).getD 0 default)-(List.replicate n.toNat (0:Int)).foldl min ((List.replicate n.toNat (0:Int)).getD 0 default))≤1))=true;rw[if_neg hk];have hr0:List.replicate n.toNat (0:Int)≠[]:=lI (n:=n) (by omega) List.length_replicate;obtain⟨a1,-,-⟩:=mL (List.replicate n.toNat (0:Int)) ((List.replicate n.toNat (0:Int)).getD 0 default);obtain⟨b1,-,-⟩:=mO (List.replicate n.toNat (0:Int)) ((List.replicate n.toNat (0:Int)).getD 0 default);have g1:(List.replicate n.toNat (0:Int)).getD 0 default=0:=List.eq_of_mem_replicate (dr hr0);have a2:=a1.elim (fun e=>e.trans g1) List.eq_of_mem_replicate;have b2:=b1.elim (fun e=>e.trans g1) List.eq_of_mem_replicate;rw[a2,b2];decide
 ·show(if (Lb.kinds i').length=1 then Lb.eqv o' (IntKind.wrap .i64 (i'.getD 0 default*s)) else decide (IntKind.wrap .i64 (o'.foldl max (o'.getD 0 default)-o'.foldl min (o'.getD 0 default))≤1))=(if (Lb.kinds i).length=1 then Lb.eqv o (IntKind.wrap .i64 (i.getD 0 default*s)) else decide (IntKind.wrap .i64 (o.foldl max (o.getD 0 default)-o.foldl min (o.getD 0 default))≤1));have hi0:i≠[]:=lI (n:=n) (by omega) hi;have hi0':i'≠[]:=fun e=>hi0 (by subst e;exact h1.symm.eq_nil);have ho0:o≠[]:=lI (n:=n) (by omega) ho;have ho0':o'≠[]:=fun e=>ho0 (by subst e;exact h2.symm.eq_nil);rw[ij h1,wc h2 ho0',lB h2 ho0'];by_cases hk:(Lb.kinds i).length=1
  ·rw[if_pos hk,if_pos hk,kM h2];have:=Lb.kinds_one.1 (show(Lb.kinds i).length≤1 by omega) _ (h1.mem_iff.1 (dr hi0')) _ (dr hi0);rw[this]
  ·rw[if_neg hk,if_neg hk]
theorem ws{n v kk:Int}(hr:Lb.inR n v (Lb.moreI v) kk)(h:(Lb.taskOf (Lb.kCrus n v)).2=0):GoodT (cvT (Lb.taskOf (Lb.kCrus n v)).1) n False False:=by
 unfold Lb.inR at hr
 have hs:0≤v∧v≤7∧Lb.moreI v=v+1:=by
  unfold Lb.moreI at hr ⊢;split at hr
  ·rename_i q;rw[if_pos q];omega
  ·omega
 have:=fW (k:=Lb.kCrus n v) (ag:=False) (sy:=False) (show 1≤n.toNat∧n.toNat≤5 by omega) (show 1≤v.toNat∧v.toNat≤8 by omega) (show 1≤(Lb.moreI v).toNat∧(Lb.moreI v).toNat≤8 by omega) h (fun i hi _ _=>?_) (fun q=>q.elim) (fun q=>q.elim) (fun q=>q.elim) (fun q=>q.elim)
 ·rwa [show(((Lb.kCrus n v).n:Nat):Int)=n from by show(n.toNat:Int)=n;omega] at this
 ·refine⟨List.replicate n.toNat v,gG (v:=(Lb.moreI v).toNat) (by omega),?_⟩;show decide ((Lb.kinds ((List.replicate n.toNat v).filter fun x=>!decide (x=v))).length≤1)=true
  have:(List.replicate n.toNat v).filter (fun x=>!decide (x=v))=[]:=zf.2 fun x hx=>by
   rw[List.eq_of_mem_replicate hx,cA rfl];exact Bool.false_ne_true
  rw[this];decide
theorem qZ{l:List Int}(h:l.Nodup):(Lb.kinds l).length=l.length:=by
 have h1:=oZ h (show l ⊆ Lb.kinds l from fun x hx=>Lb.mem_kinds.2 hx);have h2:=Lb.kinds_len l;omega
theorem w5{n a b kk:Int}(hr:Lb.inR n a b kk)(h:(Lb.taskOf (Lb.kRen n a b)).2=0):GoodT (cvT (Lb.taskOf (Lb.kRen n a b)).1) n False True:=by
 unfold Lb.inR at hr;have:=fW (k:=Lb.kRen n a b) (ag:=False) (sy:=True) (show 1≤n.toNat∧n.toNat≤5 by omega) (show 1≤a.toNat∧a.toNat≤8 by omega) (show 1≤b.toNat∧b.toNat≤8 by omega) h (fun i hi _ hno=>?_) (fun q=>q.elim) (fun _ i i' hi h1=>?_) (fun _ i i' o o' _ _ h1 h2=>?_) (fun _ _ _ _ _ _ _ _ _=>rfl)
 ·rwa [show(((Lb.kRen n a b).n:Nat):Int)=n from by show(n.toNat:Int)=n;omega] at this
 ·have hno:n.toNat≤b.toNat:=hno rfl;refine⟨idL n.toNat,cw.2 ⟨yO _,fun z hz=>?_⟩,?_⟩
  ·obtain⟨i,hi,rfl⟩:=dp.1 (show z∈(List.range n.toNat).map fun(i:Nat)=>(i:Int) from hz);have:=en.1 hi;show 0≤(i:Int)∧(i:Int)<(b.toNat:Int);omega
  ·refine cA (qZ ?_);unfold idL List.Nodup;rw[List.pairwise_map];exact List.nodup_range.imp fun{x y} h e=>h (by omega)
 ·show decide ((Lb.kinds i').length=i'.length)=decide ((Lb.kinds i).length=i.length);rw[ij h1,h1.length_eq]
 ·show decide ((Lb.kinds o').length=o'.length)=decide ((Lb.kinds o).length=o.length);rw[ij h2,h2.length_eq]
theorem wr{n kk:Int}(hr:Lb.inR n 1 2 kk)(h:(Lb.taskOf (Lb.kLead n)).2=0):GoodT (cvT (Lb.taskOf (Lb.kLead n)).1) n False True:=by
 unfold Lb.inR at hr;have:=fW (k:=Lb.kLead n) (ag:=False) (sy:=True) (show 1≤n.toNat∧n.toNat≤5 by omega) (show 1≤1∧1≤8 by omega) (show 1≤2∧2≤8 by omega) h (fun i hi _ hno=>?_) (fun q=>q.elim) (fun _ i i' hi h1=>rfl) (fun _ i i' o o' _ _ h1 h2=>?_) (fun _ _ _ _ _ _ _ _ _=>rfl)
 ·rwa [show(((Lb.kLead n).n:Nat):Int)=n from by show(n.toNat:Int)=n;omega] at this
 ·refine⟨1::List.replicate (n.toNat-1) 0,cw.2 ⟨by rw[de,List.length_replicate];show n.toNat-1+1=n.toNat;omega,fun z hz=>?_⟩,cA ?_⟩
  ·show 0≤z∧z<2;rcases fo.1 hz with rfl|hz
   ·omega
   ·rw[List.eq_of_mem_replicate hz];omega
  ·rw[List.sum_cons]
   have:∀m:Nat,(List.replicate m (0:Int)).sum=0:=fun m=>by
    induction m with
    |zero=>rfl
    |succ m ih=>rw[List.replicate_succ,List.sum_cons,ih];rfl
   rw[this];rfl
 ·show decide (o'.sum=1)=decide (o.sum=1);rw[yc h2]
theorem yf{n kk:Int}(hr:Lb.inR n 2 2 kk)(h:(Lb.taskOf (Lb.kCom n)).2=0):GoodT (cvT (Lb.taskOf (Lb.kCom n)).1) n True True:=by
 unfold Lb.inR at hr;have:=fW (k:=Lb.kCom n) (ag:=True) (sy:=True) (show 1≤n.toNat∧n.toNat≤5 by omega) (show 1≤2∧2≤8 by omega) (show 1≤2∧2≤8 by omega) h (fun i hi _ hno=>?_) (fun _ i _ o _ ho=>?_) (fun _ i i' hi h1=>rfl) (fun _ i i' o o' hi ho h1 h2=>?_) (fun _ i i' o o' hi ho h1 h2=>?_)
 ·rwa [show(((Lb.kCom n).n:Nat):Int)=n from by show(n.toNat:Int)=n;omega] at this
 ·refine⟨List.replicate n.toNat 0,gG (v:=2) (by omega),?_⟩;show(Lb.eqv (List.replicate n.toNat 0) 0 || _)=true;rw[uX (by omega),Bool.true_or]
 ·have ho:(Lb.eqv o 0 || Lb.eqv o 1&&decide (i.foldl min (i.getD 0 default)=1))=true:=ho;rw[im,dl] at ho;rcases ho with q|⟨q,_⟩
  ·exact ng fun x hx y hy=>by rw[(io.1 q).2 x hx,(io.1 q).2 y hy]
  ·exact ng fun x hx y hy=>by rw[(io.1 q).2 x hx,(io.1 q).2 y hy]
 ·have hi0:i≠[]:=lI (n:=n) (by omega) hi;have hi0':i'≠[]:=fun e=>hi0 (by subst e;exact h1.symm.eq_nil);show(Lb.eqv o' 0 || Lb.eqv o' 1&&decide (i'.foldl min (i'.getD 0 default)=1))=(Lb.eqv o 0 || Lb.eqv o 1&&decide (i.foldl min (i.getD 0 default)=1));rw[kM h2,kM h2,lB h1 hi0']
 ·have hi0:i≠[]:=lI (n:=n) (by omega) hi;have hi0':i'≠[]:=fun e=>hi0 (by subst e;exact h1.symm.eq_nil);show Lb.eqv o' (i'.foldl min (i'.getD 0 default))=Lb.eqv o (i.foldl min (i.getD 0 default));rw[kM h2,lB h1 hi0']
def gT(q:Nat)(n a b:Int):Lb.TaskV×Int:=match q with
 |0=>Lb.approxT n a
 |1=>Lb.comT n
 |2=>Lb.consensusT n a
 |3=>Lb.crusT n a
 |4=>Lb.leadT n
 |5=>Lb.renT n a b
 |6=>Lb.setT n a b
 |_=>(Lb.T00,8)
theorem yl(q:Nat)(hq:q<7)(n a b:Int):((gT q n a b).2≠0∧(gT q n a b).1=Lb.T00∧((gT q n a b).2=2∨(gT q n a b).2=16∨(gT q n a b).2=17))∨((gT q n a b).2=0∧GoodT (cvT (gT q n a b).1) n (q=1∨q=2) (q≠3)):=by
 have lift:∀{t:TaskV}{ag sy ag' sy':Prop},GoodT t n ag sy→(ag'→ag)→(sy'→sy)→GoodT t n ag' sy':=fun h h1 h2=>⟨h.chk,h.num,fun x=>h.agr (h1 x),fun x=>h.sym (h2 x)⟩
 match q,hq with
 |0,_=>
  rcases dV n 2 (Lb.moreI a) (-1) (Lb.kApprox n a) with h|⟨h1,h2,h3⟩
  ·exact .inl h
  ·refine .inr ⟨(congrArg Prod.snd h2).trans h3,?_⟩;show GoodT (cvT (Lb.taskI n 2 (Lb.moreI a) (-1) (Lb.kApprox n a)).1) n _ _;rw[h2];exact lift (rR h1 h3) (fun x=>by omega) fun _=>trivial
 |1,_=>
  rcases dV n 2 2 (-1) (Lb.kCom n) with h|⟨h1,h2,h3⟩
  ·exact .inl h
  ·refine .inr ⟨(congrArg Prod.snd h2).trans h3,?_⟩;show GoodT (cvT (Lb.taskI n 2 2 (-1) (Lb.kCom n)).1) n _ _;rw[h2];exact lift (yf h1 h3) (fun x=>trivial) fun _=>trivial
 |2,_=>
  rcases dV n a a (-1) (Lb.kAgree n a 1) with h|⟨h1,h2,h3⟩
  ·exact .inl h
  ·refine .inr ⟨(congrArg Prod.snd h2).trans h3,?_⟩;show GoodT (cvT (Lb.taskI n a a (-1) (Lb.kAgree n a 1)).1) n _ _;rw[h2];exact lift (nY (ag:=True) h1 (by decide) (fun _=>by decide) h3) (fun x=>trivial) fun _=>trivial
 |3,_=>
  rcases dV n a (Lb.moreI a) (-1) (Lb.kCrus n a) with h|⟨h1,h2,h3⟩
  ·exact .inl h
  ·refine .inr ⟨(congrArg Prod.snd h2).trans h3,?_⟩;show GoodT (cvT (Lb.taskI n a (Lb.moreI a) (-1) (Lb.kCrus n a)).1) n _ _;rw[h2];exact lift (ws h1 h3) (fun x=>by omega) fun x=>x rfl
 |4,_=>
  rcases dV n 1 2 (-1) (Lb.kLead n) with h|⟨h1,h2,h3⟩
  ·exact .inl h
  ·refine .inr ⟨(congrArg Prod.snd h2).trans h3,?_⟩;show GoodT (cvT (Lb.taskI n 1 2 (-1) (Lb.kLead n)).1) n _ _;rw[h2];exact lift (wr h1 h3) (fun x=>by omega) fun _=>trivial
 |5,_=>
  rcases dV n a b (-1) (Lb.kRen n a b) with h|⟨h1,h2,h3⟩
  ·exact .inl h
  ·refine .inr ⟨(congrArg Prod.snd h2).trans h3,?_⟩;show GoodT (cvT (Lb.taskI n a b (-1) (Lb.kRen n a b)).1) n _ _;rw[h2];exact lift (w5 h1 h3) (fun x=>by omega) fun _=>trivial
 |6,_=>
  rcases dV n a a (max b 0) (Lb.kAgree n a (max b 0)) with h|⟨h1,h2,h3⟩
  ·exact .inl h
  ·refine .inr ⟨(congrArg Prod.snd h2).trans h3,?_⟩;show GoodT (cvT (Lb.taskI n a a (max b 0) (Lb.kAgree n a (max b 0))).1) n _ _;rw[h2];exact lift (nY (ag:=False) h1 (by omega) (fun q=>q.elim) h3) (fun x=>by omega) fun _=>trivial
end Go.Proofs.YtcbkggfipdldaaaGreat
namespace Go.Proofs.YtcbkggfipdldaaaGreat.Lb
open Go Go.Abs
open Nat (reduceEqDiff reduceAdd reduceLeDiff)
attribute [local irreducible] aG al bh a7 aV aU aB aX a9 bt Go.Abs.Fn aZ Go.Abs.Pure ax aO Yl
def smallB(n a b:Int):Bool:=jY n a a&&jY n a b&&jY n a 2&&(decide (a<0∨20<a) || jY n (max 2 a) (a+1))
theorem small_r(n a b:Int):pU 4 [.agg [.int .i64 n,.int .i64 a,.int .i64 b]] (.bool (smallB n a b)):=by
 refine pO is4 ?_;simp only[b4,ay]
 repeat' (first|refine zW ?_|apply a_n|refine zO ?_|refine vZ ?_|refine bxZ ?_|refine blZ ?_|fail)
 obtain⟨L,hL⟩:∃L:List Int,L=[a,b,2]:=⟨_,rfl⟩
 have hl:L.length=3:=by rw[hL];rfl
 have hH:am (am bA 0 [.int .i64 n,.int .i64 a,.int .i64 b]) (0+1) [.int .i64 a,.int .i64 b,.int .i64 2] (0+1)=some (L.map (AV.int .i64)):=by rw[hL];rfl
 refine bo (X:=Nat) (fun k=>[(1,.ptr 0 3 0),(9,.msl 1 3 1 0 3),(10,.int .i64 3),(11,.int .i64 k)]) (fun k H nx=>k≤3∧H 0=some [.int .i64 n,.int .i64 a,.int .i64 b]∧H 1=some (L.map (AV.int .i64))∧∀i,i<k→jY n a (L.getD i default)=true) (fun k=>3-k) 0 ⟨cu _,rfl,hH,by simp⟩ (by simp (disch:=omega) only[agr,ZG,reduceEqDiff,↓reduceIte,de,dF,reduceAdd,bQ,show((3:Nat):Int)=3 from rfl]) ?_;rintro k H nx ⟨hk,h0,h1,h2⟩;by_cases hj:k<3
 ·have hf:=zU n a (L.getD k default)
  have e:smallB n a b=true→jY n a (L.getD k default)=true:=fun h=>by
   unfold smallB at h;simp only[dl] at h;rw[hL]
   match k,hj with
   |0,_=>exact h.1.1.1
   |1,_=>exact h.1.1.2
   |2,_=>exact h.1.2
  generalize hge:jY n a (L.getD k default)=g at *;have zz:=aI @h0 (aI @h1 @hl);repeat' (first|refine zW ?_|apply a_n|apply a_r|refine zO ?_|refine vZ ?_|refine cZ ?_ (hp:=hf)|(refine zGZ ?_ ?_<;>(intro _hg;try (exfalso;omega)))|refine ae rfl ?_|refine r1Z ?_|fail)
  ·refine aY ?_;cases hs:smallB n a b with
   |false=>rfl
   |true=>have:=e hs;simp_all
  ·refine⟨k+1,by omega,⟨by omega,h0,h1,fun i hi=>?_⟩,ag0⟩;rcases iJ.1 hi with h|rfl
   ·exact h2 i h
   ·rw[hge];assumption
 ·have hf:=zU n (max 2 a) (a+1);have q0:=h2 0 (by omega);have q1:=h2 1 (by omega);have q2:=h2 2 (by omega);rw[hL] at q0 q1 q2
  have e:smallB n a b=(decide (a<0∨20<a) || jY n (max 2 a) (a+1)):=by
   unfold smallB;rw[show jY n a a=true from q0,show jY n a b=true from q1,show jY n a 2=true from q2];rfl
  generalize jY n (max 2 a) (a+1)=g at *;rw[e];have zz:=aI @h0 (aI @h1 @hl);repeat' (first|refine zW ?_|apply a_n|apply a_x|refine zO ?_|refine vZ ?_|refine cZ ?_ (hp:=hf)|refine gTZ ?_|refine gFZ ?_|(refine zGZ ?_ ?_<;>(intro _hg;try (exfalso;omega)))|refine ae rfl ?_|refine r1Z ?_|fail)
  ·refine aY ?_;rw[dN (by omega)];rfl
  all_goals (refine aY ?_;rw[cA (by omega)];rfl)
end Go.Proofs.YtcbkggfipdldaaaGreat.Lb
namespace Go.Proofs.YtcbkggfipdldaaaGreat.Lb
open Go Go.Abs
attribute [local irreducible] aG al bh a7 aV aU aB aX a9 bt Go.Abs.Fn aZ Go.Abs.Pure ax aO Yl
theorem zC{y p b:Nat}{ks vs:List AV}{H:Hp}{nx:Nat}(I:List Nat→Hp→Nat→Prop)
    (hp:∀S H' nx',I S H' nx'→H' p=some [.mp b]∧H' b=some [.omap ks vs]∧p≠nx∧b≠nx)
    (stab:∀S H H' nx' nx'',I S H nx'→nx'≤nx''→(∀i,i<nx'→i≠nx→H' i=H i)→I S H' nx'')
    (h0:I [] H nx) (hk1:∀i,i<ks.length→(ks.getD i .undef).cells=[ks.getD i .undef])
    (rnd:∀S i H' nx',i<ks.length→i∉S→S.length<ks.length→I S H' nx'→nx<nx'→Yl Tryz.prog y [ks.getD i .undef] H' nx' fun r H'' nx''=>r=.bool true∧I (S++[i]) H'' nx''∧nx'≤nx''∧H'' nx=H' nx):
    Abs.Fn Tryz.prog 53 [.yld y,.ptr p 1 0] H nx fun _ H' nx'=>∃S,I S H' nx'∧S.Nodup∧(∀i,i∈S→i<ks.length)∧∀i,i<ks.length→i∈S:=by
 refine fO D0 ?_;simp only[b53,ay];obtain⟨g1,g2,g3,g4⟩:=hp _ _ _ h0;have zz:=aI @g1 @g2;repeat' (first|refine zW ?_|apply a_n|refine zO ?_|refine vZ ?_|fail)
 refine AE ev0 g2 ?_;clear zz;have zz:=aI @g1 @g2;repeat' (first|refine zW ?_|apply a_n|refine zO ?_|fail)
 refine bo (X:=List Nat) (fun _=>[(0,.yld y),(5,.itr nx)]) (fun S H' nx'=>I S H' nx'∧nx<nx'∧H' nx=some [.oiter b ks.length S]∧S.Nodup∧(∀i,i∈S→i<ks.length)) (fun S=>ks.length-S.length) []
  ⟨stab _ _ _ _ _ h0 (Nat.le_succ _) (fun i hi hne=>by rw[af hne]),ms _,aj,List.nodup_nil,fun i hi=>(by cases hi)⟩ ag0 ?_
 rintro S H1 nx1 ⟨hI,hnx,hit,hnd,hlt⟩;obtain⟨j1,j2,j3,j4⟩:=hp _ _ _ hI
 have hS:S.length≤ks.length:=by
  have:=oZ hnd (l₂:=List.range ks.length) (fun i hi=>en.2 (hlt i hi));simpa using this
 repeat' (first|refine zW ?_|apply a_n|refine zO ?_|fail)
 refine AY ev0 hit j2 rfl (fun i hi hn=>?_) (fun hall=>?_)
 ·repeat' (first|refine zW ?_|apply a_n|refine zO ?_|refine vZ ?_|refine cTZ ?_|fail)
  refine AC (i:=i) ev0 aj (by rw[af j4];exact j2) rfl (by simp) hi ?_
  repeat' (first|refine zW ?_|apply a_n|refine zO ?_|refine vZ ?_|fail)
  have hnd':(S++[i]).Nodup:=List.nodup_append.2 ⟨hnd,by simp,fun a ha c hc=>by simp at hc;subst hc;intro e;subst e;exact hn ha⟩
  have hlt':∀j,j∈S++[i]→j<ks.length:=fun j hj=>by
   rcases pf.1 hj with h|h
   ·exact hlt j h
   ·simp at h;subst h;exact hi
  have hS':(S++[i]).length≤ks.length:=by
   have:=oZ hnd' (l₂:=List.range ks.length) (fun j hj=>en.2 (hlt' j hj));simpa using this
  refine uU ev0 ev0 (Yl.mono (rnd S i _ nx1 hi hn (by simp at hS';omega) (stab _ _ _ _ _ hI (aM _) (fun x hx hne=>by rw[af hne])) hnx) ?_);rintro r H2 nx2 ⟨rfl,hI2,hle,hH2⟩
  repeat' (first|apply a_n|refine zO ?_|refine vZ ?_|refine cFZ ?_|fail)
  refine⟨S++[i],by simp at hS' ⊢;omega,⟨hI2,by omega,by rw[hH2];exact aj,hnd',hlt'⟩,ag0⟩
 ·repeat' (first|refine zW ?_|apply a_n|apply a_x|refine zO ?_|refine vZ ?_|refine cFZ ?_|refine ae rfl ?_|fail)
  exact⟨S,hI,hnd,hlt,fun i hi=>hall i hi hi⟩
theorem sF{p b:Nat}{ks vs:List AV}{H:Hp}{nx:Nat}(gp:H p=some [.mp b])(gb:H b=some [.omap ks vs])(hp:p<nx)(hb:b<nx)(hl:ks.length≤100)
    (hk:∀i,i<ks.length→(ks.getD i .undef).cells=[ks.getD i .undef]∧(ks.getD i .undef).one=true):
    Abs.Fn Tryz.prog 78 [.esl,.func 53 [.ptr p 1 0]] H nx fun r H' nx'=>∃S:List Nat,S.Nodup∧(∀i,i∈S→i<ks.length)∧(∀i,i<ks.length→i∈S)∧Row H' 1 r (S.map (ks.getD · .undef))∧nx≤nx'∧∀b',cH r=some b'→nx≤b'∧b'<nx':=by
 refine fO DX ?_;simp only[b78,ay]
 repeat' (first|refine zW ?_|apply a_n|refine zO ?_|refine vZ ?_|refine bxZ ?_|fail)
 refine jq (nx+1) (nx+2) rfl rfl ev0 (fun c0 cj hy=>?_);refine Abs.Fn.mono (zC (p:=p) (b:=b) (ks:=ks) (vs:=vs) (fun S H' nx'=>nx+2≤nx'∧H' p=some [.mp b]∧H' b=some [.omap ks vs]∧H' (nx+1)=some [c0]∧∃sv,H' nx=some [sv]∧Row H' 1 sv (S.map (ks.getD · .undef))∧∀b',cH sv=some b'→nx+2<b'∧b'<nx') ?_ ?_ ?_ (fun i hi=>(hk i hi).1) ?_) ?_
 ·rintro S H' nx' ⟨h1,h2,h3,h4,h5⟩;exact⟨h2,h3,by omega,by omega⟩
 ·rintro S H1 H2 a c ⟨h1,h2,h3,h4,sv,h5,h6,h7⟩ hac hs;refine⟨by omega,(hs _ (by omega) (by omega)).trans h2,(hs _ (by omega) (by omega)).trans h3,(hs _ (by omega) (by omega)).trans h4,sv,(hs _ (by omega) (by omega)).trans h5,h6.same (fun b' hb'=>hs _ (h7 b' hb').2 (by have:=h7 b' hb';omega)),fun b' hb'=>⟨(h7 b' hb').1,by have:=h7 b' hb';omega⟩⟩
 ·refine⟨aM _,?_,?_,aj,.esl,?_,.nil,fun b' hb'=>(by cases hb')⟩
  ·rw[af (by omega),af (by omega),gp]
  ·rw[af (by omega),af (by omega),gb]
  ·rw[af (by omega),aj]
 ·rintro S i H' nx' hi hn hlt ⟨h1,h2,h3,h4,sv,h5,h6,h7⟩ hnx;obtain⟨k1,k2⟩:=hk i hi;refine hy _ _ _ _ h4 rfl ?_;clear hy;generalize hkk:ks.getD i .undef=kk at *
  repeat' (first|apply a_n|refine zO ?_|refine vZ ?_|fail)
  refine⟨h4,?_⟩;have zz:=aI @h5 (aI @k1 @k2);repeat' (first|refine zW ?_|apply a_n|refine zO ?_|refine vY ?_|refine blY ?_|fail)
  refine pn rfl ev0 (h6.same fun b' hb'=>?_) ev0 (k:=1) (new:=[kk]) iV (by simp[AV.ones,k2]) rfl ru (by rw[dM];omega) (by rw[dM];omega) ?_
  ·have:=h7 b' hb';rw[af (by omega),dh (by omega)]
  rintro sv' H2 nx2 r1 r2 r3 r4 r5;have z:∀x,x<nx'→x≠nx+1→cH sv≠some x→H2 x=H' x:=fun x a1 a2 a3=>(r4 x (by omega) a3).trans (by rw[af (by omega),dh a2]);have zs:∀x,x≤nx+2→cH sv≠some x:=fun x hx e=>by have:=h7 x e;omega
  have g5:H2 nx=some [sv]:=(z nx (by omega) (by omega) (zs _ (by omega))).trans h5;obtain⟨q1,q2⟩:=r1.one;clear zz;have zz:=aI @g5 (aI @q1 @q2);repeat' (first|apply a_n|refine zO ?_|refine stY ?_|fail)
  have w:∀x,x≠nx→x≠nx+1→am (am H2 nx (bv [sv] 0 [sv'])) (nx+1) [c0] x=H2 x:=fun x a1 a2=>by rw[af a2,af a1]
  have u7:∀b',cH sv'=some b'→nx+2<b'∧b'<nx2:=fun b' hb'=>by
   rcases r5 b' hb' with e|⟨e1,e2⟩
   ·have:=h7 b' e;omega
   ·omega
  refine⟨rfl,⟨by omega,by rw[w _ (by omega) (by omega),z _ (by omega) (by omega) (zs _ (by omega)),h2],by rw[w _ (by omega) (by omega),z _ (by omega) (by omega) (zs _ (by omega)),h3],aj,sv',?_,?_,u7⟩,by omega,by rw[w _ (by omega) (by omega),z _ (by omega) (by omega) (zs _ (by omega))]⟩
  ·rw[af (by omega),aj];rfl
  ·rw[hU,fZ,List.map_nil,hkk];exact r1.same (fun b' hb'=>w b' (by have:=u7 b' hb';omega) (by have:=u7 b' hb';omega))
 ·rintro r H' nx' ⟨S,⟨h1,h2,h3,h4,sv,h5,h6,h7⟩,s1,s2,s3⟩;refine .inl ⟨h4,?_⟩;have zz:=@h5;repeat' (first|refine zW ?_|apply a_n|refine zO ?_|refine vY ?_|refine ae rfl ?_|refine r1Y ?_|fail)
  exact⟨S,s1,s2,s3,h6.same (fun b' hb'=>dh (by have:=h7 b' hb';omega)),by omega,fun b' hb'=>by have:=h7 b' hb';omega⟩
end Go.Proofs.YtcbkggfipdldaaaGreat.Lb
namespace Go.Proofs.YtcbkggfipdldaaaGreat.Lb
open Go Go.Abs
def bl:List Int→List Int→Int
 |[],[]=>0
 |[],_::_=>-1
 |_::_,[]=>1
 |a::l,b::m=>if a<b then-1 else if a>b then 1 else bl l m
attribute [local irreducible] aG al bh a7 aV aU aB aX a9 bt Go.Abs.Fn aZ Go.Abs.Pure ax aO Yl
theorem oC(l m:List Int)(hl:Sh l)(hm:Sh m):pU 84 [aC l,aC m] (.bool (decide (l=m))):=by
 refine pO BI ?_;simp only[b84,ay]
 repeat' (first|refine zW ?_|apply a_n|apply a_r|refine zO ?_|refine vZ ?_|(refine zGZ ?_ ?_<;>(intro _hg;try (exfalso;omega)))|refine ae rfl ?_|refine r1Z ?_|fail)
 ·refine aY ?_
  symm;rw[decide_eq_false_iff_not];rintro rfl;omega
 refine dJ (X:=Nat) (fun k=>[(0,aC l),(1,aC m),(12,.int .i64 l.length),(13,.int .i64 k)]) (fun k=>k≤l.length∧∀i,i<k→l.getD i default=m.getD i default) (fun k=>l.length-k) 0 ⟨cu _,by simp⟩ ag0 ?_;rintro k ⟨h1,h2⟩
 repeat' (first|refine zW ?_|apply a_n|apply a_x|apply a_r|refine zO ?_|refine vZ ?_|(refine zGZ ?_ ?_<;>(intro _hg;try (exfalso;omega)))|refine ae rfl ?_|refine r1Z ?_|fail)
 ·refine aY ?_
  symm;rw[decide_eq_false_iff_not];rintro rfl;exact absurd rfl ‹_›
 ·refine⟨k+1,⟨by omega,fun i hi=>?_⟩,by omega,ag0,rfl,rfl⟩;rcases iJ.1 hi with h|rfl
  ·exact h2 i h
  ·omega
 ·refine aY ?_
  symm;rw[tR]
  refine List.ext_getElem (by omega) (fun i h3 h4=>?_);have:=h2 i (by omega);simpa[List.getD,h3,h4] using this
theorem ql(n:Int):pU 81 [.int .i64 n] (.bool false):=by
 refine pO Bn ?_;simp only[b81,ay]
 repeat' (first|refine zW ?_|apply a_n|refine zO ?_|refine vZ ?_|refine ae rfl ?_|refine r1Z ?_|fail)
 exact aY (by simp)
theorem xb(a b:Int):pU 63 [.int .i64 a,.int .i64 b] (.int .i64 (if a<b then-1 else if a>b then 1 else 0)):=by
 refine pO BJ ?_;simp only[b63,ay];have zz:=@cI;repeat' (first|refine zW ?_|apply a_n|apply a_r|refine zO ?_|refine vZ ?_|refine cZ ?_ (hp:=by exact ql _)|refine cFZ ?_|(refine zGZ ?_ ?_<;>(intro _hg;try (exfalso;omega)))|refine ae rfl ?_|refine r1Z ?_|fail)
 all_goals (refine aR ?_)
 ·rw[if_pos ‹_›]
 ·rw[if_neg ‹_›,if_pos ‹_›]
 ·rw[if_neg (by omega),if_neg (by omega)]
theorem eT(a b:List Int)(ha:Sh a)(hb:Sh b):pU 24 [aC a,aC b] (.int .i64 (bl a b)):=by
 refine pO CH ?_;simp only[b24,ay]
 repeat' (first|refine zW ?_|apply a_n|refine zO ?_|refine vZ ?_|fail)
 refine dJ (X:=Nat) (fun k=>[(0,aC a),(1,aC b),(9,aC a),(10,.int .i64 a.length),(11,.int .i64 k)]) (fun k=>k≤a.length∧k≤b.length∧bl a b=bl (a.drop k) (b.drop k)) (fun k=>a.length-k) 0 ⟨cu _,cu _,rfl⟩ ag0 ?_;rintro k ⟨h1,h2,h3⟩
 repeat' (first|refine zW ?_|apply a_n|apply a_x|apply a_r|refine zO ?_|refine vZ ?_|refine cZ ?_ (hp:=by exact xb _ _)|(refine zGZ ?_ ?_<;>(intro _hg;try (exfalso;omega)))|refine ae rfl ?_|refine r1Z ?_|fail)
 ·refine aR ?_;rw[h3,jD (show b.length≤k by omega),bO (l:=a) (by omega)];rfl
 ·refine aR ?_;rw[h3,bO (l:=a) (by omega),bO (l:=b) (by omega),bl];split
  ·rfl
  ·rename_i h;split
   ·rfl
   ·rename_i h';exact absurd (show(if a.getD k default<b.getD k default then(-1:Int) else if a.getD k default>b.getD k default then 1 else 0)=0 by rw[if_neg h,if_neg h']) ‹_›
 ·refine⟨k+1,⟨by omega,by omega,?_⟩,by omega,ag0,rfl,rfl⟩;rw[h3,bO (l:=a) (by omega),bO (l:=b) (by omega),bl];by_cases h:a.getD k default<b.getD k default
  ·rw[if_pos h] at _hg;exact absurd (by decide) _hg
  ·by_cases h':a.getD k default>b.getD k default
   ·rw[if_neg h,if_pos h'] at _hg;exact absurd (by decide) _hg
   ·rw[if_neg h,if_neg h']
 ·refine aR ?_;rw[h3,jD (show a.length≤k by omega),bO (l:=b) (by omega)];rfl
 ·refine aR ?_;rw[h3,jD (show a.length≤k by omega),jD (show b.length≤k by omega)];rfl
end Go.Proofs.YtcbkggfipdldaaaGreat.Lb
namespace Go.Proofs.YtcbkggfipdldaaaGreat.Lb
open Go Go.Abs
open Nat (reduceEqDiff reduceAdd reduceLeDiff)
attribute [local irreducible] aG al bh a7 aV aU aB aX a9 bt Go.Abs.Fn aZ Go.Abs.Pure ax aO Yl
theorem kZ(l:List (List Int))(p:List Int→Bool)(g:Nat)(caps:List AV)(hd:∀x∈caps,Dat x)(hg:∀x∈l,pU g (aC x::caps) (.bool (p x)))(hl:Sh l):pU 108 [bd l,.func g caps] (.int .i64 (if l.any p then(l.findIdx p:Nat) else-1)):=by
 refine pO Ae ?_;simp only[Aq,ay]
 repeat' (first|refine zW ?_|apply a_n|refine zO ?_|refine vZ ?_|fail)
 refine dJ (X:=Nat) (fun k=>[(0,bd l),(1,.func g caps),(7,.int .i64 l.length),(8,.int .i64 k)]) (fun k=>k≤l.length∧∀i,i<k→p (l.getD i default)=false) (fun k=>l.length-k) 0 ⟨cu _,by simp⟩ ag0 ?_;rintro k ⟨h1,h2⟩
 repeat' (first|refine zW ?_|apply a_n|apply a_x|apply a_r|refine zO ?_|refine vZ ?_|refine cZ ?_ (hp:=by exact hg _ (an (by omega))) (hs:=by(first|refine ak ?_ rfl|apply au);(repeat' (first|exact ai|apply aD|apply aw|exact av hd));first|done|fail)|(refine zGZ ?_ ?_<;>(intro _hg;try (exfalso;omega)))|refine ae rfl ?_|refine r1Z ?_|fail)
 ·refine aR ?_;have hk:k<l.length:=by omega
  have e:l.getD k default=l[k]:=by simp[List.getD,hk]
  rw[e] at _hg;have hm:l.any p=true:=jB.2 ⟨l[k],jx hk,_hg⟩;rw[if_pos hm,(List.findIdx_eq hk).2 ⟨_hg,fun j hj=>by have:=h2 j hj;rwa [show l.getD j default=l[j] by simp[List.getD,show j<l.length by omega]] at this⟩]
 ·refine⟨k+1,⟨by omega,fun i hi=>?_⟩,by omega,ag0,rfl,rfl⟩;rcases iJ.1 hi with h|rfl
  ·exact h2 i h
  ·exact _hg
 ·refine aR ?_;rw[if_neg];rw[Bool.not_eq_true,List.any_eq_false];intro x hx;obtain⟨i,hi,e⟩:=fP hx;have:=h2 i (by omega);rw[show l.getD i default=x by simp[List.getD,hi,e]] at this;simp[this]
theorem hJ(l:List (List Int))(p:List Int→Bool)(g:Nat)(caps:List AV)(hd:∀x∈caps,Dat x)(hg:∀x∈l,pU g (aC x::caps) (.bool (p x)))(hl:Sh l):pU 82 [bd l,.func g caps] (.bool (l.any p)):=by
 refine pO Cd ?_;simp only[b82,ay]
 repeat' (first|refine zW ?_|apply a_n|refine zO ?_|refine vZ ?_|refine cZ ?_ (hp:=by exact kZ l p g caps hd hg hl) (hs:=by(first|refine ak ?_ rfl|apply au);(repeat' (first|exact ai|apply aD|apply aw|exact Dat.func hd));first|done|fail)|refine ae rfl ?_|refine r1Z ?_|fail)
 refine aY ?_;split<;>simp_all
theorem tc(v x:List Int)(hv:Sh v)(hx:Sh x):pU 83 [aC x,.iptr [aC v] 0] (.bool (decide (x=v))):=by
 refine pO Cb ?_;simp only[b83,ay]
 repeat' (first|refine zW ?_|apply a_n|refine zO ?_|refine vZ ?_|refine cZ ?_ (hp:=by exact oC _ _ hx hv)|refine ae rfl ?_|refine r1Z ?_|fail)
 exact .bool _
theorem yr(l:List (List Int))(v:List Int)(hl:Sh l)(hs:∀x∈l,Sh x)(hv:Sh v):pU 65 [bd l,aC v] (.bool (l.any fun x=>decide (x=v))):=by
 refine pO Bv ?_;simp only[b65,ay]
 repeat' (first|refine zW ?_|apply a_n|refine zO ?_|refine vZ ?_|refine bxZ ?_|fail)
 refine co ev0 ev0 (hJ l (fun x=>decide (x=v)) 83 [.iptr [aC v] 0] (DatL.cons (Dat.iptr (DatL.cons (bw _) DatL.nil)) DatL.nil) (fun x hx=>tc v x hv (hs x hx)) hl) (ak (by(repeat' (first|exact ai|exact Dat.snap Dat.int|exact Dat.snap Dat.bool|exact Dat.snap Dat.str|exact Dat.snap Dat.esl|exact Dat.snap Dat.nilf|exact Dat.snap (bw _)|exact Dat.snap (bi _)|apply ap|apply d6|apply ez|(apply dR;(focus ((try simp only[bR,ZA,reduceEqDiff,↓reduceIte,reduceAdd,reduceLeDiff]);with_reducible rfl));(focus rfl))))) rfl) ?_
 repeat' (first|apply a_n|refine zO ?_|refine vZ ?_|refine ae rfl ?_|refine r1Z ?_|fail)
 exact .bool _
theorem lH(x most:Int):pU 62 [.int .i64 x,.iptr [.int .i64 most] 0] (.bool (decide (x<0∨most≤x))):=by
 refine pO Bq ?_;simp only[b62,ay]
 repeat' (first|refine zW ?_|apply a_n|refine zO ?_|refine vZ ?_|refine gTZ ?_|refine gFZ ?_|(refine zGZ ?_ ?_<;>(intro _hg;try (exfalso;omega)))|refine ae rfl ?_|refine r1Z ?_|fail)
 all_goals (refine aY ?_)
 ·exact decide_eq_decide.2 (by omega)
 ·rw[cA (by omega)]
def uI(n most:Int)(v:List Int):Bool:=decide ((v.length:Int)=n)&&v.all fun x=>decide (0≤x∧x<most)
theorem ja(v:List Int)(n most:Int)(hv:Sh v)(hg:uI n most v=true):pU 23 [aC v,.int .i64 n,.int .i64 most] (.int .i64 0):=by
 refine pO Ch ?_;simp only[b23,ay];unfold uI at hg;rw[dl,tR,cT] at hg;obtain⟨h1,h2⟩:=hg
 repeat' (first|refine zW ?_|apply a_n|refine zO ?_|refine vZ ?_|refine bxZ ?_|(refine zGZ ?_ ?_<;>(intro _hg;try (exfalso;omega)))|fail)
 refine co ev0 ev0 (ft v (fun x=>decide (x<0∨most≤x)) 62 [.iptr [.int .i64 most] 0] (DatL.cons (Dat.iptr (DatL.cons .int DatL.nil)) DatL.nil) (fun x _=>lH x most) hv) (ak (by(repeat' (first|exact ai|exact Dat.snap Dat.int|exact Dat.snap Dat.bool|exact Dat.snap Dat.str|exact Dat.snap Dat.esl|exact Dat.snap Dat.nilf|exact Dat.snap (bw _)|exact Dat.snap (bi _)|apply ap|apply d6|apply ez|(apply dR;(focus ((try simp only[bR,ZA,reduceEqDiff,↓reduceIte,reduceAdd,reduceLeDiff]);with_reducible rfl));(focus rfl))))) rfl) ?_
 have hn:(v.any fun x=>decide (x<0∨most≤x))=false:=by
  rw[List.any_eq_false];intro x hx;have:=h2 x hx;rw[tR] at this ⊢;omega
 rw[hn];have zz:=@cI;repeat' (first|refine zW ?_|apply a_n|refine zO ?_|refine vZ ?_|refine cFZ ?_|refine ae rfl ?_|refine r1Z ?_|fail)
 all_goals exact .int _ _
theorem fj(l:List (List Int))(i:Nat)(hi:i<l.length)(hl:Sh l)(hs:∀x∈l,Sh x):pU 64 [bd l,.int .i64 i] (.bool (decide (0<i)&&decide (0≤bl (l.getD (i-1) default) (l.getD i default)))):=by
 refine pO Bi ?_;simp only[b64,ay];by_cases h0:i=0
 ·subst h0;have zz:=(show((0:Nat):Int)=0 from rfl);repeat' (first|refine zW ?_|refine zM ?_|apply a_n|refine zO ?_|refine vZ ?_|refine gFZ ?_|(refine zGZ ?_ ?_<;>(intro _hg;try (exfalso;omega)))|refine ae rfl ?_|refine r1Z ?_|fail)
  exact aY (by simp)
 ·have e:((i:Int)-1).toNat=i-1:=by omega
  have hc:=eT (l.getD (i-1) default) (l.getD i default) (hs _ (an (by omega))) (hs _ (an (by omega)));have zz:=@e;repeat' (first|refine zW ?_|refine zM ?_|apply a_n|refine zO ?_|refine vZ ?_|refine cZ ?_ (hp:=hc)|refine gTZ ?_|(refine zGZ ?_ ?_<;>(intro _hg;try (exfalso;omega)))|refine ae rfl ?_|refine r1Z ?_|fail)
  refine aY ?_;rw[cA (show 0<i by omega),Bool.true_and]
def kg(l:List (List Int)):Bool:=(List.range l.length).all fun i=>!(decide (0<i)&&decide (0≤bl (l.getD (i-1) default) (l.getD i default)))
theorem j0{l:List (List Int)}(h:kg l=true){i:Nat}(hi:i<l.length):(decide (0<i)&&decide (0≤bl (l.getD (i-1) default) (l.getD i default)))=false:=by
 unfold kg at h;rw[cT] at h;have:=h i (en.2 hi)
 rwa [Bool.not_eq_true'] at this
def xu(n outs:Int)(c:CaseV):Bool:=decide (1≤c.out.length∧c.out.length≤1024)&&c.out.all (uI n outs)&&kg c.out&&c.calm.all (fun v=>c.out.any fun x=>decide (x=v))&&kg c.calm
theorem tA(n ins outs:Int)(cs:AV)(hcs:Dat cs∧cs.cells=[cs]∧cs.one=true)(c:CaseV)(hs:ShC c)(hg:xu n outs c=true):pU 25 [.agg [.int .i64 n,.int .i64 ins,.int .i64 outs,cs],.agg [aC c.inp,bd c.out,bd c.calm]] (.int .i64 0):=by
 refine pO B2 ?_;simp only[b25,ay];obtain⟨hc1,hc2,hc3⟩:=hcs;obtain⟨s1,s2,s3,s4,s5⟩:=hs;unfold xu at hg;simp only[dl,tR,cT] at hg;obtain⟨⟨⟨⟨g1,g2⟩,g3⟩,g4⟩,g5⟩:=hg;have zz:=aI @hc2 @hc3;repeat' (first|refine zW ?_|apply a_n|refine zO ?_|refine vZ ?_|refine bxZ ?_|refine gTZ ?_|(refine zGZ ?_ ?_<;>(intro _hg;try (exfalso;omega)))|fail)
 refine dJ (X:=Nat) (fun k=>[(2,.ptr 0 4 0),(3,.ptr 1 3 0),(21,bd c.out),(22,.int .i64 c.out.length),(23,.int .i64 k)]) (fun k=>k≤c.out.length) (fun k=>c.out.length-k) 0 (cu _) (by simp (disch:=omega) only[agr,ZG,reduceEqDiff,↓reduceIte,de,dF,reduceAdd,bQ]) ?_;rintro k hk;by_cases hj:k<c.out.length
 ·have hm:=an hj;have hv:=ja (c.out.getD k default) n outs (s3 _ hm) (g2 _ hm);have hu:=fj c.out k hj s2 s3;rw[j0 g3 hj] at hu;clear zz;have zz:=aI @hc2 (aI @hc3 @cI);repeat' (first|refine zW ?_|apply a_n|refine zO ?_|refine vZ ?_|refine cZ ?_ (hp:=by first|exact hv|exact hu)|refine cFZ ?_|(refine zGZ ?_ ?_<;>(intro _hg;try (exfalso;omega)))|fail)
  exact⟨k+1,by omega,by omega,ag0,rfl,rfl⟩
 ·clear zz;have zz:=aI @hc2 @hc3;repeat' (first|refine zW ?_|apply a_n|apply a_x|refine zO ?_|refine vZ ?_|(refine zGZ ?_ ?_<;>(intro _hg;try (exfalso;omega)))|fail)
  refine dJ (X:=Nat) (fun k=>[(2,.ptr 0 4 0),(3,.ptr 1 3 0),(43,bd c.calm),(44,.int .i64 c.calm.length),(45,.int .i64 k)]) (fun k=>k≤c.calm.length) (fun k=>c.calm.length-k) 0 (cu _) ag0 ?_;rintro k hk;by_cases hj:k<c.calm.length
  ·have hm:=an hj;have hv:=yr c.out (c.calm.getD k default) s2 s3 (s5 _ hm);rw[g4 _ hm] at hv;have hu:=fj c.calm k hj s4 s5;rw[j0 g5 hj] at hu;clear zz;have zz:=aI @hc2 (aI @hc3 @cI);repeat' (first|refine zW ?_|apply a_n|refine zO ?_|refine vZ ?_|refine cZ ?_ (hp:=by first|exact hv|exact hu)|refine cFZ ?_|(refine zGZ ?_ ?_<;>(intro _hg;try (exfalso;omega)))|fail)
   exact⟨k+1,by omega,by omega,ag0,rfl,rfl⟩
  ·clear zz;have zz:=aI @hc2 @hc3;repeat' (first|refine zW ?_|apply a_n|apply a_x|refine zO ?_|refine vZ ?_|(refine zGZ ?_ ?_<;>(intro _hg;try (exfalso;omega)))|refine ae rfl ?_|refine r1Z ?_|fail)
   exact .int _ _
def Ac(t:TaskV):Bool:=decide (1≤t.n∧t.n≤5∧1≤t.ins∧t.ins≤8∧1≤t.outs∧t.outs≤8∧1≤t.cases.length∧t.cases.length≤1024)&&t.cases.all (fun c=>uI t.n t.ins c.inp&&xu t.n t.outs c)&&kg (t.cases.map CaseV.inp)
theorem mF(t:TaskV)(hs:∀c∈t.cases,ShC c)(hg:Ac t=true):pU 8 [encT t] (.int .i64 0):=by
 refine pO is8 ?_;simp only[b8,ay];unfold Ac at hg;simp only[dl,tR,cT] at hg;obtain⟨⟨⟨g1,g2,g3,g4,g5,g6,g7,g8⟩,g9⟩,g10⟩:=hg;unfold encT;have zz:=aI @az (aI @ar @aS);repeat' (first|refine zW ?_|apply a_n|refine zO ?_|refine vZ ?_|refine bxZ ?_|refine gTZ ?_|(refine zGZ ?_ ?_<;>(intro _hg;try (exfalso;omega)))|fail)
 refine bo (X:=Nat) (fun k=>[(1,.ptr 0 4 0),(44,encCs t.cases),(45,.int .i64 t.cases.length),(46,.int .i64 k)]) (fun k H nx=>k≤t.cases.length∧1≤nx∧H 0=some [.int .i64 t.n,.int .i64 t.ins,.int .i64 t.outs,encCs t.cases]) (fun k=>t.cases.length-k) 0 ⟨cu _,aM _,rfl⟩ (by simp (disch:=omega) only[agr,ZG,reduceEqDiff,↓reduceIte,de,dF,reduceAdd]) ?_;rintro k H nx ⟨hk,hn,h0⟩;by_cases hj:k<t.cases.length
 ·have hm:=an hj;have hsh:=hs _ hm;obtain⟨q1,q2⟩:=g9 _ hm;have hv:=ja _ _ _ hsh.1 q1;have hvs:=tA t.n t.ins t.outs (encCs t.cases) ⟨gF _,rfl,rfl⟩ _ hsh q2;have d1:Dat (eb (t.cases.getD k default)):=Dat.agg (DatL.cons (bw _) (DatL.cons (bi _) (DatL.cons (bi _) DatL.nil)));have d2:=eM t;unfold eb at d1;unfold encT at d2;by_cases hz:k=0
  ·subst hz;have hi0:eH 3 (encCs t.cases) (.int .i64 0)=_:=a6 (l:=t.cases) (k:=0) hj;clear zz;have zz:=aI @h0 (aI @az (aI @ar (aI @aS (aI @a6 (aI @cI (aI (show((0:Nat):Int)=0 from rfl) @hi0))))));repeat' (first|refine zW ?_|refine zM ?_|apply a_n|refine zO ?_|refine vY ?_|refine cY ?_ (hp:=by first|exact hv|exact hvs)|refine alY ?_|refine stY ?_|refine gFY ?_|refine cFY ?_|(refine zGY ?_ ?_<;>(intro _hg;try (exfalso;omega)))|fail)
   refine⟨0+1,by omega,⟨by omega,by omega,?_⟩,ag0⟩;rw[af (by omega),af (by omega),h0]
  ·have e1:(k:Int)-1=((k-1:Nat):Int):=by omega
   have hso:=j0 g10 (i:=k) (by simpa using hj);have ho:=eT (t.cases.getD (k-1) default).inp (t.cases.getD k default).inp (hs _ (an (by omega))).1 hsh.1;have hi1:=a6 (l:=t.cases) (k:=k-1) (by omega);rw[←e1] at hi1;clear zz;have zz:=aI @h0 (aI @az (aI @ar (aI @aS (aI @a6 (aI @cI @hi1)))));repeat' (first|refine zW ?_|refine zM ?_|apply a_n|apply a_r|refine zO ?_|refine vY ?_|refine cY ?_ (hp:=by first|exact hv|exact hvs|exact ho)|refine alY ?_|refine stY ?_|refine gTY ?_|(refine zGY ?_ ?_<;>(intro _hg;try (exfalso;omega)))|refine ae rfl ?_|refine r1Y ?_|fail)
   ·exfalso;have e3:(t.cases.map CaseV.inp).getD k default=(t.cases.getD k default).inp:=by simp[List.getD,hj]
    have e4:(t.cases.map CaseV.inp).getD (k-1) default=(t.cases.getD (k-1) default).inp:=by simp[List.getD,show k-1<t.cases.length by omega]
    rw[e3,e4,cA (show 0<k by omega),Bool.true_and,decide_eq_false_iff_not] at hso;exact hso ‹_›
   ·refine⟨k+1,by omega,⟨by omega,by omega,?_⟩,ag0⟩;rw[af (by omega),af (by omega),h0]
 ·clear zz;have zz:=aI @h0 (aI @az (aI @ar (aI @aS (aI @a6 @cI))));repeat' (first|refine zW ?_|apply a_n|apply a_x|refine zO ?_|refine vY ?_|(refine zGY ?_ ?_<;>(intro _hg;try (exfalso;omega)))|refine ae rfl ?_|refine r1Y ?_|fail)
  exact .int _ _
end Go.Proofs.YtcbkggfipdldaaaGreat.Lb
namespace Go.Proofs.YtcbkggfipdldaaaGreat.Lb
open Go Go.Abs
attribute [local irreducible] aG al bh a7 aV aU aB aX a9 bt Go.Abs.Fn aZ Go.Abs.Pure ax aO Yl
set_option maxRecDepth 20000
theorem qQ(n:Nat)(h:n≤7):∃r:Int,pU 95 [.int .u64 n] (.int .i64 r):=by
 have hn:n=0∨n=1∨n=2∨n=3∨n=4∨n=5∨n=6∨n=7:=by omega
 rcases hn with rfl|rfl|rfl|rfl|rfl|rfl|rfl|rfl
 ·refine⟨?_,Pure.of_c2 follows pg (my rfl) ?_⟩
  rotate_left
  simp only[b95,ay]
  repeat' (first|refine zW ?_|apply a_n|refine zO ?_|refine vZ ?_|(refine zGZ ?_ ?_<;>(intro _hg;try (exfalso;omega)))|fail)
  refine gJ (r:=.int .u8 0) rfl rfl (by kernel_rfl) ?_
  repeat' (first|apply a_n|refine zO ?_|refine vZ ?_|refine ae rfl ?_|refine r1Z ?_|fail)
  exact .int _ _
 ·refine⟨?_,Pure.of_c2 follows pg (my rfl) ?_⟩
  rotate_left
  simp only[b95,ay]
  repeat' (first|refine zW ?_|apply a_n|refine zO ?_|refine vZ ?_|(refine zGZ ?_ ?_<;>(intro _hg;try (exfalso;omega)))|fail)
  refine gJ (r:=.int .u8 1) rfl rfl (by kernel_rfl) ?_
  repeat' (first|apply a_n|refine zO ?_|refine vZ ?_|refine ae rfl ?_|refine r1Z ?_|fail)
  exact .int _ _
 ·refine⟨?_,Pure.of_c2 follows pg (my rfl) ?_⟩
  rotate_left
  simp only[b95,ay]
  repeat' (first|refine zW ?_|apply a_n|refine zO ?_|refine vZ ?_|(refine zGZ ?_ ?_<;>(intro _hg;try (exfalso;omega)))|fail)
  refine gJ (r:=.int .u8 2) rfl rfl (by kernel_rfl) ?_
  repeat' (first|apply a_n|refine zO ?_|refine vZ ?_|refine ae rfl ?_|refine r1Z ?_|fail)
  exact .int _ _
 ·refine⟨?_,Pure.of_c2 follows pg (my rfl) ?_⟩
  rotate_left
  simp only[b95,ay]
  repeat' (first|refine zW ?_|apply a_n|refine zO ?_|refine vZ ?_|(refine zGZ ?_ ?_<;>(intro _hg;try (exfalso;omega)))|fail)
  refine gJ (r:=.int .u8 2) rfl rfl (by kernel_rfl) ?_
  repeat' (first|apply a_n|refine zO ?_|refine vZ ?_|refine ae rfl ?_|refine r1Z ?_|fail)
  exact .int _ _
 ·refine⟨?_,Pure.of_c2 follows pg (my rfl) ?_⟩
  rotate_left
  simp only[b95,ay]
  repeat' (first|refine zW ?_|apply a_n|refine zO ?_|refine vZ ?_|(refine zGZ ?_ ?_<;>(intro _hg;try (exfalso;omega)))|fail)
  refine gJ (r:=.int .u8 3) rfl rfl (by kernel_rfl) ?_
  repeat' (first|apply a_n|refine zO ?_|refine vZ ?_|refine ae rfl ?_|refine r1Z ?_|fail)
  exact .int _ _
 ·refine⟨?_,Pure.of_c2 follows pg (my rfl) ?_⟩
  rotate_left
  simp only[b95,ay]
  repeat' (first|refine zW ?_|apply a_n|refine zO ?_|refine vZ ?_|(refine zGZ ?_ ?_<;>(intro _hg;try (exfalso;omega)))|fail)
  refine gJ (r:=.int .u8 3) rfl rfl (by kernel_rfl) ?_
  repeat' (first|apply a_n|refine zO ?_|refine vZ ?_|refine ae rfl ?_|refine r1Z ?_|fail)
  exact .int _ _
 ·refine⟨?_,Pure.of_c2 follows pg (my rfl) ?_⟩
  rotate_left
  simp only[b95,ay]
  repeat' (first|refine zW ?_|apply a_n|refine zO ?_|refine vZ ?_|(refine zGZ ?_ ?_<;>(intro _hg;try (exfalso;omega)))|fail)
  refine gJ (r:=.int .u8 3) rfl rfl (by kernel_rfl) ?_
  repeat' (first|apply a_n|refine zO ?_|refine vZ ?_|refine ae rfl ?_|refine r1Z ?_|fail)
  exact .int _ _
 ·refine⟨?_,Pure.of_c2 follows pg (my rfl) ?_⟩
  rotate_left
  simp only[b95,ay]
  repeat' (first|refine zW ?_|apply a_n|refine zO ?_|refine vZ ?_|(refine zGZ ?_ ?_<;>(intro _hg;try (exfalso;omega)))|fail)
  refine gJ (r:=.int .u8 3) rfl rfl (by kernel_rfl) ?_
  repeat' (first|apply a_n|refine zO ?_|refine vZ ?_|refine ae rfl ?_|refine r1Z ?_|fail)
  exact .int _ _
theorem sM(n:Nat)(h:n≤7):∃r:Int,pU 71 [.int .u64 n] (.int .i64 r):=by
 obtain⟨r,hr⟩:=qQ n h;refine⟨r,Pure.of_c2 follows As (my rfl) ?_⟩;simp only[b71,ay]
 repeat' (first|refine zW ?_|apply a_n|refine zO ?_|refine vZ ?_|refine cZ ?_ (hp:=hr)|refine cFZ ?_|refine ae rfl ?_|refine r1Z ?_|fail)
 exact .int _ _
def swp(l:List Int)(j:Nat):List Int:=(l.set (j+1) (l.getD j default)).set j (l.getD (j+1) default)
def Cj:Nat→List Int→List Int
 |0,l=>l
 |j+1,l=>if l.getD (j+1) default<l.getD j default then Cj j (swp l j) else l
def Ab:Nat→Nat→List Int→List Int
 |0,_,l=>l
 |f+1,i,l=>Ab f (i+1) (Cj i l)
def CM(l:List Int):List Int:=Ab (l.length-1) 1 l
theorem qG(l:List Int)(j:Nat):(swp l j).length=l.length:=by simp[swp]
theorem ao(H:Hp)(b:Nat)(x y:List AV):am (am H b x) b y=am H b y:=by
 funext i
 by_cases e:i=b
 ·subst e;rw[aj,aj]
 ·rw[af e,af e,af e]
end Go.Proofs.YtcbkggfipdldaaaGreat.Lb
namespace Go.Proofs.YtcbkggfipdldaaaGreat.Lb
open Go Go.Abs
open Nat (reduceEqDiff reduceAdd reduceLeDiff)
attribute [local irreducible] aG al bh a7 aV aU aB aX a9 bt Go.Abs.Fn aZ Go.Abs.Pure ax aO Yl
def pK(a b:ByteArray):Bool:=Op.bytesLess a.toList b.toList
theorem yy(a b:ByteArray):bb .lss false false (.str a) (.str b)=some (.bool (pK a b)):=rfl
theorem y9(a b:ByteArray):bb .neq false false (.str a) (.str b)=some (.bool (!(a.toList==b.toList))):=rfl
theorem xy(s:ByteArray):pU 126 [.str s] (.bool false):=by
 refine pO A9 ?_;simp only[Bu,ay];have zz:=@y9;repeat' (first|refine zW ?_|apply a_n|refine zO ?_|refine vZ ?_|refine ae rfl ?_|refine r1Z ?_|fail)
 exact aY (by simp)
theorem yL(a b:ByteArray):pU 105 [.str a,.str b] (.bool (pK a b)):=by
 refine pO Cy ?_;simp only[Cl,ay];have zz:=aI @cI @yy;repeat' (first|refine zW ?_|apply a_n|refine zO ?_|refine vZ ?_|refine cZ ?_ (hp:=by exact xy _)|refine gTZ ?_|refine gFZ ?_|refine ae rfl ?_|refine r1Z ?_|fail)
 exact .bool _
theorem pC{l:List ByteArray}{k:Nat}{x:ByteArray}(h:k<l.length):bv (l.map AV.str) k [AV.str x]=(l.set k x).map AV.str:=by
 simp only[bv,List.map_set,de,dF,bQ];rw[zg,if_pos (by simpa using h)];simp
def su(l:List ByteArray)(j:Nat):List ByteArray:=(l.set (j+1) (l.getD j default)).set j (l.getD (j+1) default)
def ku:Nat→List ByteArray→List ByteArray
 |0,l=>l
 |j+1,l=>if pK (l.getD (j+1) default) (l.getD j default)=true then ku j (su l j) else l
def nf:Nat→Nat→List ByteArray→List ByteArray
 |0,_,l=>l
 |f+1,i,l=>nf f (i+1) (ku i l)
def jr(l:List ByteArray):List ByteArray:=nf (l.length-1) 1 l
theorem yj(l:List ByteArray)(j:Nat):(su l j).length=l.length:=by simp[su]
theorem qL(l:List ByteArray)(hl:Sh l)(h0:l≠[])(H:Hp)(B nx:Nat)(hH:H B=some (l.map AV.str))(hB:B<nx):
    Abs.Fn Tryz.prog 99 [.msl B l.length 1 0 l.length,.int .i64 0,.int .i64 l.length] H nx fun _ H' nx'=>H'=am H B ((jr l).map AV.str)∧nx'=nx:=by
 refine fO Dg ?_;simp only[b99,ay];have hpos:=nX.2 h0
 repeat' (first|refine zW ?_|apply a_n|refine zO ?_|refine vZ ?_|fail)
 refine bo (X:=Nat×List ByteArray) (fun x=>[(0,.msl B l.length 1 0 l.length),(1,.int .i64 0),(2,.int .i64 l.length),(6,.int .i64 x.1)]) (fun x H' nx'=>x.2.length=l.length∧1≤x.1∧x.1≤l.length∧H'=am H B (x.2.map AV.str)∧nx'=nx∧nf (l.length-x.1) x.1 x.2=jr l) (fun x=>l.length-x.1) (1,l) ⟨rfl,aM _,hpos,?_,rfl,rfl⟩ (by simp (disch:=omega) only[agr,ZG,reduceEqDiff,↓reduceIte,Int.zero_add]) ?_
 ·funext b
  by_cases e:b=B
  ·subst e;rw[aj];exact hH
  ·rw[af e]
 rintro⟨i,L⟩ H' nx' ⟨e1,e2,e3,rfl,rfl,e4⟩;dsimp only at e1 e2 e3 e4 ⊢;by_cases hi:i<l.length
 ·repeat' (first|refine zW ?_|apply a_n|refine zO ?_|refine vZ ?_|(refine zGZ ?_ ?_<;>(intro _hg;try (exfalso;omega)))|fail)
  refine bo (X:=Nat×List ByteArray) (fun x=>[(0,.msl B l.length 1 0 l.length),(1,.int .i64 0),(2,.int .i64 l.length),(6,.int .i64 i),(7,.int .i64 x.1)]) (fun x H' nxx=>x.2.length=l.length∧x.1≤i∧H'=am H B (x.2.map AV.str)∧nxx=nx'∧ku x.1 x.2=ku i L) (fun x=>x.1) (i,L) ⟨e1,aM _,rfl,rfl,rfl⟩ ag0 ?_;rintro⟨j,M⟩ H' nxx ⟨a1,a2,rfl,rfl,a3⟩;dsimp only at a1 a2 a3 ⊢;cases j with
  |zero=>
   repeat' (first|refine zW ?_|refine zM ?_|apply a_n|apply a_x|refine zO ?_|refine vZ ?_|refine gFZ ?_|(refine zGZ ?_ ?_<;>(intro _hg;try (exfalso;omega)))|refine cFZ ?_|fail)
   refine⟨(i+1,M),by dsimp only;omega,⟨a1,by dsimp only;omega,by dsimp only;omega,rfl,rfl,?_⟩,ag0⟩;dsimp only;rw[show ku 0 M=M from rfl] at a3;rw[a3,←e4,show l.length-i=(l.length-(i+1))+1 by omega];rfl
  |succ j=>
   have tj:((j+1:Nat):Int)-1=j:=by omega
   have lc:=yL (M.getD (j+1) default) (M.getD j default);by_cases hc:pK (M.getD (j+1) default) (M.getD j default)=true
   ·rw[hc] at lc;have hM2:(su M j).length=l.length:=by rw[yj,a1]
    obtain⟨M1,hl1,lm1,lm2⟩:∃M1:List ByteArray,M1.length=l.length∧bv (M.map AV.str) (j+1) [.str (M.getD j default)]=M1.map AV.str∧bv (M1.map AV.str) j [.str (M.getD (j+1) default)]=(su M j).map AV.str:=
     ⟨M.set (j+1) (M.getD j default),by simp[a1],pC (by omega),by rw[pC (by simp;omega)];rfl⟩
    have lm3:=lm2;simp only[bv,de,dF,bQ] at lm1 lm2;have zz:=aI @tj (aI @bD (aI @lm1 @lm2));repeat' (first|refine zW ?_|refine zM ?_|apply a_n|refine zO ?_|refine vZ ?_|refine cZ ?_ (hp:=lc)|refine stZ ?_|refine gTZ ?_|(refine zGZ ?_ ?_<;>(intro _hg;try (exfalso;omega)))|refine cTZ ?_|fail)
    refine⟨(j,su M j),by dsimp only;omega,⟨hM2,by dsimp only;omega,?_,rfl,?_⟩,(have zz:=@tj;agZ)⟩
    ·dsimp only;rw[ao,ao,lm3]
    ·dsimp only;rw[←a3,ku,if_pos hc]
   ·rw[Bool.not_eq_true _ |>.mp hc] at lc;have zz:=aI @tj @bD;repeat' (first|refine zW ?_|refine zM ?_|apply a_n|apply a_x|refine zO ?_|refine vZ ?_|refine cZ ?_ (hp:=lc)|refine gTZ ?_|(refine zGZ ?_ ?_<;>(intro _hg;try (exfalso;omega)))|refine cFZ ?_|fail)
    refine⟨(i+1,M),by dsimp only;omega,⟨a1,by dsimp only;omega,by dsimp only;omega,rfl,rfl,?_⟩,ag0⟩;dsimp only;rw[ku,if_neg hc] at a3;rw[a3,←e4,show l.length-i=(l.length-(i+1))+1 by omega];rfl
 ·repeat' (first|refine zW ?_|apply a_n|apply a_x|refine zO ?_|refine vZ ?_|(refine zGZ ?_ ?_<;>(intro _hg;try (exfalso;omega)))|refine ae rfl ?_|fail)
  refine⟨?_,rfl⟩;rw[←e4,show l.length-i=0 by omega];rfl
theorem Ap(l:List ByteArray)(hl:l.length≤12)(h0:l≠[])(x:Int)(H:Hp)(B nx:Nat)(hH:H B=some (l.map AV.str))(hB:B<nx):
    Abs.Fn Tryz.prog 79 [.msl B l.length 1 0 l.length,.int .i64 0,.int .i64 l.length,.int .i64 x] H nx fun _ H' nx'=>H'=am H B ((jr l).map AV.str)∧nx'=nx:=by
 refine fO De ?_;simp only[b79,ay]
 repeat' (first|refine zW ?_|apply a_n|refine zO ?_|refine vZ ?_|fail)
 refine bo (X:=Unit) (fun _=>[(0,.msl B l.length 1 0 l.length),(1,.int .i64 0),(2,.int .i64 l.length)]) (fun _ H' nx'=>H'=H∧nx'=nx) (fun _=>0) () ⟨rfl,rfl⟩ ag0 ?_;rintro _ H' nx' ⟨rfl,rfl⟩;refine dg ?_
 repeat' (first|refine zW ?_|apply a_n|refine zO ?_|refine vZ ?_|(refine zGZ ?_ ?_<;>(intro _hg;try (exfalso;omega)))|fail)
 refine aJ ev0 ev0 (qL l (by show _≤_;omega) h0 H' B nx' hH hB) ?_;rintro _ H2 nx2 ⟨rfl,rfl⟩
 repeat' (first|apply a_n|apply a_r|refine zO ?_|refine ae rfl ?_|fail)
 exact⟨rfl,rfl⟩
theorem zu(l:List ByteArray)(hl:l.length≤7)(h0:l≠[])(H:Hp)(B nx:Nat)(hH:H B=some (l.map AV.str))(hB:B<nx):
    Abs.Fn Tryz.prog 52 [.msl B l.length 1 0 l.length] H nx fun _ H' nx'=>H'=am H B ((jr l).map AV.str)∧nx'=nx:=by
 refine fO Ea ?_;simp only[b52,ay];obtain⟨r,hr⟩:=sM l.length hl;have hw:IntKind.u64.wrap (l.length:Int)=l.length:=e9 (by omega) (by omega);have zz:=@hw;repeat' (first|refine zW ?_|apply a_n|refine zO ?_|refine vZ ?_|refine cZ ?_ (hp:=hr)|fail)
 refine aJ ev0 ev0 (Ap l (by omega) h0 r H B nx hH hB) ?_;rintro _ H2 nx2 ⟨rfl,rfl⟩
 repeat' (first|apply a_n|refine zO ?_|refine ae rfl ?_|fail)
 exact⟨rfl,rfl⟩
end Go.Proofs.YtcbkggfipdldaaaGreat.Lb
namespace Go.Proofs.YtcbkggfipdldaaaGreat.Lb
open Go Go.Abs
def nameL:List ByteArray:=[vh,zc,vb,vq,ux,zA,zh]
def nm(i:Nat):ByteArray:=nameL.getD i default
theorem Bt:(List.range 7).all (fun i=>(List.range 7).all fun j=>pK (nm i) (nm j)==decide (i<j))=true:=by decide+kernel
theorem AR{i j:Nat}(hi:i<7)(hj:j<7):pK (nm i) (nm j)=decide (i<j):=by
 have:=cT.1 (cT.1 Bt i (en.2 hi)) j (en.2 hj);simpa using this
def uv(l:List Nat)(j:Nat):List Nat:=(l.set (j+1) (l.getD j default)).set j (l.getD (j+1) default)
def nM:Nat→List Nat→List Nat
 |0,l=>l
 |j+1,l=>if l.getD (j+1) default<l.getD j default then nM j (uv l j) else l
def lz:Nat→Nat→List Nat→List Nat
 |0,_,l=>l
 |f+1,i,l=>lz f (i+1) (nM i l)
theorem rW(l:List Nat)(j:Nat):(uv l j).length=l.length:=by simp[uv]
theorem wu(j:Nat)(l:List Nat):(nM j l).length=l.length:=by
 induction j generalizing l with
 |zero=>rfl
 |succ j ih=>unfold nM;split<;>simp[ih,rW]
theorem mE{l:List Nat}{k:Nat}(h:k<l.length):(l.map nm).getD k default=nm (l.getD k default):=by
 simp[List.getD,h]
theorem kL{l:List Nat}{k:Nat}(h:k<l.length):l.getD k default∈l:=by
 simp[List.getD,h]
theorem w6{l:List Nat}{j:Nat}(h:j+1<l.length)(hl:∀x,x∈l→x<7):∀x,x∈uv l j→x<7:=by
 intro x hx;unfold uv at hx;rcases List.mem_or_eq_of_mem_set hx with hx|rfl
 ·rcases List.mem_or_eq_of_mem_set hx with hx|rfl
  ·exact hl _ hx
  ·exact hl _ (kL (by omega))
 ·exact hl _ (kL h)
theorem yT(j:Nat)(l:List Nat)(h:j<l.length)(hl:∀x,x∈l→x<7):ku j (l.map nm)=(nM j l).map nm∧∀x,x∈nM j l→x<7:=by
 induction j generalizing l with
 |zero=>exact⟨rfl,hl⟩
 |succ j ih=>
  rw[ku,nM,mE h,mE (by omega),AR (hl _ (kL h)) (hl _ (kL (by omega)))];by_cases hc:l.getD (j+1) default<l.getD j default
  ·rw[if_pos (by simpa using hc),if_pos hc]
   have e:su (l.map nm) j=(uv l j).map nm:=by
    unfold su uv;rw[mE h,mE (by omega),List.map_set,List.map_set]
   rw[e];exact ih _ (by rw[rW];omega) (w6 h hl)
  ·rw[if_neg (by simpa using hc),if_neg hc];exact⟨rfl,hl⟩
theorem xY(f i:Nat)(l:List Nat)(h:i+f≤l.length)(hl:∀x,x∈l→x<7):nf f i (l.map nm)=(lz f i l).map nm:=by
 induction f generalizing i l with
 |zero=>rfl
 |succ f ih=>
  rw[nf,lz];obtain⟨e,m⟩:=yT i l (by omega) hl;rw[e];exact ih _ _ (by rw[wu];omega) m
def iu:Nat→List Nat→List Nat→Bool
 |0,_,acc=>decide (lz 6 1 acc.reverse=[0,1,2,3,4,5,6])
 |f+1,rem,acc=>rem.all fun i=>iu f (rem.erase i) (i::acc)
theorem yE:iu 6 ([0,1,2,3,4,5,6].erase 0) [0]=true:=by decide+kernel
theorem yY:iu 6 ([0,1,2,3,4,5,6].erase 1) [1]=true:=by decide+kernel
theorem yK:iu 6 ([0,1,2,3,4,5,6].erase 2) [2]=true:=by decide+kernel
theorem zk:iu 6 ([0,1,2,3,4,5,6].erase 3) [3]=true:=by decide+kernel
theorem zD:iu 6 ([0,1,2,3,4,5,6].erase 4) [4]=true:=by decide+kernel
theorem yI:iu 6 ([0,1,2,3,4,5,6].erase 5) [5]=true:=by decide+kernel
theorem yw:iu 6 ([0,1,2,3,4,5,6].erase 6) [6]=true:=by decide+kernel
theorem wN:iu 7 [0,1,2,3,4,5,6] []=true:=by
 rw[iu,cT];intro i hi;have h7:i=0∨i=1∨i=2∨i=3∨i=4∨i=5∨i=6:=by simpa using hi
 rcases h7 with rfl|rfl|rfl|rfl|rfl|rfl|rfl
 ·exact yE
 ·exact yY
 ·exact yK
 ·exact zk
 ·exact zD
 ·exact yI
 ·exact yw
theorem wo(f:Nat)(rem acc S:List Nat)(h:iu f rem acc=true)(hl:S.length=f)(hp:S.Perm rem):lz 6 1 (acc.reverse++S)=[0,1,2,3,4,5,6]:=by
 induction f generalizing rem acc S with
 |zero=>
  obtain rfl:=List.eq_nil_of_length_eq_zero hl;rw[lg];exact nJ h
 |succ f ih=>
  cases S with
  |nil=>simp at hl
  |cons i S=>
   rw[iu,cT] at h;obtain⟨hi,hp'⟩:=List.cons_perm_iff_perm_erase.1 hp;have:=ih (rem.erase i) (i::acc) S (h i hi) (by simpa using hl) hp';simpa using this
theorem qT(S:List Nat)(h1:S.Nodup)(h2:∀i,i∈S→i<7)(h3:∀i,i<7→i∈S):jr (S.map nm)=nameL:=by
 have hp:S.Perm [0,1,2,3,4,5,6]:=(List.perm_ext_iff_of_nodup h1 (by decide)).2 fun i=>by
  refine⟨fun h=>?_,fun h=>h3 i ?_⟩
  ·have:=h2 i h;simp;omega
  ·simp at h;omega
 have hl:S.length=7:=hp.length_eq;unfold jr;rw[dM,hl,xY 6 1 S (by omega) h2,show lz 6 1 S=[0,1,2,3,4,5,6] from wo 7 _ [] S wN hl hp];rfl
end Go.Proofs.YtcbkggfipdldaaaGreat.Lb
namespace Go.Proofs.YtcbkggfipdldaaaGreat.Lb
open Go Go.Abs
attribute [local irreducible] aG al bh a7 aV aU aB aX a9 bt Go.Abs.Fn aZ Go.Abs.Pure ax aO Yl
theorem An(b:Nat)(H:Hp)(nx:Nat):Abs.Fn Tryz.prog 21 [.mp b] H nx fun r H' nx'=>r=.func 53 [.ptr nx 1 0]∧H'=am H nx [.mp b]∧nx'=nx+1:=by
 refine fO CQ ?_;simp only[b21,ay]
 repeat' (first|refine zW ?_|apply a_n|refine zO ?_|refine vZ ?_|refine bxZ ?_|refine ae rfl ?_|refine r1Z ?_|fail)
 exact⟨rfl,rfl,rfl⟩
theorem wM{p b:Nat}{H:Hp}{nx:Nat}(gp:H p=some [.mp b])(gb:H b=some [.omap eP gz])(hp:p<nx)(hb:b<nx):
    Abs.Fn Tryz.prog 51 [.func 53 [.ptr p 1 0]] H nx fun r H' nx'=>∃(S:List Nat)(B:Nat),S.Nodup∧(∀i,i∈S→i<7)∧(∀i,i<7→i∈S)∧S.length=7∧r=.msl B 7 1 0 7∧H' B=some ((S.map nm).map AV.str)∧B<nx':=by
 refine fO CT ?_;simp only[b51,ay]
 repeat' (first|refine zW ?_|apply a_n|refine zO ?_|refine vZ ?_|fail)
 refine aJ ev0 ev0 (sF (p:=p) (b:=b) (ks:=eP) (vs:=gz) gp gb hp hb (by decide) (fun i hi=>by
  have:i=0∨i=1∨i=2∨i=3∨i=4∨i=5∨i=6:=by
   have h7:i<7:=hi;omega
  rcases this with rfl|rfl|rfl|rfl|rfl|rfl|rfl<;>exact⟨rfl,rfl⟩)) ?_
 rintro r H' nx' ⟨S,s1,s2,s3,hrow,hle,hB⟩
 have hl:S.length=7:=by
  have h1:=oZ s1 (l₂:=List.range 7) (fun i hi=>en.2 (s2 i hi));have h2:=oZ (List.nodup_range (n:=7)) (l₂:=S) (fun i hi=>s3 i (en.1 hi));simp at h1 h2;omega
 have hm:S.map (eP.getD · .undef)=(S.map nm).map AV.str:=by
  rw[List.map_map];refine qu fun i hi=>?_;have:i<7:=s2 i hi;have:i=0∨i=1∨i=2∨i=3∨i=4∨i=5∨i=6:=by omega
  rcases this with rfl|rfl|rfl|rfl|rfl|rfl|rfl<;>rfl
 rw[hm] at hrow
 repeat' (first|apply a_n|refine zO ?_|refine vZ ?_|refine ae rfl ?_|refine r1Z ?_|fail)
 generalize hcs:(S.map nm).map AV.str=cs at hrow;have hcl:cs.length=7:=by rw[←hcs];simp[hl]
 cases hrow with
 |nil=>simp at hcl
 |box B len _ hb' hl'=>
  obtain rfl:len=7:=by omega
  exact⟨S,B,s1,s2,s3,hl,rfl,by rw[hb',←hcs],(hB B rfl).2⟩
theorem oM{p b:Nat}{H:Hp}{nx:Nat}(gp:H p=some [.mp b])(gb:H b=some [.omap eP gz])(hp:p<nx)(hb:b<nx):
    Abs.Fn Tryz.prog 20 [.func 53 [.ptr p 1 0]] H nx fun r H' nx'=>∃B:Nat,r=.msl B 7 1 0 7∧H' B=some (nameL.map AV.str)∧B<nx':=by
 refine fO DY ?_;simp only[b20,ay]
 repeat' (first|refine zW ?_|apply a_n|refine zO ?_|refine vZ ?_|fail)
 refine aJ ev0 ev0 (wM gp gb hp hb) ?_;rintro r H' nx' ⟨S,B,s1,s2,s3,hl,rfl,hB,hlt⟩
 repeat' (first|refine zW ?_|apply a_n|refine zO ?_|refine vZ ?_|fail)
 have hsl:(S.map nm).length=7:=by simp[hl]
 have hs:=zu (S.map nm) (by omega) (by intro h;rw[h] at hsl;simp at hsl) H' B nx' hB hlt;rw[hsl] at hs;refine aJ ev0 ev0 hs ?_;rintro r H2 nx2 ⟨rfl,rfl⟩
 repeat' (first|refine zW ?_|apply a_n|refine zO ?_|refine vZ ?_|refine ae rfl ?_|refine r1Z ?_|fail)
 exact⟨B,rfl,by rw[aj,qT S s1 s2 s3],hlt⟩
theorem names_c(H:Hp)(nx:Nat):Abs.Fn Tryz.prog 6 [] H nx fun r H' nx'=>∃B:Nat,r=.msl B 7 1 0 7∧H' B=some (nameL.map AV.str)∧B<nx':=by
 refine fO is6 ?_;simp only[b6,ay]
 repeat' (first|refine zW ?_|apply a_n|refine zO ?_|refine vZ ?_|fail)
 refine aJ ev0 ev0 (uS H nx) ?_;rintro r H' nx' ⟨rfl,h1,rfl,h2⟩;refine aJ ev0 ev0 (An nx H' (nx+1)) ?_;rintro r H2 nx2 ⟨rfl,rfl,rfl⟩;refine aJ ev0 ev0 (oM (p:=nx+1) (b:=nx) aj (by rw[af (by omega)];exact h1) (by omega) (by omega)) ?_;rintro r H3 nx3 ⟨B,rfl,h3,h4⟩
 repeat' (first|apply a_n|refine zO ?_|refine vZ ?_|refine ae rfl ?_|refine r1Z ?_|fail)
 exact⟨B,rfl,h3,h4⟩
end Go.Proofs.YtcbkggfipdldaaaGreat.Lb
namespace Go.Proofs.YtcbkggfipdldaaaGreat
open Go Go.Abs
theorem tB{H:Hp}{b n len:Nat}{l:List ByteArray}(hb:H b=some (l.map AV.str))(hn:n=len)(hl:l.length=len):SnapF H (.msl b n 1 0 len) (ug 1 AV.str l):=by
 subst hn;refine .msl b n 1 0 n (l.map AV.str) (l.map AV.str) hb (by rw[dM,hl]) (by omega) (by rw[dM,hl]) (fun y hy=>by obtain⟨z,_,rfl⟩:=dp.1 hy;rfl) (fun i j y a c hy hc ha=>?_);obtain⟨z,_,rfl⟩:=dp.1 (fh hy);cases j with
 |zero=>
  cases hc;rw[bQ,Nat.mul_one,o8,hy] at ha;cases ha;exact .str _
 |succ j=>cases hc
theorem zn:PureF Tryz.prog 6 [] (ug 1 AV.str Lb.nameL):=PureF.of_fn ((Lb.names_c bA 0).mono fun r H nx ⟨B,e,h,_⟩=>by subst e;exact tB h rfl rfl)
theorem zy{t:TaskV}(h:bU t=0):(∀c∈t.cases,ShC c)∧Sh t.cases∧∀c∈t.cases,c.out.length≤100000∧c.calm.length≤100000:=by
 have hk:=h;unfold bU at hk;by_cases h1:t.n<1∨5<t.n∨t.ins<1∨8<t.ins∨t.outs<1∨8<t.outs
 ·rw[if_pos h1] at hk;exact absurd hk (by decide)
 rw[if_neg h1] at hk;by_cases h2:t.cases.length<1∨1024<t.cases.length
 ·rw[if_pos h2] at hk;exact absurd hk (by decide)
 have hp:∀c∈t.cases,(c.inp.length:Int)=t.n∧c.out.length≤1024∧c.calm.length≤c.out.length∧(∀v∈c.out,(v.length:Int)=t.n)∧∀v∈c.calm,v∈c.out:=fun c hc=>by
  obtain⟨a,b⟩:=tI h hc;obtain⟨b1,b2,b3,b4,b5⟩:=oA b
  have hv:∀{v:List Int}{m:Int},bH v t.n m=0→(v.length:Int)=t.n:=fun{v m} q=>Classical.byContradiction fun r=>by
   unfold bH at q;rw[if_pos r] at q;exact absurd q (by decide)
  exact⟨hv a,b1.2,oZ (vG b5) b4,fun v hv2=>hv (b2 v hv2),b4⟩
 refine⟨fun c hc=>?_,show _≤_ by omega,fun c hc=>?_⟩
 ·obtain⟨a1,a2,a3,a4,a5⟩:=hp c hc;exact⟨show _≤_ by omega,show _≤_ by omega,fun x hx=>show _≤_ by have:=a4 x hx;omega,show _≤_ by omega,fun x hx=>show _≤_ by have:=a4 x (a5 x hx);omega⟩
 ·obtain⟨a1,a2,a3,a4,a5⟩:=hp c hc;omega
theorem pX{j:Nat}(h:j<7):j=0∨j=1∨j=2∨j=3∨j=4∨j=5∨j=6:=by omega
theorem A4{j:Nat}(h:j<7)(n a b:Int):Lb.getT (Lb.nm j) n a b=gT j n a b:=by
 have hp:Lb.pickB (Lb.nm j)=some j:=by
  rcases pX h with rfl|rfl|rfl|rfl|rfl|rfl|rfl<;>decide+kernel
 unfold Lb.getT;rw[hp];rcases pX h with rfl|rfl|rfl|rfl|rfl|rfl|rfl<;>rfl
theorem Bf{j:Nat}(h:j<7):eH 1 (ug 1 AV.str Lb.nameL) (.int .i64 (j:Int))=some (.iptr [.str (Lb.nm j)] 0):=by
 rcases pX h with rfl|rfl|rfl|rfl|rfl|rfl|rfl<;>rfl
theorem zp{j:Nat}(h:j<7)(tb tf:Bool):bb .eql tb tf (.str (Lb.nm j)) (.str (ByteArray.mk (Array.mk [99,111,110,115,101,110,115,117,115])))=some (.bool (decide (j=2))):=by
 rcases pX h with rfl|rfl|rfl|rfl|rfl|rfl|rfl<;>exact congrArg (fun x=>some (AV.bool x)) (by decide+kernel)
theorem A0{j:Nat}(h:j<7)(tb tf:Bool):bb .eql tb tf (.str (Lb.nm j)) (.str (ByteArray.mk (Array.mk [99,111,109,109,105,116])))=some (.bool (decide (j=1))):=by
 rcases pX h with rfl|rfl|rfl|rfl|rfl|rfl|rfl<;>exact congrArg (fun x=>some (AV.bool x)) (by decide+kernel)
theorem yR{j:Nat}(h:j<7)(tb tf:Bool):bb .eql tb tf (.str (Lb.nm j)) (.str (ByteArray.mk (Array.mk [99,114,117,115,97,100,101,114])))=some (.bool (decide (j=3))):=by
 rcases pX h with rfl|rfl|rfl|rfl|rfl|rfl|rfl<;>exact congrArg (fun x=>some (AV.bool x)) (by decide+kernel)
theorem DR:dG (ug 1 AV.str Lb.nameL)=some (.int .i64 7):=rfl
attribute [local irreducible] aG al bh a7 aV aU aB aX a9 bt Go.Abs.Fn aZ Go.Abs.Pure ax aO Yl
set_option maxHeartbeats 4000000 in
theorem wh(n a b:Int)(p:List Int)(hp:Sh p):pU 3 [.agg [.int .i64 n,.int .i64 a,.int .i64 b],aC p] (.bool true):=by
 refine pO is3 ?_;simp only[b3,ay];have hp':p.length≤17592186044416:=hp;have hf:=Lb.small_r n a b;have haw:=Lb.awake_c;have d3:Dat (.agg [.int .i64 n,.int .i64 a,.int .i64 b]):=Dat.agg (DatL.cons .int (DatL.cons .int (DatL.cons .int DatL.nil)));generalize Lb.smallB n a b=g at *;cases g
 ·repeat' (first|refine zW ?_|apply a_n|apply a_r|refine zO ?_|refine vZ ?_|refine cZ ?_ (hp:=by first|exact hf|exact haw)|refine bxZ ?_|refine gFZ ?_|refine cTZ ?_|refine ae rfl ?_|refine r1Z ?_|fail)
  exact .bool _
 by_cases hl:10<p.length
 ·have z:decide ((10:Int)<p.length)=true:=cA (by omega);have zz:=@z;repeat' (first|refine zW ?_|apply a_n|apply a_r|refine zO ?_|refine vZ ?_|refine cZ ?_ (hp:=by first|exact hf|exact haw)|refine bxZ ?_|refine gTZ ?_|refine cTZ ?_|refine ae rfl ?_|refine r1Z ?_|fail)
  exact .bool _
 have zl:decide ((10:Int)<p.length)=false:=dN (by omega);have zz:=@zl;repeat' (first|refine zW ?_|apply a_n|refine zO ?_|refine vZ ?_|refine cZ ?_ (hp:=hf)|refine bxZ ?_|refine gTZ ?_|refine cFZ ?_|fail)
 refine mR ev0 ev0 zn ai ?_;clear zz;have zz:=@DR;repeat' (first|refine zW ?_|apply a_n|refine zO ?_|refine vZ ?_|fail)
 refine lpI (X:=Nat) (fun j=>[(1,aC p),(2,.ptr 0 3 0),(22,ug 1 AV.str Lb.nameL),(23,.int .i64 7),(24,.int .i64 j)]) (fun j H nx=>j≤7∧0<nx∧H 0=some [.int .i64 n,.int .i64 a,.int .i64 b]) (fun j=>7-j) 0 ⟨cu _,ru,rfl⟩ ?_;rintro j H nx ⟨h1,hnx,g0⟩;by_cases hj:j<7
 rotate_left
 ·obtain rfl:j=7:=by omega
  repeat' (first|refine zW ?_|apply a_n|apply a_x|refine zO ?_|refine vZ ?_|refine cZ ?_ (hp:=haw)|(refine zGZ ?_ ?_<;>(intro _hg;try (exfalso;omega)))|refine ae rfl ?_|refine r1Z ?_|fail)
  exact .bool _
 have ix:=Bf hj;have e1:=zp hj;have e2:=A0 hj;have e3:=yR hj;have s1:=Lb.get_c (Lb.nm j) n a b;rw[A4 hj,Ax] at s1;generalize Lb.nm j=s at *;have z0:decide ((0:Int)≠0)=false:=rfl;rcases yl j hj n a b with⟨q1,q2,q3⟩|⟨q1,hg⟩
 ·rw[q2] at s1;have d0:=eM (cvT Lb.T00);have hT:encT (cvT Lb.T00)=.agg [.int .i64 0,.int .i64 0,.int .i64 0,encCs []]:=rfl;rw[hT] at s1 d0;have ll:dG (encCs [])=some (.int .i64 0):=rfl;have zz0:decide ((0:Int)<0)=false:=rfl;have hsim:∀{x y:Int},x≠y→decide (x≠y)=true:=fun h=>cA h;generalize (gT j n a b).2=e at *;have y1:decide (e≠0)=true:=cA q1;rcases q3 with rfl|rfl|rfl
  ·have y2:decide ((2:Int)≠2)=false:=rfl;clear zz;have zz:=aI @ix (aI @g0 (aI @y1 (aI @y2 (aI @ll (aI @zz0 (aI @az @ar))))));repeat' (first|refine zW ?_|apply a_n|apply a_x|refine zO ?_|refine vY ?_|refine cY ?_ (hp:=s1)|refine alY ?_|refine stY ?_|refine gTY ?_|refine gFY ?_|refine cTY ?_|refine cFY ?_|(refine zGY ?_ ?_<;>(intro _hg;try (exfalso;omega)))|fail)
   exact⟨j+1,by omega,⟨by omega,by omega,by(repeat rw[af (by omega)]);exact g0⟩,ag0⟩
  ·have y2:decide ((16:Int)≠2)=true:=rfl;have y3:decide ((16:Int)≠16)=false:=rfl;clear zz;have zz:=aI @ix (aI @g0 (aI @y1 (aI @y2 (aI @y3 (aI @ll (aI @zz0 (aI @az @ar)))))));repeat' (first|refine zW ?_|apply a_n|apply a_x|refine zO ?_|refine vY ?_|refine cY ?_ (hp:=s1)|refine alY ?_|refine stY ?_|refine gTY ?_|refine gFY ?_|refine cTY ?_|refine cFY ?_|(refine zGY ?_ ?_<;>(intro _hg;try (exfalso;omega)))|fail)
   exact⟨j+1,by omega,⟨by omega,by omega,by(repeat rw[af (by omega)]);exact g0⟩,ag0⟩
  ·have y2:decide ((17:Int)≠2)=true:=rfl;have y3:decide ((17:Int)≠16)=true:=rfl;have y4:decide ((17:Int)≠17)=false:=rfl;clear zz;have zz:=aI @ix (aI @g0 (aI @y1 (aI @y2 (aI @y3 (aI @y4 (aI @ll (aI @zz0 (aI @az @ar))))))));repeat' (first|refine zW ?_|apply a_n|apply a_x|refine zO ?_|refine vY ?_|refine cY ?_ (hp:=s1)|refine alY ?_|refine stY ?_|refine gTY ?_|refine cTY ?_|refine cFY ?_|(refine zGY ?_ ?_<;>(intro _hg;try (exfalso;omega)))|fail)
   exact⟨j+1,by omega,⟨by omega,by omega,by(repeat rw[af (by omega)]);exact g0⟩,ag0⟩
 rw[q1] at s1;obtain⟨k1,k2,k3,k4⟩:=hg;obtain⟨hs,hsc,hq⟩:=zy k1;generalize cvT (gT j n a b).1=t at *;have s2:=mF t hs hsc;rw[k1] at s2;have s3:=gg t hs hsc;unfold er at s3;rw[if_neg (fun q=>q k1)] at s3;have s4:=tN p hp;have s5:=wZ t p hs hsc hq hp;have s6:=xf t hsc hs;have dT:=eM t;have yn:decide (t.n≠n)=false:=dN (fun q=>q k2);generalize hA:[.int .i64 t.n,.int .i64 t.ins,.int .i64 t.outs,encCs t.cases]=A at *;have hTA:encT t=.agg A:=by rw[←hA];rfl
 have hAl:A.length=4:=by subst hA;rfl
 have hA0:A[0]?=some (.int .i64 t.n):=by subst hA;rfl
 have hAo:AV.ones A=true:=by subst hA;rfl
 rw[hTA] at s1 s2 s3 s5 s6 dT;dsimp only at s3;subst hA;clear zz;have zz:=aI @ix (aI @g0 (aI @z0 (aI @yn (aI @az @ar))));repeat' (first|refine zW ?_|apply a_n|refine zO ?_|refine vY ?_|refine cY ?_ (hp:=by first|exact s1|exact s2)|refine alY ?_|refine stY ?_|refine gTY ?_|refine cFY ?_|(refine zGY ?_ ?_<;>(intro _hg;try (exfalso;omega)))|fail)
 refine co ev0 ev0 s3 (au (ap dT.snap ai)) ?_
 repeat' (first|apply a_n|refine zO ?_|refine vY ?_|fail)
 refine aQ (fun T H' nx'=>T 1=aC p∧T 2=.ptr 0 3 0∧T 6=.str s∧T 7=.ptr nx 4 0∧T 22=ug 1 AV.str Lb.nameL∧T 23=.int .i64 7∧T 24=.int .i64 j∧H' 0=some [.int .i64 n,.int .i64 a,.int .i64 b]∧H' nx=some [.int .i64 t.n,.int .i64 t.ins,.int .i64 t.outs,encCs t.cases]∧nx'=nx+1) ?_ ?_
 ·generalize hb:gu t=ab at *;cases hj2:decide (j=2)
  ·cases hj1:decide (j=1)
   ·rw[hj2] at e1;rw[hj1] at e2;clear zz;have zz:=aI @z0 (aI @e1 @e2);repeat' (first|refine zW ?_|apply a_n|refine zO ?_|refine vY ?_|refine gTY ?_|refine gFY ?_|refine cFY ?_|fail)
    exact⟨rfl,rfl,rfl,rfl,rfl,rfl,rfl,by(repeat rw[af (by omega)]);exact g0,by rw[aj];rfl,rfl⟩
   ·obtain rfl:ab=true:=k3 (.inl (nJ hj1));rw[hj2] at e1;rw[hj1] at e2;clear zz;have zz:=aI @z0 (aI @e1 @e2);repeat' (first|refine zW ?_|apply a_n|refine zO ?_|refine vY ?_|refine gTY ?_|refine cFY ?_|fail)
    exact⟨rfl,rfl,rfl,rfl,rfl,rfl,rfl,by(repeat rw[af (by omega)]);exact g0,by rw[aj];rfl,rfl⟩
  ·obtain rfl:ab=true:=k3 (.inr (nJ hj2));rw[hj2] at e1;clear zz;have zz:=aI @z0 (aI @e1 @e2);repeat' (first|refine zW ?_|apply a_n|refine zO ?_|refine vY ?_|refine gTY ?_|refine gFY ?_|refine cFY ?_|fail)
   exact⟨rfl,rfl,rfl,rfl,rfl,rfl,rfl,by(repeat rw[af (by omega)]);exact g0,by rw[aj];rfl,rfl⟩
 rintro T H' nx' ⟨t1,t2,t6,t7,t22,t23,t24,g0',g7,rfl⟩;by_cases hj3:j=3
 ·rw[cA hj3] at e3;clear zz;have zz:=aI @e3 (aI @t1 (aI @t2 (aI @t6 (aI @t7 (aI @t22 (aI @t23 @t24))))));repeat' (first|refine zW ?_|apply a_n|apply a_x|refine zO ?_|refine vY ?_|refine gFY ?_|refine cTY ?_|fail)
  exact⟨j+1,by omega,⟨by omega,by omega,g0'⟩,(have zz:=aI @t1 (aI @t2 (aI @t22 @t23));agZ)⟩
 rw[dN hj3] at e3;by_cases hpn:(p.length:Int)=n
 rotate_left
 ·have y:decide ((p.length:Int)≠n)=true:=cA hpn;clear zz;have zz:=aI @e3 (aI @t1 (aI @t2 (aI @t6 (aI @t7 (aI @t22 (aI @t23 (aI @t24 (aI @g0' @y))))))));repeat' (first|refine zW ?_|apply a_n|apply a_x|refine zO ?_|refine vY ?_|refine gTY ?_|refine gFY ?_|refine cTY ?_|fail)
  exact⟨j+1,by omega,⟨by omega,by omega,g0'⟩,(have zz:=aI @t1 (aI @t2 (aI @t22 @t23));agZ)⟩
 have y:decide ((p.length:Int)≠n)=false:=dN (fun q=>q hpn);by_cases hpe:cq p=0
 rotate_left
 ·have y2:decide (cq p≠0)=true:=cA hpe;clear zz;have zz:=aI @e3 (aI @t1 (aI @t2 (aI @t6 (aI @t7 (aI @t22 (aI @t23 (aI @t24 (aI @g0' (aI @y @y2)))))))));repeat' (first|refine zW ?_|apply a_n|apply a_x|refine zO ?_|refine vY ?_|refine cY ?_ (hp:=s4)|refine gTY ?_|refine cTY ?_|fail)
  exact⟨j+1,by omega,⟨by omega,by omega,g0'⟩,(have zz:=aI @t1 (aI @t2 (aI @t22 @t23));agZ)⟩
 rw[hpe] at s4;have hren:=k4 hj3 p hpe hpn
 have hpt:dz t p=(t,0):=by
  unfold dz;rw[if_neg (fun q=>q k1),if_neg (fun q=>q hpe),if_neg (fun q=>q (by rw[hpn,k2])),hren]
 rw[hpt] at s5;dsimp only at s5;rw[hTA] at s5;clear zz;have zz:=aI @e3 (aI @t1 (aI @t2 (aI @t6 (aI @t7 (aI @t22 (aI @t23 (aI @t24 (aI @g0' (aI @g7 (aI @y (aI @z0 (aI @az @ar))))))))))));repeat' (first|refine zW ?_|apply a_n|refine zO ?_|refine vY ?_|refine cY ?_ (hp:=by first|exact s4|exact s5|exact s6) (hs:=by(first|refine ak ?_ rfl|apply au);(repeat' (first|exact ai|apply aD|apply aw|exact dT|exact bw _ _));first|done|fail)|refine alY ?_|refine stY ?_|refine gTY ?_|refine cFY ?_|fail)
 exact⟨j+1,by omega,⟨by omega,by omega,by(repeat rw[af (by omega)]);exact g0'⟩,(have zz:=aI @t1 (aI @t2 (aI @t22 @t23));agZ)⟩
end Go.Proofs.YtcbkggfipdldaaaGreat
namespace Go.Proofs.YtcbkggfipdldaaaGreat
open Go Go.Abs Go.RowKit
section
variable{H:Type}{enc:TypeId×Value→H}{W:World}
theorem oi:ec enc Tryz.prog W 3 (AV.int .i64) (fun n=>(Lit.int .i64 n).wf=true):=wT Tryz.underlying3
theorem oL1:ec enc Tryz.prog W 24 aC Sh:=
 (sD Tryz.underlying24 (sz:=1) (by_:=8) (by kernel_rfl) (by kernel_rfl) ru (fun _=>rfl) oi).mono fun l h=>by have:=h.2.2;show _≤_;omega
end
theorem mU{f:FuncId}{xs:List AV}{vs:List Value}(h:pU f xs (.bool true))(w:World)(hv:cJ (E0 (oY w)) w xs vs):
    Calls Tryz.prog f vs.toArray w fun e w'=>e=.returned (.bool true)∧Below w.heap.size w w':=by
 refine(h.2 (oY w) w vs (fun _ h=>h) hv).mono ?_;rintro e w' ⟨v,imm',rfl,hb,_,_,_,hr⟩;cases hr;exact⟨rfl,hb⟩
theorem CO:laidOutB Tryz.prog=true:=by kernel_rfl
end Go.Proofs.YtcbkggfipdldaaaGreat
namespace Go.Proofs.YtcbkggfipdldaaaGreat
open Go Go.Abs Go.RowKit
structure NumV where
 n:Int
 a:Int
 b:Int
def xz(x:NumV):AV:=.agg [.int .i64 x.n,.int .i64 x.a,.int .i64 x.b]
section
variable{H:Type}{enc:TypeId×Value→H}{W:World}
theorem Da:ec enc Tryz.prog W 23 xz (fun _=>True):=
 (qf Tryz.underlying23 (by kernel_rfl) (jg (off:=0) (off':=1) rfl (by kernel_rfl) oi (jg (off:=1) (off':=2) rfl (by kernel_rfl) oi (jg (off:=2) (off':=3) rfl (by kernel_rfl) oi um)))).map
  (fun a=>(⟨a.1,a.2.1,a.2.2.1⟩:NumV)) (fun _ _=>trivial) (fun _ _=>rfl)
end
theorem tv(x:NumV)(p:List Int)(hp:Sh p):pU 3 [xz x,aC p] (.bool true):=wh x.n x.a x.b p hp
end Go.Proofs.YtcbkggfipdldaaaGreat
namespace Go.Proofs.YtcbkggfipdldaaaGreat
open Go Go.Abs Go.RowKit Go.ChangeShapes Go.WideShapes Go.ChangeAt
theorem oT{H:Type}{enc:TypeId×Value→H}{P:Program}{f:Func}{s:ChangeSpec}{apart fresh handsOn again:Bool}{W W':World}{args:Array Value}{v:Value}{ds gs:List (DataW H)}{before pa pv:List MemPlace}
    (hW:DataW.Whole enc P f.params.toList s.vars apart W args.toList ds gs before)
    (hres:∀(b:Nat)(sp:Nat→Bool)(hd:Bool),DataW.TrodAll enc P W' b sp hd f.resultTypes.toList (v.resultList f.resultTypes.size) (s.fn H (ds++gs)).results [])
    (hargs:∀sp:Nat→Bool,(∀p∈before,sp p.block=true)→DataW.TrodAll enc P W' 0 sp true f.params.toList args.toList (s.fn H (ds++gs)).args pa)
    (hvars:∀sp:Nat→Bool,(∀p∈before,sp p.block=true)→DataW.TrodVars enc P W' sp s.vars (s.fn H (ds++gs)).vars pv)
    (hps:before=pa++pv) (hb:Below W.heap.size W W')
    (hok:∀(j:Nat)(t:TypeId)(r:Value),f.resultTypes[j]?=some t→(v.resultList f.resultTypes.size)[j]?=some r→Value.okWide P W' .any 0 t r):
    s.post enc P f apart fresh handsOn again W args v W':=by
 have hold:∀p∈before,(fun b=>decide (b<W.heap.size)) p.block=true:=fun p hp=>by simpa using hW.lt p hp
 have hlt:=fun p hp=>hW.lt p hp;refine⟨ds,gs,before,[],pa,pv,hW,hres _ _ _,hargs _ hold,hvars _ hold,World.keptBut_mono (fun p hp=>⟨hp,?_⟩) (hb.frame _),fun _=>?_⟩
 ·rw[hps,pf] at hp;exact Or.inr hp
 ·obtain⟨_,_,_,_,_,hz,hn⟩:=hW;refine⟨hok,_,_,([]++pa)++pv,⟨[]++pa,pv,trodAll_append (hargs _ (fun _ _=>rfl)) (hres _ _ _),hvars _ (fun _ _=>rfl),rfl,?_,?_⟩,?_⟩
  ·intro b off hp;have hp':MemPlace.cell b off∈before:=by rw[hps];simpa using hp
   rw[hb.frozen (hlt _ hp')];exact hz b off hp'
  ·intro ha;have:=hn ha;rw[hps] at this;simpa using this
  ·intro p hp _;rw[hps];simpa using hp
theorem xe{E:Env}{w:World}:cJ E w [] []:=⟨rfl,fun i x y h=>(by cases h)⟩
theorem pV{E:Env}{w:World}{x:AV}{y:Value}{xs:List AV}{ys:List Value}(h:Rel E w x y)(hs:cJ E w xs ys):cJ E w (x::xs) (y::ys):=by
 refine⟨by simp[hs.1],fun i a b ha hb=>?_⟩;cases i with
 |zero=>simp at ha hb;subst ha hb;exact h
 |succ i=>simp at ha hb;exact hs.2 i a b ha hb
theorem own:ownKnob Tryz.prog.godebug=none:=by kernel_rfl
end Go.Proofs.YtcbkggfipdldaaaGreat