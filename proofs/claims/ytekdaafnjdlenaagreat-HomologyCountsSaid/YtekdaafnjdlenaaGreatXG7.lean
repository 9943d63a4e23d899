/- Texts of this claim, one after the other: T244, T261, U2i, U14i, T247, T248, T249, T250, T237, T259, T238, T260, T188, T240, T251, T252, T253, T239, T241, T200, T202, T263, T254, T255, T256, T262, T270, T264, T265, T269, T266, T267, T268, T257, T258, T271, T272, T273, T118, T121. -/
import Derived.Test.YtekdaafnjdlenaaGreatXG6
import Derived.Test.YtekdaafnjdlenaaGreatXG5
import Derived.Test.YtekdaafnjdlenaaGreatXG4
import Derived.Test.YtekdaafnjdlenaaGreatXG3
import Derived.Test.YtekdaafnjdlenaaGreatRows
import Derived.WalkKit
import Derived.ProofKit
import Derived.OpenShut

set_option linter.unusedSimpArgs false
set_option linter.unusedVariables false
set_option maxHeartbeats 1000000
namespace Go.Proofs.YtekdaafnjdlenaaGreat
open Go Go.Abs
open Nat (reduceEqDiff reduceAdd reduceLeDiff)
def jf(H:Hp)(s:AV)(l:List (List Int)):Prop:=s=bu l∨Row H 1 s (l.map aC)
theorem jf.src{H H':Hp}{s:AV}{l:List (List Int)}(h:jf H s l)(hs:∀b,bF s=some b→H' b=H b):er 1 H' s=some (l.length,l.map aC):=by
 rcases h with rfl|h
 ·exact gz
 ·have h:=h.same hs;generalize hc:l.map aC=cs at h;have hl:l.length=cs.length:=by rw[←hc,bt]
  cases h with
  |nil=>rw[hl];rfl
  |box b len cs hb hn=>
   rw[Nat.mul_one] at hn;rw[fi hb (by rw[hn,Nat.mul_one]) (by omega),hl,hn,Nat.mul_one,List.drop_zero,fM (by omega)]
theorem jf.len{H:Hp}{s:AV}{l:List (List Int)}(h:jf H s l):fx s=some l.length:=by
 rcases h with rfl|h
 ·exact yd
 ·generalize hc:l.map aC=cs at h;have hl:l.length=cs.length:=by rw[←hc,bt]
  cases h with
  |nil=>rw[hl];rfl
  |box b len cs hb hn=>rw[hl,hn,Nat.mul_one];rfl
theorem jf.snap{H:Hp}{s:AV}{l:List (List Int)}(h:jf H s l):Snap H s (bu l):=by
 rcases h with rfl|h
 ·exact(jP l).snap
 ·exact m8 h
theorem tH{H:Hp}{s:AV}{cs:List AV}(h:Row H 1 s cs)(c:Int):ef [AV.int .i64 0,.esl] [(0,1,.int .i64 c),(1,1,s)]=some [.int .i64 c,s]:=by cases h<;>rfl
theorem rN{l:List (List Int)}:AV.ones (l.map aC)=true:=by
 unfold AV.ones;rw[ea];intro x hx;obtain⟨y,_,rfl⟩:=bK.1 hx;rfl
def Gg(x:AV):Option AV:=match x with|.ptr b n o=>some (.ptr b n o)|.iptr c o=>some (.iptr c o)|.func f c=>some (.func f c)|_=>none
theorem NK:(∀(T:Tm)(H:Hp)(x:Opd),bC T H (.nilck x)=Gg (ov T x))∧(∀b n o:Nat,Gg (.ptr b n o)=some (.ptr b n o)):=⟨fun _ _ _=>rfl,fun _ _ _=>rfl⟩
attribute [local irreducible] aJ aj bf aX aP aQ aD aS a6 bk Go.Abs.Fn aV Go.Abs.Pure ar aK Yl
theorem CT(s:AV)(l:List (List Int))(hl:l.length≤1000000)(H:Hp)(nx:Nat)(hr:jf H s l)(hb:∀b,bF s=some b→b<nx):Abs.Fn Tryz.prog 135 [s] H nx fun r H' nx'=>Row H' 1 r (l.map aC)∧nx≤nx'∧(∀x,x<nx→H' x=H x)∧∀b,bF r=some b→nx≤b∧b<nx':=by
 refine fO Mu ?_;simp only[KS,aG];have hsrc:=hr.src (H':=H) fun _ _=>rfl;have hn:=hr.len;have fin:l.length=0→l.map aC=[]:=fun h=>by rw[fq.1 h];rfl
 repeat' (first|refine zW ?_|apply a_n|refine zO ?_|refine vY ?_|fail)
 refine wj (k:=l.length) (by((try simp only[bW,ZA,reduceEqDiff,↓reduceIte,reduceAdd,reduceLeDiff]);(try with_reducible rfl));exact hn) (fun h=>?_) (fun h=>?_) (fun h=>?_)
 ·repeat' (first|refine zW ?_|apply a_n|refine zO ?_|refine vY ?_|refine b0Y ?_|refine cFY ?_|fail)
  refine ij rfl ev0 ev0 hsrc rN (by omega) (by omega) ?_
  repeat' (first|apply a_n|refine zO ?_|refine vY ?_|refine bR rfl ?_|refine r1Y ?_|fail)
  refine⟨by simpa only[Nat.mul_one] using Row.box (sz:=1) nx l.length (l.map aC) (ag (H:=H)) (by rw[bt,Nat.mul_one]),by omega,fun x hx=>ac (by omega),fun b hb=>by cases hb;omega⟩
 ·repeat' (first|refine zW ?_|apply a_n|apply a_r|refine zO ?_|refine vY ?_|refine cTY ?_|refine bR rfl ?_|refine r1Y ?_|fail)
  refine⟨by rw[fin h];exact Row.nil,aO _,fun x hx=>rfl,fun b hb=>(by cases hb)⟩
 ·repeat' (first|refine zW ?_|apply a_n|refine zO ?_|refine vY ?_|refine b0Y ?_|refine cFY ?_|fail)
  refine ij rfl ev0 ev0 hsrc rN (by omega) (by omega) ?_
  repeat' (first|apply a_n|refine zO ?_|refine vY ?_|refine bR rfl ?_|refine r1Y ?_|fail)
  refine⟨by simpa only[Nat.mul_one] using Row.box (sz:=1) nx l.length (l.map aC) (ag (H:=H)) (by rw[bt,Nat.mul_one]),by omega,fun x hx=>ac (by omega),fun b hb=>by cases hb;omega⟩
set_option maxHeartbeats 1000000 in
theorem Lc(c:Nat)(E:List (List Int))(rk:Nat)(v:List Int)(s:AV)(b:Nat)(H:Hp)(nx:Nat)(hm:gr c (E++[v]))(hb:H b=some [.int .i64 c,s,.int .i64 rk])(hbn:b<nx)(hr:jf H s E)(hs:∀x,bF s=some x→x<nx):
    Abs.Fn Tryz.prog 82 [.ptr b 3 0,aC v] H nx fun r H' nx'=>nx≤nx'∧(∀x,x<nx→x≠b→H' x=H x)∧((d6 (E++[v]) c).length=rk∧r=.tup [.bool false,.int .i64 0]∧H' b=H b∨(d6 (E++[v]) c).length≠rk∧r=.tup [.bool true,.int .i64 0]∧∃rv,H' b=some [.int .i64 c,rv,.int .i64 (d6 (E++[v]) c).length]∧jf H' rv (E++[v])∧∀x,bF rv=some x→nx≤x∧x<nx'):=by
 refine fO NG ?_;simp only[b82,aG];have hrank:=AW c (E++[v]) hm;have hel:E.length≤4096:=by have:=hm.2.2.1;rw[cS] at this;omega
 have hcl:=fun H' nx' (h1:∀ x,x < nx→H' x=H x) (h2:nx ≤ nx')=>CT s E (by omega) H' nx' (by
  rcases hr with h|h
  ·exact .inl h
  ·exact .inr (h.same fun x hx=>h1 x (hs x hx))) (fun x hx=>by have:=hs x hx;omega)
 refine dD ?_
 repeat' (first|apply a_n|refine zO ?_|refine vY ?_|fail)
 refine cl (fun T H' nx'=>∃nb rv,T 0=.ptr b 3 0∧T 1=aC v∧T 6=.ptr nb 2 0∧nx≤nb∧nb<nx'∧H' nb=some [.int .i64 c,rv]∧Row H' 1 rv ((E++[v]).map aC)∧(∀x,bF rv=some x→nx≤x∧x<nx'∧x≠nb)∧∀x,x<nx→H' x=H x) ?_ ?_
 ·refine Ju (only b [.int .i64 c,s,.int .i64 rk]) (n9 hb) ?_;have hS:only b [.int .i64 c,s,.int .i64 rk] b=some [.int .i64 c,s,.int .i64 rk]:=iL;have hsub:∀H':Hp,H' b=some [.int .i64 c,s,.int .i64 rk]→Sub (only b [.int .i64 c,s,.int .i64 rk]) H':=fun H' h=>n9 h;generalize only b [AV.int .i64 c,s,.int .i64 rk]=S at *;simp only[fB,List.map_nil,List.getD_cons_succ,List.getD_cons_zero];have zz:=aI @NK @hS;repeat' (first|apply a_n|refine zO ?_|refine nvY ?_|apply uM|refine HS ?_|fail)
  refine HU (pv:=[(0,1,aC v)]) (cs:=[aC v]) ev0 rfl (by decide) rfl rfl (uM ?_);have hsv:∀H':Hp,er 1 H' (.sl 1 [aC v])=some (1,[aC v]):=fun _=>rfl;have ones_encVs:AV.ones [aC v]=true:=rfl;have happ:E.map aC++[aC v]=(E++[v]).map aC:=by rw[cu];rfl
  refine Ka ?_ ?_
  ·refine dS ?_
   repeat' (first|apply a_n|refine zO ?_|refine alY ?_|fail)
   refine⟨hsub _ (by rw[ac (by omega)];exact hb),?_⟩;refine dS ?_;refine be ev0 ev0 (hcl _ _ (fun x hx=>ac (by omega)) (by omega)) ?_;rintro r H1 nx1 ⟨k1,k2,k3,k4⟩;have q0:H1 nx=some [AV.int .i64 0,.esl]:=(k3 nx (by omega)).trans ag;have q1:∀x,x<nx→H1 x=H x:=fun x hx=>(k3 x (by omega)).trans (ac (by omega));refine jz ⟨hsub _ ((q1 b hbn).trans hb),?_⟩;refine dS ?_;refine iW rfl ev0 k1 ev0 (hsv _) ones_encVs rfl lC (by rw[bt];omega) (by rw[bt];omega) ?_;rintro s2 H2 nx2 hr2 i1 i2 i3 i4;rw[happ] at hr2;have g:∀x,x≤nx→H2 x=H1 x:=fun x hx=>i3 x (by omega) fun h=>by have:=(k4 x h).1;omega
   refine jz ⟨hsub _ ((g b (by omega)).trans ((q1 b hbn).trans hb)),?_⟩;have q2:=(g nx (aO _)).trans q0;have hge:∀x,bF s2=some x→nx+1≤x∧x<nx2:=fun x hx=>(i4 x hx).elim (fun h=>⟨(k4 x h).1,by have:=(k4 x h).2;omega⟩) fun h=>⟨by omega,by omega⟩
   clear zz;have zz:=aI @q2 (aI (tH hr2) (aI hr2.one.1 hr2.one.2));repeat' (first|apply a_n|refine zO ?_|refine nvY ?_|apply iV|refine stY ?_|fail)
   refine⟨nx,s2,rfl,rfl,rfl,by omega,by omega,ag,hr2.same (fun x hx=>ac (by have:=(hge x hx).1;omega)),fun x hx=>⟨by have:=(hge x hx).1;omega,(hge x hx).2,by have:=(hge x hx).1;omega⟩,fun x hx=>?_⟩;rw[ac (by omega)];exact(g x (by omega)).trans (q1 x hx)
  ·refine dS ?_;refine be ev0 ev0 (hcl _ _ (fun x hx=>rfl) (by omega)) ?_;rintro r H1 nx1 ⟨k1,k2,k3,k4⟩;refine jz ⟨hsub _ ((k3 b hbn).trans hb),uM ?_⟩;refine Ka ?_ ?_
   ·refine dS ?_
    repeat' (first|apply a_n|refine zO ?_|refine alY ?_|fail)
    refine⟨hsub _ (by rw[ac (by omega)];exact(k3 b hbn).trans hb),?_⟩;refine dS ?_;refine iW rfl ev0 (k1.same fun x hx=>ac (by have:=(k4 x hx).2;omega)) ev0 (hsv _) ones_encVs rfl lC (by rw[bt];omega) (by rw[bt];omega) ?_;rintro s2 H2 nx2 hr2 i1 i2 i3 i4;rw[happ] at hr2;have g:∀x,x<nx→H2 x=H1 x:=fun x hx=>(i3 x (by omega) fun h=>by have:=(k4 x h).1;omega).trans (ac (by omega));have q2:=(i3 nx1 (by omega) fun h=>by have:=(k4 nx1 h).2;omega).trans ag;refine jz ⟨hsub _ ((g b (by omega)).trans ((k3 b hbn).trans hb)),?_⟩;have hge:∀x,bF s2=some x→nx≤x∧x<nx2∧x≠nx1:=fun x hx=>(i4 x hx).elim (fun h=>⟨(k4 x h).1,by have:=(k4 x h).2;omega,by have:=(k4 x h).2;omega⟩) fun h=>⟨by omega,by omega,by omega⟩
    clear zz;have zz:=aI @q2 (aI (tH hr2) (aI hr2.one.1 hr2.one.2));repeat' (first|apply a_n|refine zO ?_|refine nvY ?_|apply iV|refine stY ?_|fail)
    refine⟨nx1,s2,rfl,rfl,rfl,by omega,by omega,ag,hr2.same (fun x hx=>ac (by have:=(hge x hx).2.2;omega)),fun x hx=>⟨(hge x hx).1,(hge x hx).2.1,by have:=(hge x hx).2.2;omega⟩,fun x hx=>?_⟩;rw[ac (by omega)];exact(g x (by omega)).trans (k3 x hx)
   ·refine dS ?_;refine iW rfl ev0 k1 ev0 (hsv _) ones_encVs rfl lC (by rw[bt];omega) (by rw[bt];omega) ?_;rintro s2 H2 nx2 hr2 i1 i2 i3 i4;rw[happ] at hr2;have g:∀x,x<nx→H2 x=H1 x:=fun x hx=>i3 x (by omega) fun h=>by have:=(k4 x h).1;omega
    refine jz ⟨hsub _ ((g b (by omega)).trans ((k3 b hbn).trans hb)),uM ?_⟩;have hge:∀x,bF s2=some x→nx≤x∧x<nx2:=fun x hx=>(i4 x hx).elim (fun h=>⟨(k4 x h).1,by have:=(k4 x h).2;omega⟩) fun h=>⟨by omega,by omega⟩
    clear zz;have zz:=(tH hr2);repeat' (first|apply a_n|refine zO ?_|refine nvY ?_|apply uM|refine HS ?_|fail)
    refine J3 (dS ?_)
    repeat' (first|apply a_n|refine zO ?_|refine alY ?_|fail)
    refine⟨hsub _ (by rw[ac (by omega)];exact(g b hbn).trans ((k3 b hbn).trans hb)),?_⟩;clear zz;have zz:=aI hr2.one.1 hr2.one.2;repeat' (first|apply a_n|refine zO ?_|apply iV|refine stY ?_|fail)
    refine⟨nx2,s2,rfl,rfl,rfl,by omega,by omega,ag,hr2.same (fun x hx=>(ac (by have:=(hge x hx).2;omega)).trans (ac (by have:=(hge x hx).2;omega))),fun x hx=>⟨(hge x hx).1,by have:=(hge x hx).2;omega,by have:=(hge x hx).2;omega⟩,fun x hx=>?_⟩;rw[ac (by omega),ac (by omega)];exact(g x (by omega)).trans (k3 x hx)
 rintro T H1 nx1 ⟨nb,wv,t0,t1,t6,h1,h2,h3,h4,h5,h6⟩;have g0:H1 b=some [.int .i64 c,s,.int .i64 rk]:=(h6 b hbn).trans hb;generalize hEv:E++[v]=E' at *;have zz:=aI @t0 (aI @t1 (aI @t6 @h3));repeat' (first|refine zW ?_|apply a_n|refine zO ?_|refine vY ?_|fail)
 refine ed (have zz:=aI @t0 (aI @t1 (aI @t6 @h3));evY) (have zz:=aI @t0 (aI @t1 (aI @t6 @h3));evY) hrank (aF (ah (kr (ah (Dat.snap Dat.int) (ah (m8 h4) ak))) ak) rfl) ?_;have bne:∀x,bF wv=some x→x≠b:=fun x hx=>by have:=(h5 x hx).1;omega
 by_cases heq:(d6 E' c).length=rk
 ·have hi:decide ((((d6 E' c).length:Nat):Int)=(rk:Int))=true:=aR (by rw[heq]);clear zz;have zz:=aI @t0 (aI @t1 (aI @t6 (aI @h3 (aI @g0 (aI @NK @hi)))));repeat' (first|refine zW ?_|apply a_n|apply a_r|refine zO ?_|refine vY ?_|refine gTY ?_|(refine zGY ?_ ?_<;>(intro _hg;try (exfalso;omega)))|refine cTY ?_|refine bR rfl ?_|refine r2Y ?_|fail)
  exact⟨by omega,fun x hx _=>h6 x hx,.inl ⟨heq,rfl,h6 b hbn⟩⟩
 ·have hi:decide ((((d6 E' c).length:Nat):Int)=(rk:Int))=false:=aU (fun h=>heq (by exact_mod_cast h));clear zz;have zz:=aI @t0 (aI @t1 (aI @t6 (aI @h3 (aI @g0 (aI @NK (aI @hi (aI h4.one.1 h4.one.2)))))));repeat' (first|refine zW ?_|apply a_n|refine zO ?_|refine vY ?_|refine stY ?_|refine gTY ?_|(refine zGY ?_ ?_<;>(intro _hg;try (exfalso;omega)))|refine cFY ?_|refine bR rfl ?_|refine r2Y ?_|fail)
  have e:bG [AV.int .i64 c,wv,.int .i64 rk] 2 [.int .i64 ((d6 E' c).length:Int)]=[.int .i64 c,wv,.int .i64 ((d6 E' c).length:Int)]:=rfl;refine⟨by omega,fun x hx hxb=>?_,.inr ⟨heq,rfl,wv,?_,.inr (h4.same fun x hx=>?_),fun x hx=>⟨(h5 x hx).1,(h5 x hx).2.1⟩⟩⟩
  ·rw[ac hxb,ac hxb];exact h6 x hx
  ·rw[ag,e]
  ·rw[ac (bne x hx),ac (bne x hx)]
end Go.Proofs.YtekdaafnjdlenaaGreat
namespace Go.Proofs.YtekdaafnjdlenaaGreat
open Go Go.Abs
open Nat (reduceEqDiff reduceAdd reduceLeDiff)
theorem AA{l:List (List Int)}{k:Nat}{x:List Int}(h:k<l.length):bG (l.map aC) k [aC x]=(l.set k x).map aC:=by
 unfold bG;rw[List.map_set];have h2:k<(l.map aC).length:=by rw[bt];exact h
 rw[HJ,if_pos h2];simp
def elP(rows:List (List Int))(n c i:Nat):List (List Int):=(List.range rows.length).map fun j=>if j<i then elF rows n c j else rows.getD j default
theorem iG{rows:List (List Int)}{n c i:Nat}:(elP rows n c i).length=rows.length:=by unfold elP;simp
theorem xl{l m:List (List Int)}(hl:l.length=m.length)(h:∀i,i<l.length→l.getD i default=m.getD i default):l=m:=by
 refine List.ext_getElem hl fun j h1 h2=>?_;have:=h j h1;simpa[List.getD,h1,h2] using this
theorem Ab{l:List (List Int)}{i j:Nat}{x:List Int}(h:j<l.length):(l.set i x).getD j default=if i=j then x else l.getD j default:=by
 simp only[List.getD,List.getElem?_set];by_cases e:i=j
 ·subst e;simp[h]
 ·simp[e]
theorem kw{rows:List (List Int)}{n c i j:Nat}(h:j<rows.length):(elP rows n c i).getD j default=if j<i then elF rows n c j else rows.getD j default:=oE h
theorem Mc{rows:List (List Int)}{n c:Nat}:elP rows n c 0=rows:=xl iG fun j h=>by
 rw[iG] at h;rw[kw h,if_neg (by omega)]
theorem Bk{rows:List (List Int)}{n c:Nat}:elP rows n c rows.length=elL rows n c:=by
 unfold elP elL;refine uv fun j hj=>?_;rw[if_pos (dT.1 hj)]
theorem Hg{rows:List (List Int)}{n c i:Nat}:(elP rows n c i).set i (elF rows n c i)=elP rows n c (i+1):=xl (by rw[List.length_set,iG,iG]) fun j h=>by
 rw[List.length_set] at h;rw[Ab h];rw[iG] at h;rw[kw h,kw h];by_cases e:i=j
 ·subst e;rw[if_pos rfl,if_pos (by omega)]
 ·rw[if_neg e];by_cases q:j<i
  ·rw[if_pos q,if_pos (by omega)]
  ·rw[if_neg q,if_neg (by omega)]
theorem FY{rows:List (List Int)}{n c i:Nat}(h:i<rows.length)(e:elF rows n c i=rows.getD i default):elP rows n c (i+1)=elP rows n c i:=xl (by rw[iG,iG]) fun j hj=>by
 rw[iG] at hj;rw[kw hj,kw hj];by_cases q:i=j
 ·subst q;rw[if_pos (by omega),if_neg (by omega),e]
 ·by_cases q2:j<i
  ·rw[if_pos q2,if_pos (by omega)]
  ·rw[if_neg q2,if_neg (by omega)]
theorem rI{rows:List (List Int)}{n k:Nat}:(swL rows n k).length=rows.length:=by unfold swL;simp
theorem JK{rows:List (List Int)}{n k:Nat}(hn:n<rows.length)(hk:k<rows.length):(rows.set n (rows.getD k default)).set k (rows.getD n default)=swL rows n k:=xl (by rw[List.length_set,List.length_set,rI]) fun j h=>by
 rw[List.length_set,List.length_set] at h;rw[Ab (by rw[List.length_set];exact h),Ab h,show(swL rows n k).getD j default=rows.getD (swI n k j) default from oE h];unfold swI;by_cases q:k=j
 ·subst q;rw[if_pos rfl];by_cases e:k=n
  ·rw[if_pos e,e]
  ·rw[if_neg e,if_pos rfl]
 ·rw[if_neg q];by_cases e:n=j
  ·rw[if_pos e,if_pos e.symm]
  ·rw[if_neg e,if_neg (fun x=>e x.symm),if_neg (fun x=>q x.symm)]
def RL(c:Nat)(rows:List (List Int)):Prop:=∀r∈rows,bz r∧∀z∈r,0≤z∧z<(c:Int)
theorem RL.len{c:Nat}{rows:List (List Int)}(h:RL c rows):∀r∈rows,r.length≤c:=fun r hr=>fw (h r hr).1 (h r hr).2
theorem RL.sum {c:Nat} {a b:List Int} (h1:bz a∧∀ z ∈ a,0 ≤ z∧z < (c:Int)) (h2:bz b∧∀ z ∈ b,0 ≤ z∧z < (c:Int)):bz (bN a b)∧∀ z ∈ bN a b,0 ≤ z∧z < (c:Int):=⟨eb h1.1 h2.1,fun z hz=>by
 rcases(dp h1.1 h2.1).1 hz with q|q
 ·exact h1.2 z q.1
 ·exact h2.2 z q.1⟩
theorem RL.elF{c:Nat}{rows:List (List Int)}(h:RL c rows){n k i:Nat}(hn:n<rows.length)(hi:i<rows.length):bz (elF rows n k i)∧∀z∈elF rows n k i,0≤z∧z<(c:Int):=by
 unfold Go.Proofs.YtekdaafnjdlenaaGreat.elF;split
 ·exact RL.sum (h _ (az hi)) (h _ (az hn))
 ·exact h _ (az hi)
theorem RL.elP{c:Nat}{rows:List (List Int)}(h:RL c rows){n k i:Nat}(hn:n<rows.length):RL c (elP rows n k i):=fun r hr=>by
 unfold Go.Proofs.YtekdaafnjdlenaaGreat.elP at hr;obtain⟨j,hj,rfl⟩:=bK.1 hr;have hj:=dT.1 hj;split
 ·exact h.elF hn hj
 ·exact h _ (az hj)
theorem RL.swL{c:Nat}{rows:List (List Int)}(h:RL c rows){n k:Nat}(hn:n<rows.length)(hk:k<rows.length):RL c (swL rows n k):=fun r hr=>by
 unfold Go.Proofs.YtekdaafnjdlenaaGreat.swL at hr;obtain⟨j,hj,rfl⟩:=bK.1 hr;exact h _ (az (n7 hn hk (dT.1 hj)))
theorem EA{c:Nat}{R:List (List Int)}(h:RL c R):∀{k:Nat},RL c (stR R k).1∧(stR R k).1.length=R.length∧(stR R k).2≤R.length
 |0=>⟨h,rfl,bB _⟩
 |k+1=>by
  obtain⟨h1,h2,h3⟩:=EA h (k:=k);unfold stR;split
  ·exact⟨h1,h2,h3⟩
  ·rename_i p hp;obtain⟨p1,p2⟩:=xJ hp;have hs:=h1.swL (n:=(stR R k).2) (k:=p) (by omega) p2;refine⟨?_,?_,?_⟩
   ·dsimp only;rw[←Bk];exact hs.elP (by rw[rI];omega)
   ·dsimp only;unfold elL;rw[bt,List.length_range,rI];exact h2
   ·dsimp only;omega
theorem jf.one{H:Hp}{s:AV}{l:List (List Int)}(h:jf H s l):s.one=true∧s.cells=[s]:=by
 rcases h with rfl|h
 ·exact⟨rfl,rfl⟩
 ·exact h.one
theorem BS:∀k,stR [] k=([],0)
 |0=>rfl
 |k+1=>by
  unfold stR;rw[BS k];rfl
attribute [local irreducible] aJ aj bf aX aP aQ aD aS a6 bk Go.Abs.Fn aV Go.Abs.Pure ar aK Yl
set_option maxHeartbeats 1000000 in
theorem AS(c:Nat)(hmc:c≤4096)(G:Hp)(n0:Nat)(s:AV)(hsR:jf G s [])(hsb:∀b,bF s=some b→b<n0):Abs.Fn Tryz.prog 106 [.agg [.int .i64 c,s]] G n0 fun r H' nx'=>∃s',r=.agg [.int .i64 c,s']∧jf H' s' ([])∧n0≤nx'∧(∀x,x<n0→H' x=G x)∧∀b,bF s'=some b→n0≤b∧b<nx':=by
 refine fO Ib ?_;simp only[Jw,aG];obtain⟨o1,o2⟩:=hsR.one;refine wnY (zI3 @cz @o1 @o2) ?_;refine ij rfl ev0 ev0 (hsR.src fun b hb=>by have:=hsb b hb;rw[ac (by omega),ac (by omega)]) rN (by decide) (by decide) ?_;refine wnY @cz ?_;refine za (X:=Nat) (fun k=>[(1,.ptr n0 2 0),(2,.ptr (n0+1) 2 0),(3,bu []),(4,.int .i64 0),(5,.int .i64 k)]) (fun k H nx=>k≤c∧n0+3≤nx∧H n0=some [.int .i64 c,s]∧H (n0+1)=some [.int .i64 0,.esl]∧∀x,x<n0→H x=G x) (fun k=>c-k) 0 ⟨_,_,Fz.one (b:=n0+2) (cs:=[]) (by rw[ag];rfl),⟨bB _,aO _,by rw[cf (by omega),ac (by omega),ac (by omega),ag],by rw[cf (by omega),ac (by omega),ag],fun x hx=>by rw[cf (by omega),ac (by omega),ac (by omega),ac (by omega)]⟩,.inl rfl,.inl rfl,.inr (CF (l:=[]) iL rfl rfl),.inl rfl,.inl rfl,trivial⟩ ?_;rintro k H nx ⟨h1,h2,g0,g1,gl⟩;by_cases hk:k<c
 ·have zk:decide ((k:Int)<c)=true:=aR (by omega);have hpv:=Fx [] 0 k (by decide) (fun r hr=>(by cases hr)) (by decide);rw[show Gk [] 0 k=-1 from rfl] at hpv;have z0:decide ((-1:Int)<0)=true:=rfl;refine wnY (zI3 @zk @g0 @z0) ?_;exact⟨k+1,by omega,bP,_,Fz.none,⟨by omega,h2,g0,g1,gl⟩,jt ag0⟩
 ·obtain rfl:k=c:=by omega
  have zk:decide ((k:Int)<k)=false:=aU (by omega);have hsl:jH 1 (bu []) none (some (.int .i64 0)) none=some (bu []):=rfl;refine wnY (zI4 @g0 @g1 @zk @hsl) ?_;refine ij rfl ev0 ev0 (gz (l:=[])) iO (by decide) (by decide) ?_;refine wnY @g1 ?_;refine⟨_,rfl,.inr ?_,by omega,fun x hx=>by(repeat rw[ac (by omega)]);exact gl x hx,fun b hb=>?_⟩
  ·exact Row.box (nx+1) 0 [] (by(repeat rw[ac (by omega)]);rw[ag];rfl) rfl
  ·cases hb;omega
set_option maxHeartbeats 1000000 in
theorem Aa(c:Nat)(R:List (List Int))(hm:gr c R)(G:Hp)(n0:Nat)(s:AV)(hsR:jf G s R)(hsb:∀b,bF s=some b→b<n0):Abs.Fn Tryz.prog 106 [.agg [.int .i64 c,s]] G n0 fun r H' nx'=>∃s',r=.agg [.int .i64 c,s']∧jf H' s' (v7 R c)∧n0≤nx'∧(∀x,x<n0→H' x=G x)∧∀b,bF s'=some b→n0≤b∧b<nx':=by
 have hmc:=hm.2.1;have hml:=hm.2.2.1;by_cases hR0:R=[]
 ·subst hR0;have e:v7 [] c=[]:=by unfold v7;rw[BS];rfl
  rw[e];exact AS c (by omega) G n0 s hsR hsb
 have hRn:R.length≠0:=fun e=>hR0 (fq.1 e);refine fO Ib ?_;simp only[Jw,aG];have hR:RL c R:=fun r hr=>⟨fk hm r hr,(hm.2.2.2 r hr).1⟩
 have hst:=fun k=>EA hR (k:=k);obtain⟨o1,o2⟩:=hsR.one;refine wnY (zI3 @cz @o1 @o2) ?_;refine ij rfl ev0 ev0 (hsR.src fun b hb=>by have:=hsb b hb;rw[ac (by omega),ac (by omega)]) rN (by omega) (by omega) ?_;rw[Nat.mul_one];refine wnY @cz ?_;refine lpI (X:=Nat) (fun k=>[(1,.ptr n0 2 0),(2,.ptr (n0+1) 2 0),(3,.msl (n0+2) R.length 1 0 R.length),(4,.int .i64 (stR R k).2),(5,.int .i64 k)]) (fun k H nx=>k≤c∧n0+3≤nx∧H n0=some [.int .i64 c,s]∧H (n0+1)=some [.int .i64 0,.esl]∧H (n0+2)=some ((stR R k).1.map aC)∧∀x,x<n0→H x=G x) (fun k=>c-k) 0 ⟨bB _,aO _,by rw[ac (by omega),ac (by omega),ag],by rw[ac (by omega),ag],ag,fun x hx=>by rw[ac (by omega),ac (by omega),ac (by omega)]⟩ ?_;rintro k H nx ⟨h1,h2,g0,g1,g2,gl⟩;obtain⟨r1,r2,r3⟩:=hst k;by_cases hk:k<c
 rotate_left
 ·obtain rfl:k=c:=by omega
  have hrr:v7 R k=(stR R k).1.take (stR R k).2:=rfl;generalize (stR R k).1=rows at *;generalize (stR R k).2=n at *;rw[hrr];have zk:decide ((k:Int)<k)=false:=aU (by omega)
  have hsl:jH 1 (.msl (n0+2) R.length 1 0 R.length) none (some (.int .i64 n)) none=some (.msl (n0+2) R.length 1 0 n):=by
   simp[jH,bJ];exact fun q=>absurd (q r3) hR0
  refine wnY (zI5 @g0 @g1 @g2 @zk @hsl) ?_;refine ij rfl ev0 ev0 (fi (cs:=rows.map aC) ?_ (by rw[bt];omega) (by omega)) (by rw[List.drop_zero,←List.map_take];exact iO) (by omega) (by omega) ?_
  ·rw[ac (by omega),ac (by omega)];exact g2
  rw[List.drop_zero,←List.map_take,Nat.mul_one];refine wnY @g1 ?_;refine⟨_,rfl,.inr ?_,by omega,fun x hx=>by(repeat rw[ac (by omega)]);exact gl x hx,fun b hb=>?_⟩
  ·simpa only[Nat.mul_one] using Row.box (sz:=1) (nx+1) n ((rows.take n).map aC) (by(repeat rw[ac (by omega)]);rw[ag]) (by rw[bt,f0];omega)
  ·cases hb;omega
 have zk:decide ((k:Int)<c)=true:=aR (by omega);have hpv:=Fx (stR R k).1 (stR R k).2 k (by omega) (fun r hr=>by have:=r1.len r hr;omega) (by omega)
 have hss:stR R (k+1)=match t8 (stR R k).1 (stR R k).2 k with
  |none=>stR R k
  |some p=>(elL (swL (stR R k).1 (stR R k).2 p) (stR R k).2 k,(stR R k).2+1):=rfl
 unfold Gk at hpv;have hps:=fun p=>xJ (rows:=(stR R k).1) (n:=(stR R k).2) (c:=k) (k:=p);generalize hsk:stR R k=st at *;obtain⟨rows,n⟩:=st;dsimp only at *;have hrow:Row H 1 (.msl (n0+2) R.length 1 0 R.length) (rows.map aC):=by simpa only[Nat.mul_one] using Row.box (sz:=1) (n0+2) R.length (rows.map aC) g2 (by rw[bt,Nat.mul_one,r2])
 refine wnY (aI @zk @g0) ?_;refine ed ev0 ev0 hpv (aF (ah (m8 hrow) (ah (.int _ _) (ah (.int _ _) ak))) rfl) ?_;cases hp:t8 rows n k with
 |none=>
  rw[hp] at hss;dsimp only at hss;have z0:decide ((-1:Int)<0)=true:=rfl;refine wnY @z0 ?_;exact⟨k+1,by omega,⟨by omega,h2,g0,g1,by rw[hss];exact g2,gl⟩,by rw[hss];simp (disch:=omega) only[agr,ZG,reduceEqDiff,↓reduceIte]⟩
 |some p=>
  rw[hp] at hss;dsimp only at hss;obtain⟨p1,p2⟩:=hps p hp;have z0:decide ((p:Int)<0)=false:=aU (by omega);have rl:(rows.map aC).length=R.length:=by rw[bt,r2]
  refine wnY (zI4 @z0 @g2 @rl @r2) ?_;rw[AA (by omega)];have rl2:(rows.set n (rows.getD p default)).length=R.length:=by rw[List.length_set,r2]
  refine wnY @rl2 ?_;rw[AA (by rw[List.length_set];omega),JK (by omega) p2];have hSl:=rI (rows:=rows) (n:=n) (k:=p);have hSr:=r1.swL (n:=n) (k:=p) (by omega) p2;generalize swL rows n p=S at *;clear hrow g2 rl rl2 hpv;refine bT (X:=Nat) (fun i=>[(1,.ptr n0 2 0),(2,.ptr (n0+1) 2 0),(3,.msl (n0+2) R.length 1 0 R.length),(4,.int .i64 n),(5,.int .i64 k),(7,.int .i64 i)]) (fun i H' nx'=>i≤R.length∧n0+3≤nx'∧H' n0=some [.int .i64 c,s]∧H' (n0+1)=some [.int .i64 0,.esl]∧H' (n0+2)=some ((elP S n k i).map aC)∧∀x,x<n0→H' x=G x) (fun i=>R.length-i) 0 ⟨bB _,h2,by rw[ac (by omega),ac (by omega)];exact g0,by rw[ac (by omega),ac (by omega)];exact g1,by rw[ag,Mc],fun x hx=>by rw[ac (by omega),ac (by omega)];exact gl x hx⟩ ag0 ?_;rintro i H' nx' ⟨i1,i2,j0,j1,j2,jl⟩;have hPl:(elP S n k i).length=R.length:=by rw[iG];omega
  have hPr:=hSr.elP (n:=n) (k:=k) (i:=i) (by omega);have rl3:((elP S n k i).map aC).length=R.length:=by rw[bt,hPl]
  by_cases hi:i<R.length
  rotate_left
  ·obtain rfl:i=R.length:=by omega
   have zi:decide ((R.length:Int)<R.length)=false:=aU (by omega);refine wnY @zi ?_;refine⟨k+1,by omega,⟨by omega,i2,j0,j1,?_,jl⟩,by rw[hss];simp (disch:=omega) only[agr,ZG,reduceEqDiff,↓reduceIte]⟩;rw[hss,j2,show R.length=S.length by omega,Bk]
  have hPi:(elP S n k i).getD i default=S.getD i default:=by rw[kw (by omega),if_neg (by omega)]
  have hnn:elF S n k n=S.getD n default:=by unfold elF;rw[if_neg (fun q=>q.1 rfl)]
  have hPn:(elP S n k i).getD n default=S.getD n default:=by rw[kw (by omega),hnn];split<;>rfl
  have hPs:=Hg (rows:=S) (n:=n) (c:=k) (i:=i);have hPe:=fun e=>FY (rows:=S) (n:=n) (c:=k) (i:=i) (by omega) e;have hFi:elF S n k i=if i≠n∧(k:Int)∈S.getD i default then bN (S.getD i default) (S.getD n default) else S.getD i default:=rfl
  have hli:=hSr.len _ (az (show i<S.length by omega));have hln:=hSr.len _ (az (show n<S.length by omega));have hh:=Ew (S.getD i default) (k:Int) (by omega);have hpl:=Hz (S.getD i default) (S.getD n default) (by omega) (by omega);have zi:decide ((i:Int)<R.length)=true:=aR (by omega);generalize hP2:elP S n k (i+1)=P2 at *;generalize hP1:elP S n k i=P at *;generalize S.getD i default=x at *;generalize S.getD n default=y at *;by_cases hin:i=n
  ·have zn:decide ((i:Int)≠n)=false:=aU (by omega);rw[if_neg (fun q=>q.1 hin)] at hFi;refine wnY (zI5 @zi @zn @j2 @rl3 @hPl) ?_;exact⟨i+1,by omega,⟨by omega,i2,j0,j1,by rw[hP2,hPe hFi];exact j2,jl⟩,ag0⟩
  have zn:decide ((i:Int)≠n)=true:=aR (by omega);by_cases hx:(k:Int)∈x
  ·rw[aR hx] at hh;rw[if_pos ⟨hin,hx⟩] at hFi;rw[←hFi] at hpl;refine wkY (zI7 @zi @zn @j2 @rl3 @hPl @hPi @hPn) ?_;rw[AA (by omega),hPs]
   skip
   exact⟨i+1,by omega,⟨by omega,i2,by rw[ac (by omega)];exact j0,by rw[ac (by omega)];exact j1,by rw[hP2];exact ag,fun x hx=>by rw[ac (by omega)];exact jl x hx⟩,ag0⟩
  ·rw[aU hx] at hh;rw[if_neg (fun q=>hx q.2)] at hFi;refine wnY (zI6 @zi @zn @j2 @rl3 @hPl @hPi) ?_;exact⟨i+1,by omega,⟨by omega,i2,j0,j1,by rw[hP2,hPe hFi];exact j2,jl⟩,ag0⟩
theorem jf.snapM{H:Hp}{s:AV}{l:List (List Int)}{c:Int}(h:jf H s l):Snap H (.agg [.int .i64 c,s]) (dl c l):=kr (ah (.int _ _) (ah h.snap ak))
theorem DR(c:Nat)(R:List (List Int))(hm:gr c R):pU 106 [dl c R] (dl c (v7 R c)):=
 Pure.of_fn ((Aa c R hm bP 0 (bu R) (.inl rfl) (fun b hb=>(by cases hb))).mono fun r H' nx' ⟨s',e,h,_⟩=>by rw[e];exact h.snapM)
end Go.Proofs.YtekdaafnjdlenaaGreat
namespace Go.Proofs.YtekdaafnjdlenaaGreat
open Go Go.Abs
structure CmpO{α:Type}(P:Program)(f:α→AV)(K:α→α→Int)(G:α→Prop):Prop where
 cells:∀x,(f x).cells=[f x]
 one:∀x,(f x).one=true
 dat:∀x,Dat (f x)
 run:∀x y,G x→G y→Go.Abs.Pure P 187 [f x,f y] (.bool (decide (K x y<0)))
 ord:Ord K
section
variable{α:Type}[Inhabited α]{f:α→AV}{K:α→α→Int}{G:α→Prop}
attribute [local irreducible] aJ aj bf aX aP aQ aD aS a6 bk Go.Abs.Fn aV Go.Abs.Pure ar aK Yl
theorem LV(hc:CmpO Tryz.prog f K G){L:List α}{H:Hp}{b nx n a e:Nat}(hH:H b=some (L.map f))(hn:L.length=n)(hG:∀x∈L,G x)(hae:a≤e)(hen:e≤n)(hn2:n≤1000000000):
    Abs.Fn Tryz.prog 189 [.msl b n 1 0 n,.int .i64 a,.int .i64 e] H nx fun r H' nx'=>nx'=nx∧∃L',H'=aq H b (L'.map f)∧PermR a e L L'∧bo K a e L':=by
 refine fO MQ ?_;simp only[Ld,aG];refine wnZ and_self ?_;refine bT (X:=Nat×List α) (fun x=>[(0,.msl b n 1 0 n),(1,.int .i64 a),(2,.int .i64 e),(6,.int .i64 (x.1:Nat))]) (fun x H' nx'=>a+1≤x.1∧(x.1≤e∨x.1=a+1)∧H'=aq H b (x.2.map f)∧nx'=nx∧PermR a e L x.2∧bo K a x.1 x.2) (fun x=>e+1-x.1) (a+1,L) ⟨aO _,.inr rfl,lj hH,rfl,.refl,bo.one (aO _)⟩ ag0 ?_;rintro⟨i,M0⟩ H' nx' ⟨h1,h2,rfl,rfl,hp0,hs0⟩;dsimp only at *;have hl0:M0.length=n:=by rw[hp0.len,hn]
 by_cases hi:i<e
 rotate_left
 ·refine wnZ and_self ?_;exact⟨rfl,M0,rfl,hp0,hs0.mono (aO _) (by omega)⟩
 refine wnZ and_self ?_;refine bT (X:=Nat×List α) (fun x=>[(0,.msl b n 1 0 n),(1,.int .i64 a),(2,.int .i64 e),(6,.int .i64 (i:Nat)),(7,.int .i64 (x.1:Nat))]) (fun x H' nxx=>a≤x.1∧x.1≤i∧H'=aq H b (x.2.map f)∧nxx=nx'∧PermR a e L x.2∧f9 K a i x.1 x.2) (fun x=>x.1) (i,M0) ⟨by omega,aO _,rfl,rfl,hp0,.start hs0⟩ ag0 ?_;clear hp0 hs0 hl0;rintro⟨j,M⟩ H' nxx ⟨a1,a2,rfl,rfl,hp,hal⟩;dsimp only at *;have hl:M.length=n:=by rw[hp.len,hn]
 have hGM:=hp.mem hG;by_cases hja:j=a
 ·subst hja;refine wkZ and_self ?_;exact⟨(i+1,M),by dsimp only;omega,⟨by dsimp only;omega,.inl (by dsimp only;omega),rfl,rfl,hp,hal.done hc.ord (.inl rfl)⟩,ag0⟩
 ·obtain⟨k,rfl⟩:∃k,j=k+1:=⟨j-1,by omega⟩
  have tj:((k+1:Nat):Int)-1=(k:Int):=by omega
  have lc:=hc.run (M.getD (k+1) default) (M.getD k default) (hGM _ (bg (by omega))) (hGM _ (bg (by omega)));have d1:=hc.dat (M.getD (k+1) default);have d2:=hc.dat (M.getD k default);generalize hKK:K (M.getD (k+1) default) (M.getD k default)=kk at lc;by_cases hlt:kk<0
  ·obtain⟨M1,hl1,lm1,lm2⟩:∃M1:List α,M1.length=n∧bG (M.map f) (k+1) [f (M.getD k default)]=M1.map f∧bG (M1.map f) k [f (M.getD (k+1) default)]=(swp M (k+1) k).map f:=
     ⟨M.set (k+1) (M.getD k default),by simp[hl],iQ (by omega),by rw[iQ (by simp;omega)];rfl⟩
   have lm3:=lm2;simp only[bG,bO,fA,ce] at lm1 lm2;refine wkZ (zI6 @tj @cr @lm1 @lm2 hc.cells hc.one) ?_;refine⟨(k,swp M (k+1) k),by dsimp only;omega,⟨by dsimp only;omega,by dsimp only;omega,?_,rfl,hp.trans (PermR.swap (by omega) (by omega) (by omega)),hal.step hc.ord (by omega) (by omega) (by omega) (by rw[hKK];exact hlt)⟩,(have zz:=@tj;agZ)⟩;dsimp only;rw[ba,ba,lm3]
  ·refine wkZ (zI4 @tj @cr hc.cells hc.one) ?_;exact⟨(i+1,M),by dsimp only;omega,⟨by dsimp only;omega,.inl (by dsimp only;omega),rfl,rfl,hp,hal.done hc.ord (.inr ⟨by omega,by rw[ro,hKK];exact hlt⟩)⟩,ag0⟩
end
end Go.Proofs.YtekdaafnjdlenaaGreat
namespace Go.Proofs.YtekdaafnjdlenaaGreat
open Go Go.Abs
theorem Nj:Ord (fun x y:Int=>x-y):=⟨fun x=>by omega,fun x y h=>by omega,fun x y z h1 h2=>by omega⟩
attribute [local irreducible] aJ aj bf aX aP aQ aD aS a6 bk Go.Abs.Fn aV Go.Abs.Pure ar aK Yl
theorem JC(x y:Int):pU 187 [.int .i64 x,.int .i64 y] (.bool (decide (x-y<0))):=by
 have e:decide (x-y<0)=decide (x<y):=decide_eq_decide.2 (by omega);rw[e];have n1:=jb x;refine pO HX ?_;simp only[Jo,aG];refine wnZ and_self ?_;exact Dat.snap Dat.bool
theorem Nf:CmpO Tryz.prog (fun x:Int=>.int .i64 x) (fun x y=>x-y) (fun _=>True):=⟨fun _=>rfl,fun _=>rfl,fun _=>.int,fun x y _ _=>JC x y,Nj⟩
theorem G7{L:List Int}{H:Hp}{b nx n lim:Nat}(hH:H b=some (L.map fun x=>.int .i64 x))(hn:L.length=n)(hn2:n≤12):
    Abs.Fn Tryz.prog 164 [.msl b n 1 0 n,.int .i64 0,.int .i64 n,.int .i64 lim] H nx fun r H' nx'=>nx'=nx∧∃L':List Int,H'=aq H b (L'.map fun x=>.int .i64 x)∧PermR 0 n L L'∧bo (fun x y:Int=>x-y) 0 n L':=by
 refine fO LX ?_;simp only[L9,aG];have z:decide ((n:Int)≤12)=true:=aR (by omega);refine wnZ and_self ?_;refine bT (X:=Unit) (fun x=>[(0,.msl b n 1 0 n),(1,.int .i64 0),(2,.int .i64 n),(3,.int .i64 lim)]) (fun x H' nx'=>H'=H∧nx'=nx) (fun x=>0) () ⟨rfl,rfl⟩ ag0 ?_;rintro _ _ _ ⟨rfl,rfl⟩;refine wnZ (aI @z @Int.sub_zero) ?_;refine be ev0 (have zz:=@Int.natCast_zero;evZ) (LV Nf (a:=0) hH hn (fun _ _=>trivial) (bB _) (aO _) (by omega)) ?_;rintro _ _ _ ⟨rfl,L',rfl,hp,hs⟩;refine wnZ and_self ?_;exact⟨rfl,L',rfl,hp,hs⟩
def qC(m:Nat):Prop:=∀{L:List Int}{H:Hp}{b nx n:Nat},H b=some (L.map fun x=>.int .i64 x)→b<nx→L.length=n→0<n→n≤m→
    Abs.Fn Tryz.prog 147 [.msl b n 1 0 n] H nx fun r H' nx'=>∃L':List Int,PS H H' nx nx' b (L'.map fun x=>.int .i64 x)∧L'.Perm L∧L'.Pairwise (· ≤ ·)
theorem qC.le{m k:Nat}(h:qC m)(hk:k≤m):qC k:=fun a b c d e=>h a b c d (eZ e hk)
theorem EN:qC 12:=fun{L H b nx n} hH hbx hn hn0 hn2=>by
 refine fO Kg ?_;simp only[Lo,aG];have w:IntKind.wrap .u64 (n:Int)=n:=ga (by omega) (by omega);refine wnZ @w ?_;refine be ev0 (have zz:=@w;evZ) (FP hn0 (by omega)) ?_;rintro _ _ _ ⟨rfl,rfl,k,rfl,h3,h4⟩
 skip
 refine be ev0 (have zz:=@Int.natCast_zero;evZ) (G7 hH hn hn2) ?_;rintro _ _ _ ⟨rfl,N,rfl,hp,hs⟩;refine wnZ and_self ?_;refine⟨N,⟨ag,fun i _ h2=>ac h2,aO _⟩,hp.perm,?_⟩;rw[kJ];intro i j hi hj hij;have hl:N.length=n:=by rw[hp.len,hn]
 have:=hs i j (bB _) hij (by omega);simp only[List.getD,hi,hj,rz,uc] at this;omega
end Go.Proofs.YtekdaafnjdlenaaGreat
namespace Go.Proofs.YtekdaafnjdlenaaGreat
open Go Go.Abs
theorem zB{H:Hp}{sv:AV}{l:List Int}(h:Row H 1 sv (l.map (AV.int .i64)))(h0:0<l.length):∃B,sv=.msl B l.length 1 0 l.length∧H B=some (l.map (AV.int .i64)):=by
 generalize hcs:l.map (AV.int .i64)=cs at h;have hl:cs.length=l.length:=by rw[←hcs,bt]
 cases h with
 |nil=>simp at hl;omega
 |box B len cs h1 h2=>
  have e:len=l.length:=by omega
  subst e;exact⟨B,by rw[Nat.mul_one],h1⟩
def uD(E:List (List Int))(q:Nat):List Int:=E.foldl (fun a r=>if (q:Int)∈r then bN a [ld r] else a) [(q:Int)]
def oX(E:List (List Int))(q:Nat):List Int:=(q:Int)::(E.filter fun r=>decide ((q:Int)∈r)).map ld
def Jx(E:List (List Int))(c:Nat):List Nat:=(List.range c).filter fun q=>decide ((q:Int)∉E.map ld)
def sZ(E:List (List Int))(c:Nat):List (List Int):=(Jx E c).map (uD E)
theorem CH{E:List (List Int)}{k:Nat}:sZ E (k+1)=sZ E k++if (k:Int)∈E.map ld then [] else [uD E k]:=by
 unfold sZ Jx;rw[List.range_succ,wg,cu]
 congr 1
 by_cases h:(k:Int)∈E.map ld
 ·rw[if_pos h,AY (by simpa using h)];rfl
 ·rw[if_neg h,A4 (by simpa using h)];rfl
theorem zY{E:List (List Int)}{k:Nat}:(sZ E k).length≤k:=by
 unfold sZ Jx;rw[bt];exact eZ (List.length_filter_le _ _) (by simp)
theorem Cz{E:List (List Int)}{q j:Nat}(h:j<E.length):oX (E.take (j+1)) q=oX (E.take j) q++if (q:Int)∈E.getD j default then [ld (E.getD j default)] else []:=by
 unfold oX;rw[b5 h,wg,cu,List.cons_append]
 congr 2
 by_cases h:(q:Int)∈E.getD j default
 ·rw[if_pos h,A4 (by simpa using h)];rfl
 ·rw[if_neg h,AY (by simpa using h)];rfl
theorem yN{E:List (List Int)}{q:Nat}:(oX E q).length≤E.length+1:=by
 unfold oX;rw[bO,bt];exact Nat.succ_le_succ (List.length_filter_le _ _)
theorem qe{q:Nat}:∀{E:List (List Int)}{a:List Int},E.Pairwise (fun r s=>ld r<ld s)→bz a→(∀r∈E,ld r∉a)→
    bz (E.foldl (fun a r=>if (q:Int)∈r then bN a [ld r] else a) a)∧∀z,z∈E.foldl (fun a r=>if (q:Int)∈r then bN a [ld r] else a) a↔z∈a∨ ∃r∈E,(q:Int)∈r∧z=ld r
 |[],a,_,h2,_=>⟨h2,fun z=>⟨.inl,fun h=>h.elim id fun⟨r,hr,_⟩=>by cases hr⟩⟩
 |x::E,a,h1,h2,h3=>by
  have hx:=gU.1 h1;rw[List.foldl_cons];by_cases h:(q:Int)∈x
  ·rw[if_pos h];have hs:bz [ld x]:=List.pairwise_singleton _ _;have hna:=h3 x (dq ..)
   have hm:∀z,z∈bN a [ld x]↔z∈a∨z=ld x:=fun z=>by
    rw[dp h2 hs,de];constructor
    ·rintro(q|q)
     ·exact .inl q.1
     ·exact .inr q.1
    ·rintro(q|rfl)
     ·exact .inl ⟨q,fun e=>hna (e▸q)⟩
     ·exact .inr ⟨rfl,hna⟩
   obtain ⟨i1,i2⟩:=qe (q:=q) hx.2 (eb h2 hs) (fun r hr hz=>by
    rcases(hm _).1 hz with g|g
    ·exact h3 r (ew _ hr) g
    ·have:=hx.1 r hr;omega)
   refine⟨i1,fun z=>(i2 z).trans ?_⟩;rw[hm];constructor
   ·rintro((g|g)|⟨r,hr,g⟩)
    ·exact .inl g
    ·exact .inr ⟨x,dq ..,h,g⟩
    ·exact .inr ⟨r,ew _ hr,g⟩
   ·rintro(g|⟨r,hr,g1,g2⟩)
    ·exact .inl (.inl g)
    ·rcases cW.1 hr with rfl|hr
     ·exact .inl (.inr g2)
     ·exact .inr ⟨r,hr,g1,g2⟩
  ·rw[if_neg h];obtain⟨i1,i2⟩:=qe (q:=q) hx.2 h2 (fun r hr=>h3 r (ew _ hr));refine⟨i1,fun z=>(i2 z).trans ?_⟩;constructor
   ·rintro(g|⟨r,hr,g⟩)
    ·exact .inl g
    ·exact .inr ⟨r,ew _ hr,g⟩
   ·rintro(g|⟨r,hr,g1,g2⟩)
    ·exact .inl g
    ·rcases cW.1 hr with rfl|hr
     ·exact absurd g1 h
     ·exact .inr ⟨r,hr,g1,g2⟩
theorem s7{E:List (List Int)}{q:Nat}(hE:Red E)(hq:(q:Int)∉E.map ld):bz (uD E q)∧∀z,z∈uD E q↔z=q∨ ∃r∈E,(q:Int)∈r∧z=ld r:=by
 have:=qe (q:=q) (a:=[(q:Int)]) hE.ord (List.pairwise_singleton _ _) (fun r hr h=>hq (by rw[de] at h;rw[←h];exact List.mem_map_of_mem hr));exact⟨this.1,fun z=>(this.2 z).trans (by rw[de])⟩
theorem Fl{E:List (List Int)}{q:Nat}{z:Int}:z∈oX E q↔z=q∨ ∃r∈E,(q:Int)∈r∧z=ld r:=by
 unfold oX;rw[cW,bK];constructor
 ·rintro(h|⟨r,hr,e⟩)
  ·exact .inl h
  ·have:=gY.1 hr;exact .inr ⟨r,this.1,pW this.2,e.symm⟩
 ·rintro(h|⟨r,hr,g,e⟩)
  ·exact .inl h
  ·exact .inr ⟨r,gY.2 ⟨hr,aR g⟩,e.symm⟩
theorem AO{E:List (List Int)}{q:Nat}(hE:Red E)(hq:(q:Int)∉E.map ld):(oX E q).Nodup:=by
 unfold oX;refine List.nodup_cons.2 ⟨fun h=>?_,?_⟩
 ·obtain⟨r,hr,e⟩:=bK.1 h;exact hq (e▸List.mem_map_of_mem (gY.1 hr).1)
 ·rw[List.Nodup,List.pairwise_map];exact(hE.ord.sublist EG).imp fun{x y} h e=>by omega
theorem Cv{E:List (List Int)}{q:Nat}(hE:Red E)(hq:(q:Int)∉E.map ld){L:List Int}(hp:L.Perm (oX E q))(hs:L.Pairwise (· ≤ ·)):L=uD E q:=by
 have hn:L.Nodup:=hp.nodup_iff.2 (AO hE hq)
 have ha:bz L:=(hs.and hn).imp fun{x y} h=>by
  have h1:=h.1;have h2:x≠y:=h.2;show x<y;omega
 obtain⟨k1,k2⟩:=s7 hE hq;refine oL ha k1 fun z=>?_;rw[hp.mem_iff,k2,Fl]
def nA(k:Nat):List AV:=List.replicate k (.bool true)
theorem CY{k i:Nat}(h:i<k):Go.Abs.mget (.bool false) false (some i) (nA k)=.bool true:=by
 show(nA k).getD i _=_;simp[nA,List.getD,h]
attribute [local irreducible] aJ aj bf aX aP aQ aD aS a6 bk Go.Abs.Fn aV Go.Abs.Pure ar aK Yl
theorem D1(c:Nat)(R:List (List Int))(hm:gr c R)(hso:qC (c+1)):pU 103 [dl c R] (.tup [dl c (sZ (d6 R c) c),.int .i64 0]):=by
 refine pO Kx ?_;simp only[KY,aG];have he:=nV c R hm;have z0:decide ((0:Int)≠0)=false:=rfl;have hd:Dat (.agg [.int .i64 c,bu R]):=cT c R;have hmc:=hm.2.1;have hmv:∀r∈R,∀z∈r,0≤z∧z<(c:Int):=fun r hr z hz=>(hm.2.2.2 r hr).1 z hz;obtain⟨hred,hsp,-⟩:=lf (fk hm) hmv;have hEv:∀r∈d6 R c,∀z∈r,0≤z∧z<(c:Int):=fun r hr=>kV (fk hm) hmv ((hsp r).1 (eA hr));have hEl:(d6 R c).length≤c:=by unfold d6;rw[bt];exact ku
 rw[cE,cE] at he;rw[cE,cE];generalize d6 R c=E at *;clear hsp;refine wnY (aI @z0 @cz) ?_;refine uQ ?_;refine wnY @cz ?_;refine lpI (X:=Nat) (fun k=>[(1,.ptr 0 2 0),(2,.ptr 1 2 0),(4,.ptr 2 2 0),(6,.ptr 3 2 0),(7,.mp 4),(28,bu E),(29,.int .i64 E.length),(30,.int .i64 k)]) (fun k H nx=>k≤E.length∧5≤nx∧H 0=some [.int .i64 c,bu R]∧H 1=some [.int .i64 0,.esl]∧H 2=some [.int .i64 c,bu E]∧H 3=some [.int .i64 c,.esl]∧H 4=some [.omap (((E.take k).map ld).map (AV.int .i64)) (nA k)]) (fun k=>E.length-k) 0 ⟨bB _,aO _,rfl,rfl,rfl,rfl,rfl⟩ ?_;rintro k H nx ⟨g1,g2,g3,g4,g5,g6,g7⟩;by_cases hk:k<E.length
 ·have ix:=A3 hk;have hn:=hred.ne _ (az (l:=E) hk);have ix0:=Hd hn;have hmf:=ib (ld (E.getD k default)) ((E.take k).map ld)
  have hni:ld (E.getD k default)∉(E.take k).map ld:=fun h=>by
   obtain⟨r,hr,e⟩:=bK.1 h;obtain⟨i,hi,e2⟩:=jp hr;rw[f0] at hi;have hi2:i<E.length:=by omega
   have:=kJ.1 hred.ord i k hi2 hk (by omega);rw[List.getElem_take] at e2;rw[show E[k]=E.getD k default by simp[List.getD,hk]] at this;rw[e2] at this;omega
  rw[if_neg hni] at hmf;have hts:=b5 hk
  have hml:((E.take (k+1)).map ld).map (AV.int .i64)=((E.take k).map ld).map (AV.int .i64)++[.int .i64 (ld (E.getD k default))]:=by
   rw[hts,cu,cu];rfl
  have htr:nA (k+1)=nA k++[.bool true]:=by unfold nA;rw[List.replicate_succ']
  generalize E.getD k default=r at *;refine wnY (aI @ix @ix0) ?_;refine pz ev0 g7 ev0 ev0 rfl hmf ?_;refine wnY and_self ?_;refine⟨k+1,by omega,⟨by omega,by omega,(ac (by omega)).trans g3,(ac (by omega)).trans g4,(ac (by omega)).trans g5,(ac (by omega)).trans g6,?_⟩,ag0⟩;rw[ag,hml,htr];rfl
 obtain rfl:k=E.length:=by omega
 rw[fM (aO _)] at g7;clear hk g1;refine wnY @g3 ?_;refine lpI (X:=AV×Nat) (fun x=>[(1,.ptr 0 2 0),(2,.ptr 1 2 0),(4,.ptr 2 2 0),(6,.ptr 3 2 0),(7,.mp 4),(40,.int .i64 c),(41,.int .i64 x.2)]) (fun x H nx=>x.2≤c∧5≤nx∧H 0=some [.int .i64 c,bu R]∧H 1=some [.int .i64 0,.esl]∧H 2=some [.int .i64 c,bu E]∧H 3=some [.int .i64 c,x.1]∧H 4=some [.omap ((E.map ld).map (AV.int .i64)) (nA E.length)]∧Row H 1 x.1 ((sZ E x.2).map aC)∧∀b,bF x.1=some b→4<b∧b<nx) (fun x=>c-x.2) (.esl,0) ⟨bB _,g2,g3,g4,g5,g6,g7,Row.nil,fun b h=>(by cases h)⟩ ?_;clear g2 g3 g4 g5 g6 g7;rintro⟨sv,k⟩ H nx ⟨g1,g2,g3,g4,g5,g6,g7,g8,g9⟩;dsimp only at g1 g2 g3 g4 g5 g6 g7 g8 g9 ⊢;by_cases hk:k<c
 rotate_left
 ·obtain rfl:k=c:=by omega
  obtain⟨o1,o2⟩:=g8.one;refine wnY (zI4 @g6 @g4 @o1 @o2) ?_;refine jF (m8 (g8.same fun b hb=>?_)) rfl;have:=g9 b hb;rw[ac (by omega)]
 have hmf:=ib (k:Int) (E.map ld);have hks:=CH (E:=E) (k:=k);by_cases hlead:(k:Int)∈E.map ld
 ·rw[if_pos hlead] at hmf;rw[if_pos hlead,fP] at hks;have hgt:Go.Abs.mget (.bool false) false (some ((E.map ld).idxOf (k:Int))) (nA E.length)=.bool true:=CY (by have:=List.idxOf_lt_length_of_mem hlead;rwa [bt] at this);refine dD ?_;refine wnY and_self ?_;refine ja ev0 g7 ev0 rfl hmf ?_;rw[hgt];refine wnY and_self ?_;refine⟨(sv,k+1),by dsimp only;omega,⟨by dsimp only;omega,by omega,g3,g4,g5,g6,g7,?_,g9⟩,ag0⟩;dsimp only;rw[hks];exact g8
 rw[if_neg hlead] at hmf hks;refine wnY and_self ?_;refine ja ev0 g7 ev0 rfl hmf ?_;have hgf:Go.Abs.mget (.bool false) false none (nA E.length)=.bool false:=rfl;rw[hgf];refine wnY (aI @cz @g5) ?_;refine lpI (X:=AV×Nat) (fun x=>[(1,.ptr 0 2 0),(2,.ptr 1 2 0),(4,.ptr 2 2 0),(6,.ptr 3 2 0),(7,.mp 4),(10,.int .i64 k),(11,x.1),(40,.int .i64 c),(41,.int .i64 k),(50,bu E),(51,.int .i64 E.length),(52,.int .i64 x.2)]) (fun x H' nx'=>x.2≤E.length∧nx≤nx'∧(∀b,b<nx→H' b=H b)∧Row H' 1 x.1 ((oX (E.take x.2) k).map (AV.int .i64))∧∀b,bF x.1=some b→nx≤b∧b<nx') (fun x=>E.length-x.2) (.msl nx 1 1 0 1,0) ⟨bB _,by omega,fun b hb=>ac (by omega),?_,fun b hb=>by cases hb;omega⟩ ?_
 ·exact Row.box nx 1 [.int .i64 k] ag rfl
 rintro⟨kv,j⟩ H' nx' ⟨h1,h2,h3,h4,h5⟩;dsimp only at h1 h2 h3 h4 h5 ⊢;by_cases hj:j<E.length
 ·have ix:=A3 hj;have hrm:=az (l:=E) hj;have hn:=hred.ne _ hrm;have ix0:=Hd hn;have hks:=Cz (E:=E) (q:=k) hj;have hul:=yN (E:=E.take j) (q:=k);rw[f0] at hul;have hha:=Gc (E.getD j default) k (by have:=fw (hred.asc _ hrm) (hEv _ hrm);omega) (hred.asc _ hrm);generalize E.getD j default=r at *;by_cases hin:(k:Int)∈r
  ·rw[if_pos hin] at hks;rw[aR hin] at hha;refine wnY (aI @ix @ix0) ?_;refine eR (h4.same fun b hb=>?_) ?_
   ·have:=h5 b hb;rw[ac (by omega)]
   rintro s2 H2 nx2 hr2 i1 i2 i3 i4;refine wnY and_self ?_;refine⟨(s2,j+1),by dsimp only;omega,⟨by dsimp only;omega,by omega,fun b hb=>?_,?_,fun b hb=>?_⟩,ag0⟩
   ·exact(i3 b (by omega) fun e=>by have:=h5 b e;omega).trans ((ac (by omega)).trans (h3 b hb))
   ·dsimp only;rw[hks,cu];exact hr2
   ·rcases i4 b hb with h|h
    ·have:=h5 b h;omega
    ·omega
  ·rw[if_neg hin,fP] at hks;rw[aU hin] at hha;refine wnY (aI @ix @ix0) ?_;refine⟨(kv,j+1),by dsimp only;omega,⟨by dsimp only;omega,h2,h3,by dsimp only;rw[hks];exact h4,h5⟩,ag0⟩
 obtain rfl:j=E.length:=by omega
 rw[fM (aO _)] at h4;have hul:=yN (E:=E) (q:=k);have hu0:0<(oX E k).length:=Nat.succ_pos _;obtain⟨B,rfl,hB⟩:=zB h4 hu0;have hBn:=h5 B rfl;refine wnY and_self ?_;refine be ev0 ev0 (hso hB hBn.2 rfl hu0 (by omega)) ?_;rintro _ H2 nx2 ⟨L',hps,hperm,hsrt⟩;obtain rfl:=Cv hred hlead hperm hsrt;have hlen:=hperm.length_eq;have q0:∀b,b<nx→H2 b=H b:=fun b hb=>(hps.fr b (by omega) (by omega)).trans (h3 b hb);have hle:=hps.le
 have hsn:Snap (only B ((uD E k).map (AV.int .i64))) (.msl B (oX E k).length 1 0 (oX E k).length) (aC (uD E k)):=by
  rw[←hlen];have:=Row.box (sz:=1) B (uD E k).length ((uD E k).map (AV.int .i64)) iL (by rw[bt,Nat.mul_one]);rw[Nat.mul_one] at this;exact this.snapI
 clear hB hperm hsrt h4 hul hu0;generalize uD E k=v at *;refine jz (a_n ?_);refine pr _ _ [(1,.ptr 0 2 0),(2,.ptr 1 2 0),(4,.ptr 2 2 0),(6,.ptr 3 2 0),(7,.mp 4),(11,aC v),(40,.int .i64 c),(41,.int .i64 k)] (Fz.one hps.at_) ⟨.inl rfl,.inl rfl,.inl rfl,.inl rfl,.inl rfl,.inr hsn,.inl rfl,.inl rfl,trivial⟩ ?_;have q:∀b,b<nx→dh H2 B b=H b:=fun b hb=>(cf (by omega)).trans (q0 b hb);clear hps q0 hsn;generalize dh H2 B=H4 at *;have q3:=(q 3 (by omega)).trans g6;have kll:=zY (E:=E) (k:=k);refine wnY @q3 ?_;refine eR (g8.same fun b hb=>?_) ?_
 ·have:=g9 b hb;rw[ac (by omega)];exact q b (by omega)
 rintro s2 H3 nx3 hr2 i1 i2 i3 i4;have hdo:∀b,b≤4→bF sv≠some b:=fun b hb e=>by have:=g9 b e;omega
 have lo2:∀b,b≤4→H3 b=H b:=fun b hb=>(i3 b (by omega) (hdo b hb)).trans ((ac (by omega)).trans (q b (by omega)))
 have hn2:∀b,bF s2=some b→4<b∧b<nx3:=fun b hb=>by
  rcases i4 b hb with h|h
  ·have:=g9 b h;omega
  ·omega
 have k6:=(lo2 3 (by omega)).trans g6;obtain⟨o1,o2⟩:=hr2.one;refine wnY (zI3 @k6 @o1 @o2) ?_;refine⟨(s2,k+1),by dsimp only;omega,⟨by dsimp only;omega,by omega,(ac (by omega)).trans ((lo2 0 (by omega)).trans g3),(ac (by omega)).trans ((lo2 1 (by omega)).trans g4),(ac (by omega)).trans ((lo2 2 (by omega)).trans g5),by rw[ag];rfl,(ac (by omega)).trans ((lo2 4 (by omega)).trans g7),?_,hn2⟩,ag0⟩;dsimp only;rw[hks,cu];exact hr2.same fun b hb=>by have:=hn2 b hb;rw[ac (by omega)]
end Go.Proofs.YtekdaafnjdlenaaGreat
namespace Go.Proofs.YtekdaafnjdlenaaGreat
open Go Go.Abs
theorem GA{R:List (List Int)}{n q:Nat}:(trF R n q).Pairwise (· < ·):=List.Pairwise.filter _ List.pairwise_lt_range
theorem Jm{R:List (List Int)}{c:Nat}(hR:R.length≤4096)(hc:c≤4096):gr R.length (trL c R):=by
 refine⟨by omega,by omega,by unfold trL;rw[bt,List.length_range];exact hc,fun r hr=>?_⟩;unfold trL at hr;obtain⟨q,hq,rfl⟩:=bK.1 hr;refine⟨fun v hv=>?_,?_,t5 (nf GA)⟩
 ·unfold dQ at hv;obtain⟨j,hj,rfl⟩:=bK.1 hv;unfold trF at hj;have:=dT.1 (gY.1 hj).1;omega
 ·unfold dQ;rw[bt];exact eZ B1 hR
def bdN(c:List Spx)(d:Nat):Nat:=(aB c ((d:Int)+1)).length
def bdM(c:List Spx)(d:Nat):List (List Int):=trL (aB c ((d:Int)+1+1)).length (dN (aB c ((d:Int)+1+1)) (aB c ((d:Int)+1)))
def bdE(c:List Spx)(d:Nat):List (List Int):=d6 (bdM c d) (bdN c d)
theorem D2{c:List Spx}{d:Nat}(hc:ay c=0)(hl:c.length≤50):gr (bdN c d) (bdM c d):=by
 have h1:=da hc hl (d:=(d:Int)+1);have h2:=da hc hl (d:=(d:Int)+1+1);have:=Jm (R:=dN (aB c ((d:Int)+1+1)) (aB c ((d:Int)+1))) (c:=(aB c ((d:Int)+1+1)).length) (by rw[gQ];omega) (by omega);rw[gQ] at this;exact this
theorem Ca{c:List Spx}{d:Nat}:(bdE c d).length≤bdN c d:=by unfold bdE d6;rw[bt];exact ku
attribute [local irreducible] aJ aj bf aX aP aQ aD aS a6 bk Go.Abs.Fn aV Go.Abs.Pure ar aK Yl
theorem uf(c:List Spx)(d:Nat)(hc:ay c=0)(hl:c.length≤50)(hd:d≤7)(H:Hp)(nx:Nat):
    Abs.Fn Tryz.prog 81 [bE c,.int .i64 d] H nx fun r H' nx'=>∃b,r=.tup [.ptr b 3 0,.int .i64 0]∧nx≤b∧b<nx'∧(∀x,x<nx→H' x=H x)∧H' b=some [.int .i64 (bdN c d),bu (bdE c d),.int .i64 (bdE c d).length]:=by
 refine fO M7 ?_;simp only[b81,aG];have he:=mL c (d+1) hc hl (by omega);have hs:=rL c d hc hl (by omega);have h2:=da hc hl (d:=(d:Int)+1+1);have h1:=da hc hl (d:=(d:Int)+1);rw[show((d+1:Nat):Int)=(d:Int)+1 by omega] at he;have ht:=yB (aB c ((d:Int)+1+1)).length (dN (aB c ((d:Int)+1+1)) (aB c ((d:Int)+1))) (kR (by omega) (by omega));rw[gQ] at ht;have hel:(bdE c d).length≤bdN c d:=Ca;have hec:pU 134 [dl (bdN c d) (bdM c d)] (.tup [dl (bdN c d) (bdE c d),.int .i64 0]):=nV _ _ (D2 hc hl);have hq:((aB c ((d:Int)+1)).length:Int)=bdN c d:=rfl;have hm:trL (aB c ((d:Int)+1+1)).length (dN (aB c ((d:Int)+1+1)) (aB c ((d:Int)+1)))=bdM c d:=rfl;rw[hm] at ht;rw[hq] at hs ht;have z0:decide ((0:Int)≠0)=false:=rfl;have z2:am c=am c:=rfl;generalize dN (aB c ((d:Int)+1+1)) (aB c ((d:Int)+1))=R at *;generalize (aB c ((d:Int)+1+1)).length=m at *;generalize bdM c d=M at *;generalize bdE c d=E at *;have hN:bdN c d≤3500:=h1;generalize bdN c d=n at *;have d1:Dat (.agg [.int .i64 m,bu R]):=cT m R;have d2:Dat (.agg [.int .i64 n,bu M]):=cT n M;rw[cE] at he ht hec;rw[cE] at ht hec;refine wnY (zI4 @z0 @ai @af @cz) ?_;exact⟨nx+3,rfl,by omega,by omega,fun x hx=>by(repeat rw[ac (by omega)]),ag⟩
end Go.Proofs.YtekdaafnjdlenaaGreat
namespace Go.Proofs.YtekdaafnjdlenaaGreat
open Go Go.Abs
def bsT(E:List (List Int))(n:Nat)(K:List (List Int)):Nat→List (List Int)
 |0=>[]
 |k+1=>if (d6 ((E++bsT E n K k)++[K.getD k default]) n).length=(d6 (E++bsT E n K k) n).length then bsT E n K k else bsT E n K k++[K.getD k default]
theorem B3{E:List (List Int)}{n:Nat}{K:List (List Int)}:∀{k:Nat},(bsT E n K k).length≤k
 |0=>aO _
 |k+1=>by
  have:=B3 (E:=E) (n:=n) (K:=K) (k:=k);unfold bsT;split
  ·omega
  ·rw[cS];simp only[bO,fA];omega
theorem xx{E:List (List Int)}{n:Nat}{K:List (List Int)}:∀{k:Nat},k≤K.length→∀v∈bsT E n K k,v∈K
 |0,_,v,h=>by cases h
 |k+1,hk,v,h=>by
  unfold bsT at h;split at h
  ·exact xx (by omega) v h
  ·rcases eD.1 h with h|h
   ·exact xx (by omega) v h
   ·rw[de] at h;subst h;exact az (by omega)
theorem Gn{E:List (List Int)}{n:Nat}(hE:Red E)(hv:∀r∈E,∀z∈r,0≤z∧z<(n:Int)):d6 E n=E:=by
 obtain⟨h1,h2,-⟩:=lf hE.asc hv;exact sM h1 hE h2
theorem zd{c:Int}{R S:List (List Int)}(h:gr c R)(hl:S.length≤4096)(hs:∀r∈S,r∈R):gr c S:=⟨h.1,h.2.1,hl,fun r hr=>h.2.2.2 r (hs r hr)⟩
theorem y5{c:Int}{R S:List (List Int)}(h:gr c R)(h2:gr c S)(hl:R.length+S.length≤4096):gr c (R++S):=⟨h.1,h.2.1,by rw[cS];exact hl,fun r hr=>(eD.1 hr).elim (h.2.2.2 r) (h2.2.2.2 r)⟩
attribute [local irreducible] aJ aj bf aX aP aQ aD aS a6 bk Go.Abs.Fn aV Go.Abs.Pure ar aK Yl
theorem Gi(c:List Spx)(d:Nat)(H:Hp)(nx:Nat):Abs.Fn Tryz.prog 50 [bE c,.int .i64 d] H nx fun r H' nx'=>r=.func 102 [.ptr nx 1 0,.ptr (nx+1) 1 0]∧H'=aq (aq H nx [am c]) (nx+1) [.int .i64 d]∧nx'=nx+2:=by
 refine fO Nt ?_;simp only[b50,aG];refine wnY (aI @ai @af) ?_;exact⟨rfl,rfl,rfl⟩
end Go.Proofs.YtekdaafnjdlenaaGreat
namespace Go.Proofs.YtekdaafnjdlenaaGreat
open Go Go.Abs
theorem jf.same{H H':Hp}{s:AV}{l:List (List Int)}(h:jf H s l)(hs:∀b,bF s=some b→H' b=H b):jf H' s l:=by
 rcases h with h|h
 ·exact .inl h
 ·exact .inr (h.same hs)
theorem tQ{c:List Spx}:bE c=.agg [am c]:=rfl
def bsK(c:List Spx)(d:Nat):List (List Int):=sZ (d6 (dN (aB c ((d:Int)+1)) (aB c d)) (bdN c d)) (bdN c d)
theorem DZ{c:List Spx}{d:Nat}(hc:ay c=0)(hl:c.length≤50):gr (bdN c d) (dN (aB c ((d:Int)+1)) (aB c d)):=by
 have h1:=da hc hl (d:=(d:Int)+1);have h2:=da hc hl (d:=(d:Int));exact kR (X:=aB c ((d:Int)+1)) (Y:=aB c d) (by omega) (by omega)
theorem py{c:Nat}{R:List (List Int)}(h:gr c R):∀r∈R,∀z∈r,0≤z∧z<(c:Int):=fun r hr=>(h.2.2.2 r hr).1
theorem Ch{c:Nat}{R:List (List Int)}(hc:c≤4096)(hl:R.length≤4096)(ha:∀r∈R,bz r)(hv:∀r∈R,∀z∈r,0≤z∧z<(c:Int)):gr c R:=
 ⟨by omega,by omega,hl,fun r hr=>⟨hv r hr,by have:=fw (ha r hr) (hv r hr);omega,t5 (ha r hr)⟩⟩
theorem Bo{c:Nat}{R:List (List Int)}(h:gr c R):Red (d6 R c)∧(∀v,Sp (d6 R c) v↔Sp R v)∧(∀r∈d6 R c,∀z∈r,0≤z∧z<(c:Int))∧(d6 R c).length≤c:=by
 obtain⟨h1,h2,-⟩:=lf (fk h) (py h);exact⟨h1,h2,fun r hr=>kV (fk h) (py h) ((h2 r).1 (eA hr)),by unfold d6;rw[bt];exact ku⟩
theorem Jc{E:List (List Int)}{c:Nat}(hE:Red E)(hv:∀r∈E,∀z∈r,0≤z∧z<(c:Int)):∀v∈sZ E c,bz v∧∀z∈v,0≤z∧z<(c:Int):=fun v h=>by
 unfold sZ at h;obtain⟨q,hq,rfl⟩:=bK.1 h;have hq:=gY.1 hq;have hqc:=dT.1 hq.1;obtain⟨k1,k2⟩:=s7 hE (pW hq.2);refine⟨k1,fun z hz=>?_⟩;rcases(k2 z).1 hz with rfl|⟨r,hr,_,rfl⟩
 ·omega
 ·exact hv r hr _ (dj (hE.ne r hr))
theorem Fp{c:List Spx}{d:Nat}(hc:ay c=0)(hl:c.length≤50):gr (bdN c d) (bsK c d)∧(bsK c d).length≤bdN c d:=by
 have hn:bdN c d≤3500:=da hc hl;obtain⟨h1,-,h2,-⟩:=Bo (DZ (d:=d) hc hl);have hk:=Jc h1 h2;have hll:(bsK c d).length≤bdN c d:=zY;exact⟨Ch (by omega) (by omega) (fun v h=>(hk v h).1) fun v h=>(hk v h).2,hll⟩
theorem Ix{c:List Spx}{d:Nat}(hc:ay c=0)(hl:c.length≤50):gr (bdN c d) (bdE c d)∧Red (bdE c d)∧(∀v,Sp (bdE c d) v↔Sp (bdM c d) v):=by
 have hn:bdN c d≤3500:=da hc hl;obtain⟨h1,h2,h3,h4⟩:=Bo (D2 (d:=d) hc hl);exact⟨Ch (by omega) (eZ h4 (by omega)) h1.asc h3,h1,h2⟩
def G2(o:Option Nat):List Nat:=match o with|some x=>[x]|none=>[]
theorem y7{o:Option Nat}{x:Nat}:x∈G2 o↔o=some x:=by cases o<;>simp[G2];exact eq_comm
attribute [local irreducible] aJ aj bf aX aP aQ aD aS a6 bk Go.Abs.Fn aV Go.Abs.Pure ar aK Yl
set_option maxHeartbeats 1000000 in
theorem F9{y cb db:Nat}(c:List Spx)(d:Nat)(hso:qC (bdN c d+1))(hc:ay c=0)(hl:c.length≤50)(hd:d≤7)(hn:bdN c d≤1000)(H:Hp)(nx:Nat)(I:List Nat→List (List Int)→Hp→Nat→Prop)
    (g1:H cb=some [am c]) (g2:H db=some [.int .i64 d]) (hcb:cb<nx) (hdb:db<nx)
    (st:∀F F' D H nx H' nx',I F D H nx→nx≤nx'→(∀x,x<nx→x∉F→H' x=H x)→(∀x∈F',x∈F∨nx≤x∧x<nx')→I F' D H' nx')
    (rnd:∀F D v H nx,I F D H nx→v∈bsK c d→D.length≤1000→Yl Tryz.prog y [aC v,.int .i64 0] H nx fun r H' nx'=>r=.bool true∧nx≤nx'∧(∀x∈F,H' x=H x)∧I F (D++[v]) H' nx')
    (h0:I [] [] H nx):
    Abs.Fn Tryz.prog 102 [.yld y,.ptr cb 1 0,.ptr db 1 0] H nx fun _ H' nx'=>∃F,I F (bsT (bdE c d) (bdN c d) (bsK c d) (bsK c d).length) H' nx':=by
 refine fO L8 ?_;simp only[LW,aG];have hbd:=fun H nx=>uf c d hc hl hd H nx;have he:=mL c d hc hl (by omega);have hk:=D1 _ _ (DZ (d:=d) hc hl) hso;rw[show sZ (d6 (dN (aB c ((d:Int)+1)) (aB c d)) (bdN c d)) (bdN c d)=bsK c d from rfl] at hk;rw[show(((aB c ((d:Int)+1)).length:Nat):Int)=(bdN c d:Int) from rfl] at he;obtain⟨mE,rE,-⟩:=Ix (d:=d) hc hl;obtain⟨mK,lK⟩:=Fp (d:=d) hc hl;have lE:(bdE c d).length≤bdN c d:=Ca;have eE:=Gn rE (py mE);have hd1:Dat (.agg [.int .i64 (bdN c d),bu (dN (aB c ((d:Int)+1)) (aB c d))]):=cT _ _;rw[tQ] at hbd he;rw[cE] at he;rw[cE,cE] at hk;generalize dN (aB c ((d:Int)+1)) (aB c d)=R at *;have dcx:Dat (.agg [am c]):=cw c;generalize bdE c d=E at *;generalize bdN c d=n at *;generalize bsK c d=K at *;have z0:decide ((0:Int)≠0)=false:=rfl;have z1:decide ((0:Int)=0)=true:=rfl;refine wnY (aI @g1 @g2) ?_;refine be ev0 ev0 (hbd _ _) ?_;rintro _ H1 nx1 ⟨b,rfl,b1,b2,b3,b4⟩;have g1':=(b3 cb hcb).trans g1;have g2':=(b3 db hdb).trans g2;refine wnY (zI5 @g1' @g2' @z0 @z1 @cz) ?_;refine lpI (X:=AV×Nat) (fun x=>[(0,.yld y),(4,.ptr b 3 0),(39,bu K),(40,.int .i64 K.length),(41,.int .i64 x.2)]) (fun x H' nx'=>x.2≤K.length∧I (b::G2 (bF x.1)) (bsT E n K x.2) H' nx'∧H' b=some [.int .i64 n,x.1,.int .i64 (d6 (E++bsT E n K x.2) n).length]∧jf H' x.1 (E++bsT E n K x.2)∧b<nx'∧∀z,bF x.1=some z→z<nx'∧z≠b) (fun x=>K.length-x.2) (bu E,0) ⟨bB _,?_,?_,?_,by omega,fun z h=>?_⟩ ?_
 ·refine st [] _ [] _ nx _ _ h0 (by omega) (fun x hx _=>?_) (fun x hx=>?_)
  ·(repeat rw[ac (by omega)])
   exact b3 x hx
  ·rcases cW.1 hx with rfl|hx
   ·exact .inr ⟨by omega,by omega⟩
   ·cases hx
 ·(repeat rw[ac (by omega)])
  show H1 b=some [.int .i64 n,bu E,.int .i64 (d6 (E++[]) n).length];rw[fP,eE];exact b4
 ·refine .inl ?_;show bu E=bu (E++[]);rw[fP]
 ·exact by cases h
 clear h0 b3 b4 g1' g2' g1 g2;rintro⟨rv,k⟩ H' nx' ⟨h1,h2,h3,h4,h5,h6⟩;dsimp only at h1 h2 h3 h4 h5 h6 ⊢;by_cases hk2:k<K.length
 rotate_left
 ·obtain rfl:k=K.length:=by omega
  refine wnY and_self ?_;exact⟨_,h2⟩
 have ix:=A3 hk2;have hTl:=B3 (E:=E) (n:=n) (K:=K) (k:=k);have hTm:=xx (E:=E) (n:=n) (K:=K) h1;have hss:bsT E n K (k+1)=if (d6 ((E++bsT E n K k)++[K.getD k default]) n).length=(d6 (E++bsT E n K k) n).length then bsT E n K k else bsT E n K k++[K.getD k default]:=rfl
 have hvm:K.getD k default∈K:=az hk2;generalize K.getD k default=v at *;have mS:gr n ((E++bsT E n K k)++[v]):=y5 (y5 mE (zd mK (by omega) hTm) (by omega)) (zd mK (by simp) fun r hr=>by rw[de] at hr;rw[hr];exact hvm) (by rw[cS];simp only[bO,fA];omega);have hadd:=Lc n (E++bsT E n K k) (d6 (E++bsT E n K k) n).length v rv b H' nx' mS h3 h5 h4 fun x hx=>(h6 x hx).1;generalize hT:bsT E n K k=D at *;refine wnY @ix ?_;refine be ev0 ev0 hadd ?_;rintro _ H2 nx2 ⟨q1,q2,q3⟩;rcases q3 with⟨e1,rfl,e3⟩|⟨e1,rfl,wv,e3,e4,e5⟩
 ·rw[if_pos e1] at hss;refine wnY @z0 ?_;refine⟨(rv,k+1),by dsimp only;omega,⟨by dsimp only;omega,?_,?_,?_,by omega,fun z hz=>by have:=h6 z hz;omega⟩,ag0⟩
  ·dsimp only;rw[hss];exact st _ _ _ _ _ _ _ h2 q1 (fun x hx hF=>q2 x hx fun e=>hF (by rw[e];exact dq ..)) fun x hx=>.inl hx
  ·dsimp only;rw[hss,e3];exact h3
  ·dsimp only;rw[hss];exact h4.same fun z hz=>q2 z (h6 z hz).1 (h6 z hz).2
 rw[if_neg e1] at hss
 have hI2:I (b::G2 (bF wv)) D H2 nx2:=st _ _ _ _ _ _ _ h2 q1 (fun x hx hF=>q2 x hx fun e=>hF (by rw[e];exact dq ..)) fun x hx=>by
  rcases cW.1 hx with rfl|hx
  ·exact .inl (dq ..)
  ·exact .inr (e5 x (y7.1 hx))
 refine wnY @z0 ?_;refine w7 ev0 ev0 (Yl.mono (rnd _ D v _ _ hI2 hvm (by omega)) ?_);rintro _ H3 nx3 ⟨rfl,r1,r2,r3⟩;refine wnY @z0 ?_;refine⟨(wv,k+1),by dsimp only;omega,⟨by dsimp only;omega,?_,?_,?_,by omega,fun z hz=>?_⟩,ag0⟩
 ·dsimp only;rw[hss];exact r3
 ·dsimp only;rw[hss,r2 b (dq ..),e3,lN]
 ·dsimp only;rw[hss,←lN];exact e4.same fun z hz=>r2 z (ew _ (y7.2 hz))
 ·have:=e5 z hz;omega
end Go.Proofs.YtekdaafnjdlenaaGreat
namespace Go.Proofs.YtekdaafnjdlenaaGreat
open Go Go.Abs
theorem xD{c:List Spx}:∀{k:Nat},k≤c.length→∀i,i<k→((c.getD i default).length:Int)≤(kp c k).2
 |0,_,i,hi=>absurd hi (by omega)
 |k+1,hk,i,hi=>by
  unfold kp;dsimp only;rcases(by omega:i<k∨i=k) with h|rfl
  ·have:=xD (c:=c) (k:=k) (by omega) i h;omega
  ·omega
theorem x5{c:List Spx}{m k:Nat}(hm:fW c=m)(hk:m<k):gq c k=[]:=by
 refine ur.2 fun s hs=>?_;obtain⟨t,ht,h⟩:=rY.1 hs;obtain⟨h1,h2⟩:=d7.1 h;have h3:=h1.length_le;obtain⟨i,hi,e⟩:=jp ht;have h4:=xD (c:=c) (aO _) i hi;rw[show c.getD i default=t by simp[List.getD,hi,e]] at h4;unfold fW at hm;omega
theorem mZ{c:List Spx}{n:Nat}:aB c ((n:Int)+1)=gq c (n+1):=by
 have:=yr (c:=c) (k:=n+1);rw[if_neg (by omega)] at this;exact this
theorem BO{c:List Spx}{m k:Nat}(hm:fW c=m)(hk:m≤k):rkF c k=0:=by
 have:=nX (c:=c) (d:=k);rw[mZ,x5 hm (by omega)] at this;simpa using this
theorem qL{b:List Int}:∀{a:List Int},cH (fun j=>bit j b) a=(a.filter fun x=>decide (x∈b)).length
 |[]=>rfl
 |x::a=>by
  have ih:=qL (b:=b) (a:=a);show bit x b+cH _ a=_;rw[ih];by_cases h:x∈b
  ·rw[A4 (by simpa using h),bO];unfold bit;rw[if_pos h];omega
  ·rw[AY (by simpa using h)];unfold bit;rw[if_neg h];omega
theorem Aj{a b:List Int}(ha:bz a)(hb:bz b):jI a b=rn b a:=by
 unfold jI rn;have:=pp _ a b (aO _) ha hb;rw[qL];refine decide_eq_decide.2 ?_;omega
theorem mi{g:Int→Nat}{b:List Int}:∀{a:List Int},cH g (a++b)=cH g a+cH g b
 |[]=>by show _=0+_;rw[ce];rfl
 |x::a=>by
  have ih:=mi (g:=g) (b:=b) (a:=a);show g x+cH g (a++b)=g x+cH g a+cH g b;rw[ih];omega
theorem uG{g:Int→Nat}:∀{a:List Int},(∀z∈a,g z=0)→cH g a=0
 |[],_=>rfl
 |x::a,h=>by
  show g x+cH g a=0;rw[h x dq,uG fun z hz=>h z (ew _ hz)]
structure VR(c:Nat)(R:List (List Int)):Prop where
 asc:∀r∈R,bz r
 rng:∀r∈R,∀z∈r,0≤z∧z<(c:Int)
def rk(R:List (List Int))(c:Nat):Nat:=(d6 R c).length
theorem VR.app{c:Nat}{R S:List (List Int)}(h1:VR c R)(h2:VR c S):VR c (R++S):=
 ⟨fun r hr=>(eD.1 hr).elim (h1.asc r) (h2.asc r),fun r hr=>(eD.1 hr).elim (h1.rng r) (h2.rng r)⟩
theorem VR.sub{c:Nat}{R S:List (List Int)}(h:VR c R)(hs:∀r∈S,r∈R):VR c S:=⟨fun r hr=>h.asc r (hs r hr),fun r hr=>h.rng r (hs r hr)⟩
theorem VR.one{c:Nat}{v:List Int}(ha:bz v)(hv:∀z∈v,0≤z∧z<(c:Int)):VR c [v]:=⟨fun r hr=>by rw[de] at hr;rw[hr];exact ha,fun r hr=>by rw[de] at hr;rw[hr];exact hv⟩
theorem VR.nil{c:Nat}:VR c []:=⟨fun _ h=>(by cases h),fun _ h=>(by cases h)⟩
structure KerV(R:List (List Int))(c:Nat)(x:List Int):Prop where
 asc:bz x
 rng:∀z∈x,0≤z∧z<(c:Int)
 dot:∀r∈R,cH (fun z=>bit z r) x%2=0
theorem zb{L:List Ln}{w:List Int}{z:Int}:z∈lU L w↔ ∃l∈L,jI l.2 w=true∧ld l.1=z:=by
 unfold lU;simp only[bK,gY];exact⟨fun⟨l,⟨h1,h2⟩,h3⟩=>⟨l,h1,h2,h3⟩,fun⟨l,h1,h2,h3⟩=>⟨l,⟨h1,h2⟩,h3⟩⟩
theorem EM{M:List Ln}{c:Nat}{w:List Int}(hM:RedU M):bz (lU (lM M c) w):=by
 unfold lU bz;rw[List.pairwise_map];exact(ol hM).sublist EG
theorem x6{M:List Ln}{c:Nat}{w:List Int}(hM:RedU M):∀z∈lU (lM M c) w,0≤z∧z<(c:Int):=fun z hz=>by
 obtain⟨l,h1,_,rfl⟩:=zb.1 hz;exact((po hM).1 h1).2
theorem DG{R:List (List Int)}{c:Nat}{w:List Int}(hR:∀r∈R,bz r)(hv:∀r∈R,∀z∈r,0≤z∧z<(c:Int))(hw:bz w)(h0:∀y∈(stE R R.length).2,rn w y=false){i:Nat}(hi:i<R.length):cH (fun z=>bit z (lU (lL R c) w)) (R.getD i default)%2=bit (i:Int) w:=by
 have hsy:=CM hR hv h0;obtain⟨w1,w2,w3⟩:=nQ (b:=w) hR hv;obtain⟨e1,e2,e3⟩:=lf w1 w2;rw[sD w1 w2] at hsy;have hs:=iZ hR (aO R.length);have hM:=hs.red;have d3:=(lf hR hv).2.2;have hlv:∀l∈(stE R R.length).1,∀z∈l.1,0≤z∧z<(c:Int):=fun l hl=>kV hR hv (li (fun r hr=>jq hr) (hs.inS l hl))
 have hxm:∀z,z∈lU (lL R c) w↔ ∃l∈(stE R R.length).1,jI l.2 w=true∧ld l.1=z:=fun z=>by
  rw[zb];exact⟨fun⟨l,h1,h2⟩=>⟨l,(d3 l).1 h1,h2⟩,fun⟨l,h1,h2⟩=>⟨l,(d3 l).2 h1,h2⟩⟩
 have hxc:∀z∈lU (lL R c) w,z<(c:Int):=fun z hz=>(x6 hM z hz).2;generalize lU (lL R c) w=x at *
 have hgz:∀z:Int,z<(c:Int)→bit z (x++[(c:Int)])=bit z x:=fun z hz=>by
  unfold bit;by_cases h:z∈x
  ·rw[if_pos h,if_pos (eD.2 (.inl h))]
  ·rw [if_neg h,if_neg fun q=>by
     rcases eD.1 q with q|q
     ·exact h q
     ·have:=de.1 q;omega]
 have hgc:bit (c:Int) (x++[(c:Int)])=1:=dB.2 (eD.2 (.inr (de.2 rfl)));have hwi:(lu R c w).getD i default∈lu R c w:=az (by unfold lu;simpa using hi);have hsp:=(e2 _).2 (eA hwi);rw[hsy,zj hi] at hsp
 have hz:=Ci (g:=fun z=>bit z (x++[(c:Int)])) hsp fun d hd=>by
  obtain⟨l,hl,rfl⟩:=bK.1 hd;have hl:=(d3 l).1 hl;have hla:=hM.asc l hl;have hne:=hM.ne l hl;have hsame:∀l'∈(stE R R.length).1,ld l'.1∈l.1→l=l':=fun l' hl' h=>hM.own l' hl' l hl h;have hlc:=hlv l hl
  have hld:cH (fun z=>bit z (x++[(c:Int)])) l.1=bit (ld l.1) x:=by
   have hldm:=dj hne;cases hq:l.1 with
   |nil=>exact absurd hq hne
   |cons z t=>
    rw[hq] at hldm hsame hlc hla;have hz:ld (z::t)=z:=rfl;rw[hz];show bit z (x++[(c:Int)])+cH _ t=_;rw[hgz z (hlc z dq).2,uG (a:=t) fun u hu=>?_]
    ·omega
    ·have huc:=hlc u (ew _ hu);rw[hgz u huc.2];unfold bit;rw[if_neg fun hux=>?_];obtain⟨l',h1,_,h3⟩:=(hxm u).1 hux;have h4:=hsame l' h1 (by rw[h3];exact ew _ hu);have h5:=(gU.1 hla.1).1 u hu;rw[←h4,hq] at h3;have:ld (z::t)=z:=rfl;omega
  have hbx:bit (ld l.1) x=if rn w l.2=true then 1 else 0:=by
   rw[←Aj hla.2 hw];unfold bit;by_cases h:jI l.2 w=true
   ·rw[if_pos ((hxm _).2 ⟨l,hl,h,rfl⟩),if_pos h]
   ·rw[if_neg fun q=>?_,if_neg h];obtain⟨l',h1,h2,h3⟩:=(hxm _).1 q;have:=hsame l' h1 (by rw[h3];exact dj hne);rw[this] at h;exact h h2
  unfold wdL;by_cases h:rn w l.2=true
  ·rw[if_pos h,mi,hld,hbx,if_pos h];show(1+(bit (c:Int) (x++[(c:Int)])+0))%2=0;rw[hgc]
  ·rw[if_neg h,hld,hbx,if_neg h]
 have hri:=hv _ (az hi);have hcg:cH (fun z=>bit z (x++[(c:Int)])) (R.getD i default)=cH (fun z=>bit z x) (R.getD i default):=kU fun z hz=>hgz z (hri z hz).2;unfold wdR at hz;by_cases h:(i:Int)∈w
 ·rw[if_pos h,mi,hcg] at hz;have hz:(cH (fun z=>bit z x) (R.getD i default)+(bit (c:Int) (x++[(c:Int)])+0))%2=0:=hz;rw[hgc] at hz;unfold bit at hz ⊢;rw[if_pos h];omega
 ·rw[if_neg h,hcg] at hz;unfold bit at hz ⊢;rw[if_neg h];exact hz
attribute [local irreducible] aJ aj bf aX aP aQ aD aS a6 bk Go.Abs.Fn aV Go.Abs.Pure ar aK Yl
end Go.Proofs.YtekdaafnjdlenaaGreat
namespace Go.Proofs.YtekdaafnjdlenaaGreat
open Go Go.Abs
theorem BE{n:Nat}{x:List Int}(ha:bz x)(hr:∀z∈x,0≤z∧z<(n:Int)):sW n x=0:=by
 unfold sW;refine dG fun k hk=>?_;rw[sI];have h1:=hr _ (az hk);rw[if_neg (by omega),if_neg];rintro⟨h0,h2⟩;have h3:=kJ.1 ha (k-1) k (by omega) hk (by omega);have e1:x.getD k default=x[k]:=by simp[List.getD,hk]
 have e2:x.getD (k-1) default=x[k-1]:=by simp[List.getD,show k-1<x.length by omega]
 omega
def cyT(c:List Spx)(d:Nat):List (List Spx):=(bsT (bdE c d) (bdN c d) (bsK c d) (bsK c d).length).map (en (aB c ((d:Int)+1)))
theorem EU{H:Hp}{s:AV}{l:List (List Spx)}(h:Row H 1 s (l.map am)):Snap H s (fH l):=h.snapL' (fun _=>rfl) (fun x _=>bI x)
attribute [local irreducible] aJ aj bf aX aP aQ aD aS a6 bk Go.Abs.Fn aV Go.Abs.Pure ar aK Yl
theorem CA(c:List Spx)(d:Nat)(hso:qC (bdN c d+1))(hc:ay c=0)(hl:c.length≤50)(hd:d≤7)(hn:bdN c d≤1000):pU 18 [bE c,.int .i64 d] (.tup [fH (cyT c d),.int .i64 0]):=by
 refine pO NY ?_;simp only[b18,aG];have hch:=nZ c hc hl;obtain⟨mK,lK⟩:=Fp (d:=d) hc hl
 have hchn:∀v∈bsK c d,pU 34 [bE c,.int .i64 d,aC v] (.tup [am (en (aB c ((d:Int)+1)) v),.int .i64 0]):=fun v hv=>by
  have:=wR c d v hl (jn hc) (by have:=(mK.2.2.2 v hv).2.1;omega);have hz:sW (aB c ((d:Int)+1)).length v=0:=BE (fk mK v hv) (py mK v hv)
  have e:Af c d v=(en (aB c ((d:Int)+1)) v,0):=by
   unfold Af;rw[if_neg (fun q=>q hc),if_neg (by omega),if_neg (fun q=>q hz)]
  rw[e] at this;exact this
 unfold cyT;generalize aB c ((d:Int)+1)=X at *;have z0:decide ((0:Int)≠0)=false:=rfl;have z1:decide ((d:Int)<0)=false:=aU (by omega);have z2:decide ((8:Int)≤d)=false:=aU (by omega);refine wnY (zI5 @z0 @z1 @z2 @ai @af) ?_;refine be ev0 ev0 (Gi c d _ _) ?_;rintro _ H1 nx1 ⟨rfl,rfl,rfl⟩;refine wnY and_self ?_;refine mW 7 8 rfl rfl ev0 (fun c0 cj hy=>?_);refine Abs.Fn.mono (F9 (nx:=8) (cb:=5) (db:=6) c d hso hc hl hd hn _ (I:=fun F D H' nx'=>8≤nx'∧H' 0=some [am c]∧H' 1=some [.int .i64 d]∧H' 2=some [.esl]∧H' 3=some [.int .i64 0]∧H' 7=some [c0]∧(∀x∈F,8≤x∧x<nx')∧∃sv,H' 4=some [sv]∧Row H' 1 sv ((D.map (en X)).map am)∧∀b',bF sv=some b'→8≤b'∧b'<nx'∧b'∉F) ?_ ?_ (by omega) (by omega) ?_ ?_ ?_) ?_
 ·rfl
 ·rfl
 ·rintro F F' D H nx H' nx' ⟨h1,h2,h3,h4,h5,h6,h7,sv,h8,h9,h10⟩ hle hs hF;have lo:∀x,x<8→H' x=H x:=fun x hx=>hs x (by omega) fun e=>by have:=h7 x e;omega
  refine⟨by omega,(lo 0 (by omega)).trans h2,(lo 1 (by omega)).trans h3,(lo 2 (by omega)).trans h4,(lo 3 (by omega)).trans h5,(lo 7 (by omega)).trans h6,fun x hx=>?_,sv,(lo 4 (by omega)).trans h8,h9.same fun b hb=>?_,fun b hb=>?_⟩
  ·rcases hF x hx with h|h
   ·have:=h7 x h;omega
   ·omega
  ·obtain⟨p1,p2,p3⟩:=h10 b hb;exact hs b p2 p3
  ·obtain⟨p1,p2,p3⟩:=h10 b hb;refine⟨p1,by omega,fun e=>?_⟩;rcases hF b e with h|h
   ·exact p3 h
   ·omega
 ·rintro F D v H' nx' ⟨h1,h2,h3,h4,h5,h6,h7,sv,h8,h9,h10⟩ hv hDl;refine hy _ _ _ _ h6 rfl ?_;clear hy;refine wnZ and_self ?_;refine⟨h6,?_⟩;have hdo:∀x,x≠7→dh H' 7 x=H' x:=fun x b=>cf b;have hcv:=hchn v hv;rw[tQ] at hcv;have dcx:Dat (.agg [am c]):=cw c;generalize hH1:dh H' 7=H1 at *;have g2:=(hdo 0 (by omega)).trans h2;have g3:=(hdo 1 (by omega)).trans h3;have g4:=(hdo 4 (by omega)).trans h8;generalize hpv:en X v=pv at *;refine wnY (zI6 @g2 @g3 @g4 @z0 @ai @af) ?_;refine iW rfl ev0 (h9.same fun b' hb'=>?_) ev0 fv rfl rfl lC (by rw[bt,bt];omega) (by rw[bt,bt];omega) ?_
  ·have:=h10 b' hb';rw[ac (by omega)];exact hdo _ (by omega)
  rintro sv' H3 nx3 r1 r2 r3 r4 r5;have zs:∀x,x<8→bF sv≠some x:=fun x hx e=>by have:=h10 x e;omega
  have z:∀x,x<nx'→x≠7→bF sv≠some x→H3 x=H' x:=fun x a1 a2 a3=>(r4 x (by omega) a3).trans (by rw[ac (by omega)];exact hdo x a2);have k4:H3 4=some [sv]:=(z 4 (by omega) (by omega) (zs _ (by omega))).trans h8;obtain⟨q1,q2⟩:=r1.one;refine wnY (zI3 @k4 @q1 @q2) ?_;have w:∀x,x≠4→x≠7→aq (aq H3 4 [sv']) 7 [c0] x=H3 x:=fun x a1 a2=>by rw[ac a2,ac a1]
  have u8:∀b',bF sv'=some b'→8≤b'∧b'<nx3∧b'∉F:=fun b' hb'=>by
   rcases r5 b' hb' with e|⟨e1,e2⟩
   ·obtain⟨p1,p2,p3⟩:=h10 b' e;exact⟨p1,by omega,p3⟩
   ·exact⟨by omega,by omega,fun e=>by have:=h7 b' e;omega⟩
  refine⟨rfl,by omega,fun x hx=>?_,by omega,(w 0 (by omega) (by omega)).trans ((z 0 (by omega) (by omega) (zs _ (by omega))).trans h2),(w 1 (by omega) (by omega)).trans ((z 1 (by omega) (by omega) (zs _ (by omega))).trans h3),(w 2 (by omega) (by omega)).trans ((z 2 (by omega) (by omega) (zs _ (by omega))).trans h4),(w 3 (by omega) (by omega)).trans ((z 3 (by omega) (by omega) (zs _ (by omega))).trans h5),ag,fun x hx=>?_,sv',?_,?_,u8⟩
  ·have:=h7 x hx;refine(w x (by omega) (by omega)).trans ?_;exact z x (by omega) (by omega) fun e=>(h10 x e).2.2 hx
  ·have:=h7 x hx;omega
  ·exact(ac (by omega)).trans ag
  ·rw[cu,cu,show [v].map (en X)=[pv] by rw[←hpv];rfl];exact r1.same fun b' hb'=>w b' (by have:=u8 b' hb';omega) (by have:=u8 b' hb';omega)
 ·refine⟨aO _,rfl,rfl,rfl,rfl,ag,fun x hx=>(by cases hx),.esl,rfl,.nil,fun b' hb'=>(by cases hb')⟩
 ·rintro r H' nx' ⟨F,h1,h2,h3,h4,h5,h6,h7,sv,h8,h9,h10⟩;refine .inl ⟨h6,?_⟩;obtain⟨q1,q2⟩:=h9.one;have lo:∀x,x≠7→dh H' 7 x=H' x:=fun x b=>cf b;have k1:Row (dh H' 7) 1 sv (((bsT (bdE c d) (bdN c d) (bsK c d) (bsK c d).length).map (en X)).map am):=h9.same fun b' hb'=>lo b' (by have:=h10 b' hb';omega);have k2:=(lo 2 (by omega)).trans h4;have k3:=(lo 3 (by omega)).trans h5;have k4:=(lo 4 (by omega)).trans h8;generalize dh H' 7=H1 at *;refine wnY (zI5 @k2 @k3 @k4 @q1 @q2) ?_;refine br (ah (EU (k1.same fun b' hb'=>?_)) (ah (.int _ _) ak));have:=h10 b' hb';rw[ac (by omega),ac (by omega)]
theorem Ef(c:List Spx)(m:Nat)(hc:ay c=0)(hl:c.length≤50)(hm:fW c=m)(hm8:m≤8)(G:Hp)(n0:Nat):Abs.Fn Tryz.prog 44 [bE c] G n0 fun r H' nx'=>∃sv,r=.tup [sv,.int .i64 0]∧Row H' 1 sv ((btL c m).map (AV.int .i64))∧n0≤nx'∧(∀x,x<n0→H' x=G x)∧∀b,bF sv=some b→n0≤b∧b<nx':=by
 refine fO Ku ?_;simp only[b44,aG];have hdi:=oQ c hc hl;rw[hm] at hdi;have z0:decide ((0:Int)≠0)=false:=rfl;have hed:=fun d(h:d≤8)=>mL c d hc hl h;have hsz:=fun d(h:d≤8)=>rL c d hc hl h;have hrl:=fun d:Int=>da hc hl (d:=d);have hrk:=fun d:Nat=>AW (aB c ((d:Int)+1)).length (dN (aB c ((d:Int)+1)) (aB c d)) (kR (by have:=hrl ((d:Int)+1);omega) (by have:=hrl d;omega));have hrf:=fun d:Nat=>nX (c:=c) (d:=d);refine wnY (zI3 @z0 @ai @af) ?_;refine uQ ?_;refine wnY and_self ?_;refine lpI (X:=Nat) (fun k=>[(1,.ptr n0 1 0),(4,.int .i64 ((m:Int)-1)),(7,.mp (n0+1)),(26,.int .i64 ((m:Int)-1+2)),(27,.int .i64 k)]) (fun k H nx=>k≤m+1∧n0+2≤nx∧H n0=some [am c]∧H (n0+1)=some [.omap ((rkK k).map (AV.int .i64)) (rkV c k)]∧∀x,x<n0→H x=G x) (fun k=>m+1-k) 0 ⟨bB _,aO _,(ac (by omega)).trans ag,ag,fun x hx=>by rw[ac (by omega),ac (by omega)]⟩ ?_;rintro k H nx ⟨g1,g2,g3,g4,gl⟩;by_cases hk:k<m+1
 ·have hed1:=hed k (by omega);have hrk1:=hrk k;have hr1:=hrl ((k:Int)+1);have hd1:Dat (dl (aB c ((k:Int)+1)).length (dN (aB c ((k:Int)+1)) (aB c k))):=cT _ _;change pU 97 _ (.tup [.int .i64 (rkF c k),.int .i64 0]) at hrk1;rw[cE] at hed1 hrk1 hd1;generalize dN (aB c ((k:Int)+1)) (aB c k)=R at *;generalize (aB c ((k:Int)+1)).length=n at *;have z1:decide ((k:Int)<(m:Int)-1+2)=true:=aR (by omega);refine wnY (zI5 @g3 @z0 @z1 @ai @af) ?_;have hmf:=ib (k:Int) (rkK k);rw[if_neg (fun q=>by have:=kH.1 q;omega)] at hmf;refine pz ev0 ((ac (by omega)).trans ((ac (by omega)).trans g4)) ev0 ev0 rfl hmf ?_;refine wnY @z0 ?_;refine⟨k+1,by omega,⟨by omega,by omega,by rw[ac (by omega),ac (by omega),ac (by omega)];exact g3,?_,fun x hx=>by rw[ac (by omega),ac (by omega),ac (by omega)];exact gl x hx⟩,ag0⟩;rw[ag,xN,zx,cu];rfl
 obtain rfl:k=m+1:=by omega
 have z1:decide (((m+1:Nat):Int)<(m:Int)-1+2)=false:=aU (by omega);refine wnY @z1 ?_;refine lpI (X:=AV×Nat) (fun x=>[(1,.ptr n0 1 0),(7,.mp (n0+1)),(11,x.1),(51,.int .i64 ((m:Int)-1+1)),(52,.int .i64 x.2)]) (fun x H nx=>x.2≤m∧n0+2≤nx∧H n0=some [am c]∧H (n0+1)=some [.omap ((rkK (m+1)).map (AV.int .i64)) (rkV c (m+1))]∧Row H 1 x.1 ((btL c x.2).map (AV.int .i64))∧(∀b,bF x.1=some b→n0+2≤b∧b<nx)∧∀x,x<n0→H x=G x) (fun x=>m-x.2) (.esl,0) ⟨bB _,g2,g3,g4,Row.nil,fun b h=>(by cases h),gl⟩ ?_;clear g1 g2 g3 g4 gl;rintro⟨sv,k⟩ H nx ⟨g1,g2,g3,g4,g5,g6,gl⟩;dsimp only at g1 g2 g3 g4 g5 g6 gl ⊢;by_cases hk:k<m
 rotate_left
 ·obtain rfl:k=m:=by omega
  have z1:decide ((k:Int)<(k:Int)-1+1)=false:=aU (by omega);refine wnY @z1 ?_;exact⟨sv,rfl,g5,by omega,gl,fun b hb=>by have:=g6 b hb;omega⟩
 have hsz1:=hsz k (by omega);have hr1:=hrl ((k:Int)+1);have hr2:=hrl (((k+1:Nat):Int)+1);have hf1:=hrf k;have hf2:=hrf (k+1);have hmf1:=ib (k:Int) (rkK (m+1));rw[if_pos (kH.2 (by omega)),rJ (by omega)] at hmf1;have hmf2:=ib ((k+1:Nat):Int) (rkK (m+1));rw[if_pos (kH.2 (by omega)),rJ (by omega)] at hmf2;rw[show((k+1:Nat):Int)=(k:Int)+1 by omega] at hmf2;have hv1:Go.Abs.mget (.int .i64 0) false (some k) (rkV c (m+1))=.int .i64 (rkF c k):=rA (by omega);have hv2:Go.Abs.mget (.int .i64 0) false (some (k+1)) (rkV c (m+1))=.int .i64 (rkF c (k+1)):=rA (by omega);have hsn:=tZ (c:=c) (n:=k);have hbl:(btL c k).length=k:=by unfold btL;simp
 have hbf:btF c k=((aB c ((k:Int)+1)).length:Int)-(rkF c k:Int)-(rkF c (k+1):Int):=rfl;rw[hbf] at hsn;generalize rkF c k=f1 at *;generalize rkF c (k+1)=f2 at *;generalize (aB c ((k:Int)+1)).length=n at *;generalize (aB c (((k+1:Nat):Int)+1)).length=n2 at *;have z1:decide ((k:Int)<(m:Int)-1+1)=true:=aR (by omega);refine wnY (zI5 @g3 @z0 @z1 @ai @af) ?_;refine ja ev0 g4 ev0 rfl hmf1 ?_;rw[hv1];refine wnY and_self ?_;refine ja ev0 g4 ev0 rfl hmf2 ?_;rw[hv2];refine wnY and_self ?_;refine eR (g5.same fun b hb=>?_) ?_
 ·have:=g6 b hb;rw[ac (by omega)]
 rintro s2 H2 nx2 hr3 i1 i2 i3 i4;have hdo:∀b,b<n0+2→bF sv≠some b:=fun b hb e=>by have:=g6 b e;omega
 have lo2:∀b,b<n0+2→H2 b=H b:=fun b hb=>(i3 b (by omega) (hdo b hb)).trans (by rw[ac (by omega)]);refine wnY and_self ?_;refine⟨(s2,k+1),by dsimp only;omega,⟨by dsimp only;omega,by omega,(lo2 n0 (by omega)).trans g3,(lo2 (n0+1) (by omega)).trans g4,?_,fun b hb=>?_,fun x hx=>(lo2 x (by omega)).trans (gl x hx)⟩,ag0⟩
 ·dsimp only;rw[hsn,cu];exact hr3
 ·rcases i4 b hb with h|h
  ·have:=g6 b h;omega
  ·omega
end Go.Proofs.YtekdaafnjdlenaaGreat
namespace Go.Proofs.YtekdaafnjdlenaaGreat
open Go Go.Abs
theorem Fb{H:Hp}{b n j:Nat}{l:List Int}(hb:H b=some (l.map (AV.int .i64)))(hn:l.length=n)(hj:j≤n):Snap H (.msl b n 1 0 j) (aC (l.take j)):=by
 refine jd hb (by simp[hn]) (by omega) (by simp[hn,hj]) (fun y hy=>by simp only[bK] at hy;obtain⟨n,_,rfl⟩:=hy;rfl) (fun i a c ha hc=>?_);rw[ce] at ha;rw[lB,iq] at hc;rw[lB] at ha;split at hc
 ·rw[ha] at hc;cases hc;obtain⟨z,_,rfl⟩:=Option.map_eq_some_iff.1 ha;exact .int _ _
 ·cases hc
def DN(l:List Int)(k:Int):Bool:=match l with
 |[]=>false
 |x::r=>!((((x-1)::r).take (min (k+1) ((r.length+1:Nat):Int)).toNat).any fun n=>decide (n≠0))
theorem xn{c:List Spx}{m:Nat}:(btL c m).length=m:=by unfold btL;simp
theorem Ev{c:List Spx}{m:Nat}(hc:ay c=0)(hl:c.length≤50):∀x∈btL c m,-7000≤x∧x≤7000:=fun x hx=>by
 unfold btL at hx;obtain⟨d,_,rfl⟩:=bK.1 hx;unfold btF;have h1:=da hc hl (d:=(d:Int)+1);have h2:=da hc hl (d:=((d+1:Nat):Int)+1);have h3:=nX (c:=c) (d:=d);have h4:=nX (c:=c) (d:=d+1);omega
attribute [local irreducible] aJ aj bf aX aP aQ aD aS a6 bk Go.Abs.Fn aV Go.Abs.Pure ar aK Yl
theorem Js(n:Int):pU 49 [.int .i64 n] (.bool (decide (n≠0))):=by
 refine pO NM ?_;simp only[b49,aG]
 repeat' (first|refine zW ?_|apply a_n|refine zO ?_|refine vZ ?_|refine bR rfl ?_|refine r1Z ?_|fail)
 exact .bool _
theorem kS(c:List Spx)(m:Nat)(k:Int)(hc:ay c=0)(hl:c.length≤50)(hm:fW c=m)(hm8:m≤8)(hk:-1≤k∧k<8):pU 15 [bE c,.int .i64 k] (.tup [.bool (DN (btL c m) k),.int .i64 0]):=by
 refine pO KX ?_;simp only[b15,aG];have hch:=nZ c hc hl;have hbt:=fun G n0=>Ef c m hc hl hm hm8 G n0;have hlen:=xn (c:=c) (m:=m);have hbd:=Ev (m:=m) hc hl;have z0:decide ((0:Int)≠0)=false:=rfl;have z1:decide (k<(-1:Int))=false:=aU (by omega);have z2:decide ((8:Int)≤k)=false:=aU (by omega);generalize btL c m=l at *;have zz:=aI @z0 (aI @z1 (aI @z2 (aI @ai @af)));repeat' (first|refine zW ?_|apply a_n|refine zO ?_|refine vY ?_|refine cY ?_ (hp:=hch) (hs:=by(first|refine aF ?_ rfl|apply aY);(repeat' (first|exact ak|apply bv|apply a5|exact cw _));first|done|fail)|refine bxY ?_|refine gTY ?_|refine cFY ?_|fail)
 rw[tQ] at hbt;refine be ev0 ev0 (hbt _ _) ?_;rintro _ H1 nx1 ⟨sv,rfl,hrow,h1,h2,h3⟩;have hls:=hrow.lenS (n:=l.length) (by rw[bt,Nat.mul_one]) lC;cases l with
 |nil=>
  have zn:decide ((0:Int)=0)=true:=rfl;have hls0:dw sv=some (.int .i64 0):=hls;clear zz;have zz:=aI @z0 (aI @hls0 @zn);repeat' (first|refine zW ?_|apply a_n|apply a_r|refine zO ?_|refine vY ?_|refine gTY ?_|(refine zGY ?_ ?_<;>(intro _hg;try (exfalso;omega)))|refine bR rfl ?_|refine r2Y ?_|fail)
  exact br (ah (.bool _) (ah (.int _ _) ak))
 |cons x r=>
  have zn:decide ((((r.length+1:Nat):Nat):Int)=0)=false:=aU (by omega);obtain⟨B,rfl,hB⟩:=zB hrow (by simp);have hx:=hbd x (dq ..);have hB1:H1 B=some (.int .i64 x::r.map (AV.int .i64)):=hB;have hN:(x::r).length=r.length+1:=rfl;rw[hN] at hls h3 ⊢;clear zz;have zz:=aI @z0 (aI @hls @zn);repeat' (first|refine zW ?_|apply a_n|refine zO ?_|refine vY ?_|refine gTY ?_|refine cFY ?_|fail)
  have hlc:(AV.int .i64 x::r.map (AV.int .i64)).length=r.length+1:=by simp
  clear zz;have zz:=aI @hB1 (aI @hlc (aI @Int.toNat_zero @xC));repeat' (first|refine zW ?_|apply a_n|refine zO ?_|refine vY ?_|refine stY ?_|fail)
  have hcj:DN (x::r) k=!((((x-1)::r).take (min (k+1) ((r.length+1:Nat):Int)).toNat).any fun n=>decide (n≠0)):=rfl;obtain⟨j,hj,hjl⟩:∃j:Nat,min (k+1) ((r.length+1:Nat):Int)=j∧j≤r.length+1:=⟨(min (k+1) ((r.length+1:Nat):Int)).toNat,by omega,by omega⟩
  rw[hj,cr] at hcj;rw[hcj,hj]
  have hsl:jH 1 (.msl B (r.length+1) 1 0 (r.length+1)) none (some (.int .i64 j)) none=some (.msl B (r.length+1) 1 0 j):=by
   simp[jH,bJ];omega
  clear zz;have zz:=@hsl;repeat' (first|apply a_n|refine zO ?_|refine vY ?_|fail)
  refine ed ev0 ev0 (pn (((x-1)::r).take j) (fun n=>decide (n≠0)) 49 [] (fun x h=>(by cases h)) (fun x _=>Js x) (show _≤_ by rw[f0];simp;omega)) (aF (ah (Fb (l:=(x-1)::r) (n:=r.length+1) ag rfl hjl) (ah (vu ak) ak)) rfl) ?_
  repeat' (first|apply a_n|refine zO ?_|refine vY ?_|refine bR rfl ?_|refine r2Y ?_|fail)
  exact br (ah (.bool _) (ah (.int _ _) ak))
end Go.Proofs.YtekdaafnjdlenaaGreat
namespace Go.Proofs.YtekdaafnjdlenaaGreat
open Go Go.Abs
def pT(c:List Spx):Nat→Nat
 |0=>0
 |k+1=>pT c k+2^min (c.getD k default).length 10
theorem wB{c:List Spx}:∀k,pT c k≤1024*k
 |0=>bB _
 |k+1=>by
  have ih:=wB (c:=c) k;have:2^min (c.getD k default).length 10≤2^10:=Nat.pow_le_pow_right (by omega) (by omega);unfold pT;omega
attribute [local irreducible] aJ aj bf aX aP aQ aD aS a6 bk Go.Abs.Fn aV Go.Abs.Pure ar aK Yl
def szS(c:List Spx):Nat→Int×Bool
 |0=>(-1,true)
 |k+1=>(if (szS c k).1<((c.getD k default).length:Int)-1 then((c.getD k default).length:Int)-1 else(szS c k).1,(szS c k).2&&(decide (k=0) || decide (((c.getD k default).length:Int)-1=(szS c k).1)))
theorem I4(c:List Spx)(hc:Shn c)(hs:∀s∈c,Shn s):pU 46 [bE c] (.tup [.int .i64 (szS c c.length).1,.bool (szS c c.length).2]):=by
 refine pO M4 ?_;simp only[b46,aG];have hc':c.length≤17592186044416:=hc;refine wnY (aI @ai @af) ?_;refine lpI (X:=Nat) (fun k=>[(1,.ptr 0 1 0),(4,.int .i64 (szS c k).1),(5,.bool (szS c k).2),(6,.int .i64 k)]) (fun k H nx=>k≤c.length∧H 0=some [am c]) (fun k=>c.length-k) 0 ⟨bB _,ag⟩ ?_;rintro k H nx ⟨h1,g0⟩;by_cases hk:k<c.length
 rotate_left
 ·obtain rfl:k=c.length:=by omega
  refine wnY (aI @g0 @ae) ?_;exact br (ah (.int _ _) (ah (.bool _) ak))
 have ix:=ec hk;have hsl:(c.getD k default).length≤17592186044416:=hs _ (az hk);have e:szS c (k+1)=(if (szS c k).1<((c.getD k default).length:Int)-1 then((c.getD k default).length:Int)-1 else(szS c k).1,(szS c k).2&&(decide (k=0) || decide (((c.getD k default).length:Int)-1=(szS c k).1))):=rfl;generalize c.getD k default=s at *;generalize szS c k=P at *;obtain⟨m,p⟩:=P;dsimp only at e ⊢;by_cases hm:m<(s.length:Int)-1
 ·have zm:decide (m<(s.length:Int)-1)=true:=aR hm;rw[if_pos hm] at e;cases p
  ·rw[Bool.false_and] at e;refine wnY (zI5 @g0 @ix @ae @ao @zm) ?_;exact⟨k+1,by omega,⟨by omega,g0⟩,by rw[e];(iterate 4 refine And.intro rfl ?_);trivial⟩
  ·rw[Bool.true_and] at e;by_cases hk0:k=0
   ·have zk:decide ((k:Int)=0)=true:=aR (by omega);rw[aR hk0,Bool.true_or] at e;refine wnY (zI6 @g0 @ix @ae @ao @zm @zk) ?_;exact⟨k+1,by omega,⟨by omega,g0⟩,by rw[e];(iterate 4 refine And.intro rfl ?_);trivial⟩
   ·have zk:decide ((k:Int)=0)=false:=aU (by omega);rw[aU hk0,Bool.false_or] at e;refine wnY (zI6 @g0 @ix @ae @ao @zm @zk) ?_;exact⟨k+1,by omega,⟨by omega,g0⟩,by rw[e];(iterate 4 refine And.intro rfl ?_);trivial⟩
 ·have zm:decide (m<(s.length:Int)-1)=false:=aU hm;rw[if_neg hm] at e;cases p
  ·rw[Bool.false_and] at e;refine wnY (zI5 @g0 @ix @ae @ao @zm) ?_;exact⟨k+1,by omega,⟨by omega,g0⟩,by rw[e];(iterate 4 refine And.intro rfl ?_);trivial⟩
  ·rw[Bool.true_and] at e;by_cases hk0:k=0
   ·have zk:decide ((k:Int)=0)=true:=aR (by omega);rw[aR hk0,Bool.true_or] at e;refine wnY (zI6 @g0 @ix @ae @ao @zm @zk) ?_;exact⟨k+1,by omega,⟨by omega,g0⟩,by rw[e];(iterate 4 refine And.intro rfl ?_);trivial⟩
   ·have zk:decide ((k:Int)=0)=false:=aU (by omega);rw[aU hk0,Bool.false_or] at e;refine wnY (zI6 @g0 @ix @ae @ao @zm @zk) ?_;exact⟨k+1,by omega,⟨by omega,g0⟩,by rw[e];(iterate 4 refine And.intro rfl ?_);trivial⟩
end Go.Proofs.YtekdaafnjdlenaaGreat
namespace Go.Proofs.YtekdaafnjdlenaaGreat
open Go Go.Abs
theorem BA{c:List Spx}:∀k,(szS c k).1=(kp c k).2-1
 |0=>rfl
 |k+1=>by
  have:=BA (c:=c) k;unfold szS kp;dsimp only;split<;>omega
attribute [local irreducible] aJ aj bf aX aP aQ aD aS a6 bk Go.Abs.Fn aV Go.Abs.Pure ar aK Yl
theorem jD(c:List Spx)(hl:c.length≤50)(hs:∀s∈c,Shn s):pU 45 [bE c] (.int .i64 (ay c)):=by
 refine pO M3 ?_;simp only[b45,aG];have hcc:=Bu c (show _≤_ by omega) hs;by_cases hc:ay c=0
 rotate_left
 ·have z0:decide (ay c≠0)=true:=aR hc;refine wnY (zI3 @ai @af @z0) ?_;exact .int _ _
 have hsm:=fun k=>xt c k hl hs;unfold du at hsm;rw[hc] at hcc ⊢;have z0:decide ((0:Int)≠0)=false:=rfl;refine wnY (zI3 @ai @af @z0) ?_;refine lpI (X:=Nat) (fun k=>[(1,.ptr 0 1 0),(4,.int .i64 ((k:Int)+1))]) (fun k H nx=>k≤8∧H 0=some [am c]) (fun k=>8-k) 0 ⟨bB _,rfl⟩ ?_;rintro k H nx ⟨h1,h2⟩;by_cases hk:k<8
 ·have hk1:=hsm ((k:Int)+1);rw[if_neg (fun q=>q hc),if_neg (by omega)] at hk1;generalize gq c ((k:Int)+1).toNat=X at *;have z1:decide ((k:Int)+1≤8)=true:=aR (by omega);refine wnY (zI5 @h2 @ai @af @z0 @z1) ?_;exact⟨k+1,by omega,⟨by omega,h2⟩,ag0⟩
 ·obtain rfl:k=8:=by omega
  have z1:decide (((8:Nat):Int)+1≤8)=false:=rfl;refine wnY @z1 ?_;exact .int _ _
theorem D6(c:List Spx)(d:Nat)(hc:ay c=0)(hl:c.length≤50)(hd:d≤20):pU 53 [bE c,.int .i64 d] (dl (aB c ((d:Int)+1)).length (dN (aB c ((d:Int)+1)) (aB c d))):=by
 refine pO NR ?_;simp only[b53,aG];obtain⟨p1,p2,p3,p4⟩:=cK hc;have h8:∀s∈c,s.length≤8:=fun s h=>(co (p2 s h)).2.1;have hX:=w9 c (d+1) hl h8 (by omega);rw[show((d+1:Nat):Int)=(d:Int)+1 by omega,←mZ] at hX;have hXl:=eM (d:=(d:Int)+1) hl hc;have hYl:=eM (d:=(d:Int)) hl hc;have hXs:=gK (d:=(d:Int)+1) hc;have hYs:=gK (d:=(d:Int)) hc;rw[cE];by_cases hd0:d=0
 ·have eY:aB c (d:Int)=[]:=by unfold aB;rw[if_pos (by omega)]
  have z3:decide ((d:Int)=0)=true:=aR (by omega);rw[eY];generalize aB c ((d:Int)+1)=X at *;refine wnY (zI4 @ai @af @ae @z3) ?_;exact kr (ah (.int _ _) (ah (.eslsl 1) ak))
 have z3:decide ((d:Int)=0)=false:=aU (by omega);have hY:=w9 c d hl h8 (by omega);have eY:=yr (c:=c) (k:=d);rw[if_neg hd0] at eY;rw[←eY] at hY
 have hb:=C7 (aB c ((d:Int)+1)) (aB c d) (by omega) (by omega) (oA hXs) (oA hYs) fun i k hi hk=>by
  have m1:=az hk;have m2:=az hi;exact yf (ot hXs _ m1) (ot hYs _ m2) (n:=d) (by rw[(pH.1 m1).2.1];omega) (by rw[(pH.1 m2).2.1];omega) (by omega)
 rw[cE] at hb;generalize dN (aB c ((d:Int)+1)) (aB c d)=M at *;generalize aB c ((d:Int)+1)=X at *;generalize aB c (d:Int)=Y at *;have dM:Dat (.agg [.int .i64 X.length,bu M]):=Dat.agg (DatL.cons .int (DatL.cons (jP _) DatL.nil));refine wnY (zI4 @ai @af @ae @z3) ?_;exact dM _
theorem IV{R:List (List Int)}{c:Nat}(h:gr c R):v7 R c=d6 R c:=sD (fk h) (py h)
theorem Bq(c:List Spx)(d:Nat)(hc:ay c=0)(hl:c.length≤50)(hd:d≤20):pU 100 [bE c,.int .i64 d] (.int .i64 (rkF c d)):=by
 refine pO Lh ?_;simp only[Lk,aG];have he:=D6 c d hc hl hd;have hXl:=eM (d:=(d:Int)+1) hl hc;have hYl:=eM (d:=(d:Int)) hl hc;have hM:=kR (X:=aB c ((d:Int)+1)) (Y:=aB c d) (by omega) (by omega);have hr:=DR _ _ hM;rw[IV hM] at hr;have hq:rkF c d=(d6 (dN (aB c ((d:Int)+1)) (aB c d)) (aB c ((d:Int)+1)).length).length:=rfl;rw[hq];generalize dN (aB c ((d:Int)+1)) (aB c d)=M at *;generalize (aB c ((d:Int)+1)).length=n at *;generalize d6 M n=E at *;have d1:Dat (.agg [.int .i64 n,bu M]):=cT n M;rw[cE] at he hr;rw[cE] at hr;refine wnY (zI3 @ai @af @cz) ?_;exact .int _ _
theorem u6(c:List Spx)(d:Nat)(hc:ay c=0)(hl:c.length≤50)(hd:d≤15):pU 47 [bE c,.int .i64 d] (.int .i64 (btF c d)):=by
 refine pO N3 ?_;simp only[b47,aG];obtain⟨p1,p2,p3,p4⟩:=cK hc;have h8:∀s∈c,s.length≤8:=fun s h=>(co (p2 s h)).2.1;have hX:=w9 c (d+1) hl h8 (by omega);rw[show((d+1:Nat):Int)=(d:Int)+1 by omega,←mZ] at hX;have h1:=Bq c d hc hl (by omega);have h2:=Bq c (d+1) hc hl (by omega);rw[show((d+1:Nat):Int)=(d:Int)+1 by omega] at h2;have hXl:=eM (d:=(d:Int)+1) hl hc;have l1:=nX (c:=c) (d:=d);have l2:=nX (c:=c) (d:=d+1);have hYl:=eM (d:=((d+1:Nat):Int)+1) hl hc;unfold btF;generalize aB c ((d:Int)+1)=X at *;generalize aB c (((d+1:Nat):Int)+1)=Y at *;generalize rkF c d=a at *;generalize rkF c (d+1)=b at *;refine wkY (zI3 @ai @af @ae) ?_;exact .int _ _
theorem Fm(c:List Spx)(m:Nat)(hc:ay c=0)(hl:c.length≤50)(hm:fW c=m)(hm8:m≤8):pU 14 [bE c] (.tup [aC (btL c m),.int .i64 0]):=by
 refine pO Ls ?_;simp only[b14,aG];obtain⟨p1,p2,p3,p4⟩:=cK hc;have hs:∀s∈c,Shn s:=jn hc;have hli:=jD c hl hs;rw[hc] at hli;have hsz:=I4 c (show _≤_ by omega) hs;rw[BA,show(kp c c.length).2=(m:Int) from hm] at hsz;have hnu:=fun d hd=>u6 c d hc hl hd;have hbd:=Ev (m:=m) hc hl;generalize (szS c c.length).2=bb at *;have z0:decide ((0:Int)≠0)=false:=rfl;refine wnY (zI3 @ai @af @z0) ?_;refine lpI (X:=AV×Nat) (fun x=>[(1,.ptr 0 1 0),(5,.int .i64 ((m:Int)-1)),(7,x.1),(8,.int .i64 x.2)]) (fun x H nx=>x.2≤m∧H 0=some [am c]∧1≤nx∧Row H 1 x.1 ((btL c x.2).map (AV.int .i64))∧∀b,bF x.1=some b→1≤b∧b<nx) (fun x=>m-x.2) (.esl,0) ⟨bB _,rfl,aO _,Row.nil,fun b hb=>(by cases hb)⟩ ?_;rintro⟨sv,k⟩ H nx ⟨h1,h2,h3,h4,h5⟩;dsimp only at h1 h2 h3 h4 h5 ⊢;by_cases hk:k<m
 rotate_left
 ·obtain rfl:k=m:=by omega
  have z1:decide ((k:Int)≤(k:Int)-1)=false:=aU (by omega);refine wnY @z1 ?_;exact br (ah h4.snapI (ah (.int _ _) ak))
 have z1:decide ((k:Int)≤(m:Int)-1)=true:=aR (by omega);have hnk:=hnu k (by omega);have hsn:=tZ (c:=c) (n:=k);have hbl:=xn (c:=c) (m:=k);generalize btF c k=v at *;refine wnY (zI4 @h2 @z1 @ai @af) ?_;refine eR (h4.same fun b hb=>?_) ?_
 ·have:=h5 b hb;rw[ac (by omega)]
 rintro s2 H2 nx2 hr3 i1 i2 i3 i4;have l0:H2 0=H 0:=(i3 0 (by omega) (fun e=>by have:=h5 0 e;omega)).trans (by rw[ac (by omega)]);refine wnY and_self ?_;refine⟨(s2,k+1),by dsimp only;omega,⟨by dsimp only;omega,l0.trans h2,by omega,?_,fun b hb=>?_⟩,ag0⟩
 ·dsimp only;rw[hsn,cu];exact hr3
 ·rcases i4 b hb with h|h
  ·have:=h5 b h;omega
  ·omega
end Go.Proofs.YtekdaafnjdlenaaGreat
namespace Go.Proofs.YtekdaafnjdlenaaGreat
open Go Go.Abs
theorem Iu{α:Type}[BEq α][LawfulBEq α]{K:α→α→Int}(hK:LinK K){L:List α}(hL:b8 K L){x y:α}(hx:x∈L)(hy:y∈L)(h:K x y<0):L.idxOf x<L.idxOf y:=by
 have i1:=pC.2 hx;have i2:=pC.2 hy;have g1:L[L.idxOf x]=x:=List.getElem_idxOf i1;have g2:L[L.idxOf y]=y:=List.getElem_idxOf i2;rcases sK (L.idxOf x) (L.idxOf y) with q|q|q
 ·exact q
 ·have:x=y:=by
    rw[←g1,←g2];congr 1
  rw[this] at h;exact absurd h (hK.ord.irr y)
 ·have:=kJ.1 hL _ _ i2 i1 q;rw[g1,g2] at this;exact absurd h (hK.ord.asym _ _ this)
theorem Fy{L a:List Spx}(hL:b8 bl L)(ha:b8 bl a)(h:∀s∈a,s∈L):(tO L a).Pairwise (· < ·):=by
 unfold tO;rw[List.pairwise_map];exact ha.imp_of_mem fun{x y} hx hy hxy=>Iu my hL (h x hx) (h y hy) hxy
theorem kf{c a:List Spx}{v:List Int}(h:il c a=(v,0)):ay c=0∧jM a=0∧v=dQ (tO (aB c (eC a)) a)∧(∀s∈a,s∈aB c (eC a))∧bz v∧∀z∈v,0≤z∧z<((aB c (eC a)).length:Int):=by
 unfold il at h;split at h
 ·rename_i q;exact absurd (congrArg Prod.snd h) q
 rename_i q1;split at h
 ·rename_i q;exact absurd (congrArg Prod.snd h) q
 rename_i q2;have e1:ay c=0:=by simpa using q1
 have e2:jM a=0:=by simpa using q2
 split at h
 ·rename_i q;subst q;cases h;exact⟨e1,e2,rfl,fun s hs=>(by cases hs),qq,fun z hz=>(by cases hz)⟩
 split at h
 rotate_left
 ·cases h
 rename_i q3 q4;cases h;have hm:∀s∈a,s∈aB c (eC a):=fun s hs=>pW (ea.1 q4 s hs);refine⟨e1,e2,rfl,hm,nf (Fy qr (n6 e2).2.2.1 hm),fun z hz=>?_⟩;obtain⟨i,hi,rfl⟩:=zH.1 hz;unfold tO at hi;obtain⟨s,hs,rfl⟩:=bK.1 hi;have:=pC.2 (hm s hs);omega
attribute [local irreducible] aJ aj bf aX aP aQ aD aS a6 bk Go.Abs.Fn aV Go.Abs.Pure ar aK Yl
theorem Ee(c:List Spx)(hc:ay c≠0)(hl:c.length≤50)(hs:∀s∈c,Shn s):pU 37 [bE c] (.tup [.int .i64 0,.int .i64 (ay c)]):=by
 refine pO KN ?_;simp only[b37,aG];have hcc:=ji c (show _≤_ by omega) hs;generalize ay c=e at *;have z0:decide (e≠(0:Int))=true:=aR hc;refine wnY (zI3 @z0 @ai @af) ?_;exact br (ah (.int _ _) (ah (.int _ _) ak))
theorem kN(c:List Spx)(hl:c.length≤50)(hs:∀s∈c,Shn s):pU 43 [bE c] (.int .i64 (ay c)):=by
 by_cases hc:ay c=0
 ·rw[hc];exact nZ c hc hl
 refine pO IM ?_;simp only[b43,aG];have he:=Ee c hc hl hs;refine wnY (aI @ai @af) ?_;exact .int _ _
def jh(c a b:List Spx):List Int×List Int×Int:=if (il c a).2≠0 then([],[],(il c a).2) else((il c a).1,(il c b).1,(il c b).2)
theorem Bp(c a b:List Spx)(hl:c.length≤50)(hs:∀s∈c,Shn s)(ha:ShC a)(hb:ShC b):pU 67 [bE c,am a,am b] (.tup [aC (jh c a b).1,aC (jh c a b).2.1,.int .i64 (jh c a b).2.2]):=by
 refine pO NU ?_;simp only[b67,aG];have hch:=kN c hl hs;have h1:=Am c a hl hs ha;have h2:=Am c b hl hs hb;have hce:ay c≠0→il c a=([],ay c):=fun h=>by unfold il;rw[if_pos h]
 unfold jh;generalize il c a=va at *;generalize il c b=vb at *;obtain⟨v,e⟩:=va;obtain⟨w,f⟩:=vb;dsimp only at *;by_cases hc:ay c=0
 ·have z0:decide (ay c≠(0:Int))=false:=aU (fun q=>q hc);by_cases he:e=0
  ·subst he;have z1:decide ((0:Int)≠0)=false:=rfl;rw[if_neg (fun q=>q rfl)];refine wnY (zI4 @z0 @z1 @ai @af) ?_;exact br (ah (cp v).snap (ah (cp w).snap (ah (.int _ _) ak)))
  ·have z1:decide (e≠(0:Int))=true:=aR he;rw[if_pos he];refine wnY (zI4 @z0 @z1 @ai @af) ?_;exact br (ah (.eslsl 1) (ah (.eslsl 1) (ah (.int _ _) ak)))
 ·have z0:decide (ay c≠(0:Int))=true:=aR hc;cases hce hc;rw[if_pos hc];refine wnY (zI3 @z0 @ai @af) ?_;exact br (ah (.eslsl 1) (ah (.eslsl 1) (ah (.int _ _) ak)))
def cyH(c a:List Spx):List Int×Int:=if (il c a).2≠0 then([],(il c a).2) else if cR a=[] then((il c a).1,0) else([],3)
theorem Ei(c a:List Spx)(hl:c.length≤50)(hs:∀s∈c,Shn s)(ha:ShC a):pU 57 [bE c,am a] (.tup [aC (cyH c a).1,.int .i64 (cyH c a).2]):=by
 refine pO NL ?_;simp only[b57,aG];have h1:=Am c a hl hs ha;have h2:=J9 a ha;have hvf:=fun v=>kf (c:=c) (a:=a) (v:=v);unfold cyH;unfold HG at h2;generalize il c a=va at *;obtain⟨v,e⟩:=va;dsimp only at *;by_cases he:e=0
 ·subst he;obtain⟨e1,e2,-⟩:=hvf v rfl;rw[if_neg (fun q=>q e2)] at h2;dsimp only at h2;have z1:decide ((0:Int)≠0)=false:=rfl;have z2:decide ((0:Int)=0)=true:=rfl;rw[if_neg (fun q=>q rfl)];by_cases hz:cR a=[]
  ·rw[aR hz] at h2;rw[if_pos hz];refine wnY (zI4 @z1 @z2 @ai @af) ?_;exact ie (cp _).snap rfl
  ·rw[aU hz] at h2;rw[if_neg hz];refine wnY (zI4 @z1 @z2 @ai @af) ?_;exact ie (.eslsl 1) rfl
 ·have z1:decide (e≠(0:Int))=true:=aR he;rw[if_pos he];refine wnY (zI3 @z1 @ai @af) ?_;exact ie (.eslsl 1) rfl
end Go.Proofs.YtekdaafnjdlenaaGreat
namespace Go.Proofs.YtekdaafnjdlenaaGreat
open Go Go.Abs
def BB(c a b:List Spx):Int:=if (jh c a b).2.2≠0 then(jh c a b).2.2 else if a≠[]∧b≠[]∧eC b≠eC a+1 then 15 else if (mA b).2≠0 then(mA b).2 else if (mA b).1=a then 0 else 18
theorem t7{c a b:List Spx}(h:(jh c a b).2.2=0):∃v w,il c a=(v,0)∧il c b=(w,0)∧jh c a b=(v,w,0):=by
 unfold jh at h ⊢;generalize il c a=va at *;generalize il c b=vb at *;obtain⟨v,e⟩:=va;obtain⟨w,f⟩:=vb;dsimp only at *;by_cases he:e=0
 ·subst he;rw[if_neg (fun q=>q rfl)] at h ⊢;dsimp only at h;subst h;exact⟨v,w,rfl,rfl,rfl⟩
 ·rw[if_pos he] at h;exact absurd h he
theorem Hm{b:List Spx}(h:jM b=0)(hl:¬4096<(cR b).length):ShC (cR b):=by
 refine⟨show _≤_ by omega,fun s hs=>?_⟩;have:=(co (uT (n6 h).2.1 s hs)).2.1;show _≤_;omega
attribute [local irreducible] aJ aj bf aX aP aQ aD aS a6 bk Go.Abs.Fn aV Go.Abs.Pure ar aK Yl
theorem vv(c a b:List Spx)(hl:c.length≤50)(hs:∀s∈c,Shn s)(ha:ShC a)(hb:ShC b):pU 25 [bE c,am a,am b] (.int .i64 (BB c a b)):=by
 refine pO Nx ?_;simp only[b25,aG];have hp:=Bp c a b hl hs ha hb;have hbo:=G8 b hb;have hpf:=t7 (c:=c) (a:=a) (b:=b);have hal:=ha.1;have hbl:=hb.1;unfold BB;generalize jh c a b=p at *;obtain⟨v,w,e⟩:=p;dsimp only at *;by_cases he:e=0
 rotate_left
 ·have z0:decide (e≠(0:Int))=true:=aR he;rw[if_pos he];refine wnY (zI3 @z0 @ai @af) ?_;exact .int _ _
 subst he;obtain⟨v',w',hv,hw,hvw⟩:=hpf rfl;cases hvw;obtain⟨-,hcb,-⟩:=kf hw
 have hbt:mA b=if 4096<(cR b).length then([],5) else(cR b,0):=by
  unfold mA;rw[if_neg (fun q=>q hcb)]
 have z0:decide ((0:Int)≠0)=false:=rfl;rw[if_neg (fun q=>q rfl)];refine dD ?_;have zz:=aI @z0 (aI @ai @af);repeat' (first|apply a_n|refine zO ?_|refine vY ?_|refine bxY ?_|fail)
 refine dD ?_;refine dD ?_;clear zz;have zz:=aI @z0 (aI @ai @af);repeat' (first|apply a_n|refine zO ?_|refine vY ?_|refine cY ?_ (hp:=hp) (hs:=by(first|refine aF ?_ rfl|apply aY);(repeat' (first|exact ak|apply bv|apply a5|exact cw _|exact bI _));first|done|fail)|fail)
 refine dD ?_;clear zz;have zz:=aI @z0 (aI @ai @af);repeat' (first|apply a_n|refine zO ?_|refine vY ?_|refine cFY ?_|fail)
 refine cl (fun T H nx=>¬(a≠[]∧b≠[]∧eC b≠eC a+1)∧T 1=am a∧T 2=am b) ?_ ?_
 ·by_cases h1:a=[]
  ·have z1:decide ((0:Int)<a.length)=false:=by rw[h1];rfl
   refine wnY (aI @z1 @ae) ?_;exact⟨fun q=>q.1 h1,rfl,rfl⟩
  have z1:decide ((0:Int)<a.length)=true:=aR (by have:=jN.2 h1;omega);by_cases h2:b=[]
  ·have z2:decide ((0:Int)<b.length)=false:=by rw[h2];rfl
   refine wnY (zI3 @z1 @z2 @ae) ?_;exact⟨fun q=>q.2.1 h2,rfl,rfl⟩
  have z2:decide ((0:Int)<b.length)=true:=aR (by have:=jN.2 h2;omega);have ix:=zF h1;have iy:=zF h2;have hsa:=ha.2 _ (az (jN.2 h1));have hsb:=hb.2 _ (az (jN.2 h2));unfold eC;generalize a.getD 0 default=s at *;generalize b.getD 0 default=t at *;have hsa':s.length≤17592186044416:=hsa;by_cases h3:t.length=s.length+1
  ·have z3:decide ((t.length:Int)≠(s.length:Int)+1)=false:=aU (by omega);refine wnY (zI7 @z1 @z2 @z3 @ix @iy @ae @ao) ?_;exact⟨fun q=>q.2.2 h3,rfl,rfl⟩
  ·have z3:decide ((t.length:Int)≠(s.length:Int)+1)=true:=aR (by omega);rw[if_pos ⟨h1,h2,h3⟩];refine wnY (zI7 @z1 @z2 @z3 @ix @iy @ae @ao) ?_;exact .int _ _
 rintro T H nx ⟨h1,t1,t2⟩;rw[if_neg h1];clear zz;clear h1;by_cases h4:4096<(cR b).length
 ·rw[if_pos h4] at hbt;rw[hbt] at hbo ⊢;dsimp only at hbo ⊢;have z5:decide ((5:Int)≠0)=true:=rfl;rw[if_pos (by decide)];refine wnY (zI3 @t1 @t2 @z5) ?_;exact .int _ _
 rw[if_neg h4] at hbt;have heq:=LI (cR b) a (Hm hcb h4) ha;rw[hbt] at hbo ⊢;dsimp only at hbo ⊢;rw[if_neg (fun q=>q rfl)];generalize cR b=g at *;by_cases h5:g=a
 ·rw[aR h5] at heq;rw[if_pos h5];refine wnY (zI3 @t1 @t2 @z0) ?_;exact .int _ _
 ·rw[aU h5] at heq;rw[if_neg h5];refine wnY (zI3 @t1 @t2 @z0) ?_;exact .int _ _
def rfT(c a y:List Spx):Int:=if (jh c a y).2.2≠0 then(jh c a y).2.2 else if a=[]∨y=[] then 18 else if eC a≠eC y then 15 else Jt (dN (aB c ((eC a:Int)+1)) (aB c (eC a))) (jh c a y).1 (jh c a y).2.1
theorem nT(c a y:List Spx)(hl:c.length≤50)(hs:∀s∈c,Shn s)(ha:ShC a)(hy:ShC y):pU 27 [bE c,am a,am y] (.int .i64 (rfT c a y)):=by
 refine pO MZ ?_;simp only[b27,aG];have hp:=Bp c a y hl hs ha hy;have hpf:=t7 (c:=c) (a:=a) (b:=y);have hal:=ha.1;have hyl:=hy.1;unfold rfT;generalize jh c a y=p at *;obtain⟨v,w,e⟩:=p;dsimp only at *;by_cases he:e=0
 rotate_left
 ·have z0:decide (e≠(0:Int))=true:=aR he;rw[if_pos he];refine wnY (zI3 @z0 @ai @af) ?_;exact .int _ _
 subst he;obtain⟨v',w',hv,hw,hvw⟩:=hpf rfl;cases hvw;obtain⟨hc,hca,-,-,va,vr⟩:=kf hv;obtain⟨-,hcy,-,-,wa,wr⟩:=kf hw;have z0:decide ((0:Int)≠0)=false:=rfl;rw[if_neg (fun q=>q rfl)];by_cases h1:a=[]
 ·have z1:decide ((a.length:Int)=0)=true:=by rw[h1];rfl
  rw[if_pos (.inl h1)];refine wnY (zI5 @z0 @z1 @ai @af @ae) ?_;exact .int _ _
 have z1:decide ((a.length:Int)=0)=false:=aU (by have:=jN.2 h1;omega);by_cases h2:y=[]
 ·have z2:decide ((y.length:Int)=0)=true:=by rw[h2];rfl
  rw[if_pos (.inr h2)];refine wnY (zI6 @z0 @z1 @z2 @ai @af @ae) ?_;exact .int _ _
 have z2:decide ((y.length:Int)=0)=false:=aU (by have:=jN.2 h2;omega);rw[if_neg (fun q=>q.elim h1 h2)];have ix:=zF h1;have iy:=zF h2;have hsa:=ha.2 _ (az (jN.2 h1));have hsb:=hy.2 _ (az (jN.2 h2));have h8:=(co ((n6 hca).2.1 _ (az (jN.2 h1)))).2.1;unfold eC at *;generalize a.getD 0 default=s at *;generalize y.getD 0 default=t at *;have hsa':s.length≤17592186044416:=hsa;by_cases h3:s.length=t.length
 rotate_left
 ·have z3:decide ((s.length:Int)≠(t.length:Int))=true:=aR (by omega);rw[if_pos h3];refine wnY (jY @z0 @z1 @z2 @z3 @ix @iy @ai @af @ae @ao) ?_;exact .int _ _
 have z3:decide ((s.length:Int)≠(t.length:Int))=false:=aU (by omega);rw[if_neg (fun q=>q h3)];rw[←h3] at wr;have hed:=mL c s.length hc hl h8;have hr1:=da hc hl (d:=(s.length:Int)+1);have hr2:=da hc hl (d:=(s.length:Int));have hver:=Ec (aB c ((s.length:Int)+1)).length (dN (aB c ((s.length:Int)+1)) (aB c (s.length:Int))) v w (kR (by omega) (by omega)) (by rw[gQ];exact vr) va (by rw[gQ];exact wr) wa;have hd1:Dat (dl (aB c ((s.length:Int)+1)).length (dN (aB c ((s.length:Int)+1)) (aB c (s.length:Int)))):=cT _ _;rw[cE] at hed hver hd1;generalize dN (aB c ((s.length:Int)+1)) (aB c (s.length:Int))=R at *;generalize (aB c ((s.length:Int)+1)).length=n at *;refine wnY (jY @z0 @z1 @z2 @z3 @ix @iy @ai @af @ae @ao) ?_;exact .int _ _
end Go.Proofs.YtekdaafnjdlenaaGreat
namespace Go.Proofs.YtekdaafnjdlenaaGreat
open Go Go.Abs
theorem Dm{R:List (List Int)}{c:Nat}{w:List Int}(hm:gr c R)(hw:bz w):
    (∃x,uz R c w=(x,[],true)∧x=lU (lL R c) w∧bz x∧(∀z∈x,0≤z∧z<(c:Int))∧(∀y∈(stE R R.length).2,rn w y=false)∧∀i,i<R.length→cH (fun z=>bit z x) (R.getD i default)%2=bit (i:Int) w)∨
    ∃y,uz R c w=([],y,false)∧y∈(stE R R.length).2∧bz y∧(∀z∈y,0≤z∧z<(R.length:Int))∧rn w y=true:=by
 have hR:=fk hm;have hv:=py hm;have hok:=iZ hR (aO R.length);have hdep:∀y∈(stE R R.length).2,bz y∧∀z∈y,0≤z∧z<(R.length:Int):=fun y hy=>⟨(hok.dep y hy).1.2,(hok.dep y hy).2.2⟩
 unfold uz;cases hs:HI (stE R R.length).2 w with
 |none=>
  left
  have h0:∀y∈(stE R R.length).2,rn w y=false:=fun y hy=>by
   have:=List.find?_eq_none.1 hs y hy;rw[Aj (hdep y hy).1 hw] at this;simpa using this
  refine⟨_,rfl,rfl,EM hok.red,x6 hok.red,h0,fun i hi=>DG hR hv hw h0 hi⟩
 |some y=>
  right;have hy:=List.mem_of_find?_eq_some hs;have ho:=List.find?_some (p:=fun y=>jI y w) hs;rw[Aj (hdep y hy).1 hw] at ho;exact⟨y,rfl,hy,(hdep y hy).1,(hdep y hy).2,ho⟩
def An(c a:List Spx):List Spx×List Spx×Bool×Int:=if (cyH c a).2≠0 then([],[],false,(cyH c a).2) else if a=[] then([],[],true,0) else
 if (uz (dN (aB c ((eC a:Int)+1)) (aB c (eC a))) (aB c ((eC a:Int)+1)).length (cyH c a).1).2.2=true then(en (aB c ((eC a:Int)+1)) (uz (dN (aB c ((eC a:Int)+1)) (aB c (eC a))) (aB c ((eC a:Int)+1)).length (cyH c a).1).1,[],true,0)
 else([],en (aB c (eC a)) (uz (dN (aB c ((eC a:Int)+1)) (aB c (eC a))) (aB c ((eC a:Int)+1)).length (cyH c a).1).2.1,false,0)
theorem Cn{c a:List Spx}(h:(cyH c a).2=0):∃v,il c a=(v,0)∧cyH c a=(v,0)∧cR a=[]:=by
 unfold cyH at h ⊢;generalize il c a=va at *;obtain⟨v,e⟩:=va;dsimp only at *;by_cases he:e=0
 ·subst he;rw[if_neg (fun q=>q rfl)] at h ⊢;by_cases hz:cR a=[]
  ·rw[if_pos hz];exact⟨v,rfl,rfl,hz⟩
  ·rw[if_neg hz] at h;cases h
 ·rw[if_pos he] at h;exact absurd h he
theorem EB{c:List Spx}{d:Nat}{v:List Int}(hc:ay c=0)(hd:d≤7)(ha:bz v)(hv:∀z∈v,0≤z∧z<((aB c ((d:Int)+1)).length:Int)):Af c d v=(en (aB c ((d:Int)+1)) v,0):=by
 have hz:sW (aB c ((d:Int)+1)).length v=0:=BE ha hv;unfold Af;rw[if_neg (fun q=>q hc),if_neg (by omega),if_neg (fun q=>q hz)]
attribute [local irreducible] aJ aj bf aX aP aQ aD aS a6 bk Go.Abs.Fn aV Go.Abs.Pure ar aK Yl
set_option maxHeartbeats 1000000 in
theorem zt(c a:List Spx)(hl:c.length≤50)(hs:∀s∈c,Shn s)(ha:ShC a):pU 21 [bE c,am a] (.tup [am (An c a).1,am (An c a).2.1,.bool (An c a).2.2.1,.int .i64 (An c a).2.2.2]):=by
 refine pO MX ?_;simp only[b21,aG];have hch:=kN c hl hs;have hcy:=Ei c a hl hs ha;have hcf:=Cn (c:=c) (a:=a);have hal:=ha.1
 have hce:ay c≠0→cyH c a=([],ay c):=fun h=>by
  unfold cyH il;rw[if_pos h,if_pos h]
 unfold An;generalize cyH c a=p at *;obtain⟨v,e⟩:=p;dsimp only at *;have z0:decide ((0:Int)≠0)=false:=rfl;have fin0:∀{H:Hp}{f:Int},Snap H (.tup [.esl,.esl,.bool false,.int .i64 f]) (.tup [am [],am [],.bool false,.int .i64 f]):=br (ah (.eslsl 1) (ah (.eslsl 1) (ah (.bool _) (ah (.int _ _) ak))));by_cases hc:ay c=0
 rotate_left
 ·cases hce hc;have z1:decide (ay c≠(0:Int))=true:=aR hc;rw[if_pos hc];refine wnY (zI3 @z1 @ai @af) ?_;exact r_4 rfl rfl rfl rfl fin0
 rw[hc] at hch;by_cases he:e=0
 rotate_left
 ·have z1:decide (e≠(0:Int))=true:=aR he;rw[if_pos he];refine wnY (zI4 @z0 @z1 @ai @af) ?_;exact r_4 rfl rfl rfl rfl fin0
 subst he;obtain⟨v',hv,hvw,hez⟩:=hcf rfl;cases hvw;rw[if_neg (fun q=>q rfl)];by_cases h1:a=[]
 ·have z1:decide ((a.length:Int)=0)=true:=by rw[h1];rfl
  rw[if_pos h1];refine wnY (zI5 @z0 @z1 @ai @af @ae) ?_;refine r_4 rfl rfl rfl rfl ?_;exact br (ah (.eslsl 1) (ah (.eslsl 1) (ah (.bool _) (ah (.int _ _) ak))))
 have z1:decide ((a.length:Int)=0)=false:=aU (by have:=jN.2 h1;omega);rw[if_neg h1];obtain⟨-,hca,hvp,-,va,vr⟩:=kf hv;have ix:=zF h1;have hsa:=(co ((n6 hca).2.1 _ (az (jN.2 h1))))
 have hv0:v≠[]:=fun e=>by
  rw[hvp] at e;cases a with
  |nil=>exact h1 rfl
  |cons x a=>cases e
 clear hvp;unfold eC at *;generalize a.getD 0 default=s at *;obtain⟨d,hd⟩:∃d,s.length=d+1:=⟨s.length-1,by omega⟩
 have hed:=mL c s.length hc hl hsa.2.1;have hr1:=da hc hl (d:=(s.length:Int)+1);have hr2:=da hc hl (d:=(s.length:Int));have hmv:=kR (X:=aB c ((s.length:Int)+1)) (Y:=aB c (s.length:Int)) (by omega) (by omega);have hso:=GU (aB c ((s.length:Int)+1)).length (dN (aB c ((s.length:Int)+1)) (aB c (s.length:Int))) v hmv (by rw[gQ];exact vr) va;have hd1:Dat (dl (aB c ((s.length:Int)+1)).length (dN (aB c ((s.length:Int)+1)) (aB c (s.length:Int)))):=cT _ _;have hsl:(s.length:Int)-1+1=s.length:=by omega
 have hsl2:(s.length:Int)-1=(d:Int):=by omega
 rw[cE] at hed hso hd1;rcases Dm (w:=v) hmv va with⟨x,q1,-,q2,q3,-,q4⟩|⟨y,q1,q2,q3,q4,-⟩
 ·have h7:s.length≤7:=by
    refine Decidable.byContradiction fun hn=>?_;rw[Bb hc (by omega),yQ] at q4;obtain⟨z,hz⟩:=List.exists_mem_of_ne_nil _ hv0;have hzr:=vr z hz;have:=q4 z.toNat (by rw[List.length_replicate];omega);rw[show((z.toNat:Nat):Int)=z by omega,dB.2 hz] at this;rw[show(List.replicate (aB c (s.length:Int)).length ([]:List Int)).getD z.toNat default=[] by rw[List.getD_eq_getElem?_getD,List.getElem?_replicate];split<;>rfl] at this;cases this
  have hcn:=wR c s.length x hl (jn hc) (by have:=fw q2 q3;omega);rw[EB hc h7 q2 q3] at hcn;rw[q1] at hso ⊢;dsimp only at hso hcn ⊢;rw[if_pos rfl];generalize en (aB c ((s.length:Int)+1)) x=b at *;generalize dN (aB c ((s.length:Int)+1)) (aB c (s.length:Int))=R at *;generalize (aB c ((s.length:Int)+1)).length=n at *;refine wnY (zI8 @z0 @z1 @ix @hsl @ai @af @ae @ao) ?_;refine r_4 rfl rfl rfl rfl ?_;exact br (ah (bI b).snap (ah (.eslsl 1) (ah (.bool _) (ah (.int _ _) ak))))
 ·rw[gQ] at q4;have hss:(s.length:Int)=(d:Int)+1:=by omega
  have hcn:=wR c d y hl (jn hc) (by have:=fw q3 q4;omega);rw[EB hc (by omega) q3 (by rw[←hss];exact q4),←hss] at hcn;rw[q1] at hso ⊢;dsimp only at hso hcn ⊢;rw[if_neg (by decide)];generalize en (aB c (s.length:Int)) y=b at *;generalize dN (aB c ((s.length:Int)+1)) (aB c (s.length:Int))=R at *;generalize (aB c ((s.length:Int)+1)).length=n at *;have hss2:(d:Int)+1=s.length:=hss.symm;refine wnY (zI9 @z0 @z1 @ix @hsl2 @hss2 @ai @af @ae @ao) ?_;refine r_4 rfl rfl rfl rfl ?_;exact br (ah (.eslsl 1) (ah (bI b).snap (ah (.bool _) (ah (.int _ _) ak))))
end Go.Proofs.YtekdaafnjdlenaaGreat
namespace Go.Proofs.YtekdaafnjdlenaaGreat
open Go Go.Abs
open Nat (reduceEqDiff reduceAdd reduceLeDiff)
attribute [local irreducible] aJ aj bf aX aP aQ aD aS a6 bk Go.Abs.Fn aV Go.Abs.Pure ar aK Yl
def HK(c:List Spx)(k:Int):Bool:=decide (c≠[])&&(decide (k<0) || decide (btF c 0=1))&&(List.range k.toNat).all fun d=>decide (btF c (d+1)=0)
theorem xp(c:List Spx)(k:Int)(hc:ay c=0)(hl:c.length≤50)(hk:-1≤k∧k<8):pU 16 [bE c,.int .i64 k] (.tup [.bool (HK c k),.int .i64 0]):=by
 refine pO KZ ?_;simp only[b16,aG];have hli:=jD c hl (jn hc);rw[hc] at hli;have hnu:=fun d hd=>u6 c d hc hl hd;have z0:decide ((0:Int)≠0)=false:=rfl;have z1:decide (k<(-1:Int))=false:=aU (by omega);have z2:decide ((8:Int)≤k)=false:=aU (by omega);have fin:∀{H:Hp}{b:Bool},Snap H (.tup [.bool b,.int .i64 0]) (.tup [.bool b,.int .i64 0]):=br (ah (.bool _) (ah (.int _ _) ak));unfold HK;by_cases h1:c=[]
 ·have z3:decide ((c.length:Int)=0)=true:=by rw[h1];rfl
  rw[aU (fun q=>q h1),Bool.false_and,Bool.false_and];refine wnY (zI7 @z0 @z1 @z2 @z3 @ai @af @ae) ?_;exact fin
 have z3:decide ((c.length:Int)=0)=false:=aU (by have:=jN.2 h1;omega);rw[aR h1,Bool.true_and];have hn0:=hnu 0 (by omega);have main:∀(T:Tm)(H:Hp)(nx:Nat),True:=fun _ _ _=>trivial;by_cases h2:k<0
 ·obtain rfl:k=-1:=by omega
  have z4:decide ((0:Int)≤ -1)=false:=rfl;have z5:decide ((1:Int)≤ -1)=false:=rfl;rw[aR h2,Bool.true_or,Bool.true_and];refine wnY (zI8 @z0 @z1 @z2 @z3 @z4 @ai @af @ae) ?_;refine lpI (X:=Nat) (fun _=>[(1,.int .i64 (-1)),(7,.int .i64 1)]) (fun _ H nx=>True) (fun k=>k) 0 trivial ?_;rintro j H nx-;refine wnY @z5 ?_;exact fin
 obtain⟨n,rfl⟩:∃n:Nat,k=n:=⟨k.toNat,by omega⟩
 have z4:decide ((0:Int)≤(n:Int))=true:=aR (by omega);rw[aU h2,Bool.false_or,cr];by_cases h3:btF c 0=1
 rotate_left
 ·have z5:decide (btF c 0≠1)=true:=aR h3;rw[aU h3,Bool.false_and];generalize btF c 0=b0 at *;refine wnY (zI9 @z0 @z1 @z2 @z3 @z4 @z5 @ai @af @ae) ?_;exact fin
 have z5:decide (btF c 0≠1)=false:=aU (fun q=>q h3);rw[aR h3,Bool.true_and];generalize btF c 0=b0 at *;refine wnY (zI9 @z0 @z1 @z2 @z3 @z4 @z5 @ai @af @ae) ?_;refine lpI (X:=Nat) (fun j=>[(1,.int .i64 n),(2,.ptr 0 1 0),(7,.int .i64 ((j:Int)+1))]) (fun j H nx=>j≤n∧H 0=some [am c]∧∀i,i<j→btF c (i+1)=0) (fun j=>n-j) 0 ⟨bB _,rfl,fun i h=>absurd h (by omega)⟩ ?_;rintro j H nx ⟨j1,g0,j2⟩;by_cases hj:j<n
 rotate_left
 ·obtain rfl:j=n:=by omega
  have z6:decide ((j:Int)+1≤(j:Int))=false:=aU (by omega);rw[tG fun i hi=>aR (j2 i hi)];refine wnY @z6 ?_;exact fin
 have z6:decide ((j:Int)+1≤(n:Int))=true:=aR (by omega);have hnj:=hnu (j+1) (by omega);rw[show((j+1:Nat):Int)=(j:Int)+1 by omega] at hnj;by_cases h6:btF c (j+1)=0
 ·have z7:decide (btF c (j+1)≠0)=false:=aU (fun q=>q h6)
  have j3:∀i,i<j+1→btF c (i+1)=0:=fun i hi=>by
   rcases(by omega:i<j∨i=j) with h|rfl
   ·exact j2 i h
   ·exact h6
  refine wnY (zI5 @z6 @z7 @g0 @ai @af) ?_;exact⟨j+1,by omega,⟨by omega,g0,j3⟩,ag0⟩
 ·have z7:decide (btF c (j+1)≠0)=true:=aR h6;rw[ry hj (aU h6)];refine wnY (zI5 @z6 @z7 @g0 @ai @af) ?_;exact fin
end Go.Proofs.YtekdaafnjdlenaaGreat
namespace Go.Proofs.YtekdaafnjdlenaaGreat
open Go Go.Abs
open Nat (reduceEqDiff reduceAdd reduceLeDiff)
attribute [local irreducible] aJ aj bf aX aP aQ aD aS a6 bk Go.Abs.Fn aV Go.Abs.Pure ar aK Yl
end Go.Proofs.YtekdaafnjdlenaaGreat
namespace Go.Proofs.YtekdaafnjdlenaaGreat
open Go Go.Abs
attribute [local irreducible] aJ aj bf aX aP aQ aD aS a6 bk Go.Abs.Fn aV Go.Abs.Pure ar aK Yl
end Go.Proofs.YtekdaafnjdlenaaGreat
namespace Go.Proofs.YtekdaafnjdlenaaGreat
open Go Go.Abs
theorem jf.lenS{H:Hp}{s:AV}{l:List (List Int)}(h:jf H s l):dw s=some (.int .i64 l.length):=by
 rcases h with rfl|h
 ·exact cz
 ·exact h.lenS (by rw[bt,Nat.mul_one]) lC
def B6(c:List Spx)(d:Nat)(l:List (List Int)):Bool:=decide (rk (bdM c d++l) (bdN c d)=rk (bdM c d) (bdN c d)+l.length)
attribute [local irreducible] aJ aj bf aX aP aQ aD aS a6 bk Go.Abs.Fn aV Go.Abs.Pure ar aK Yl
end Go.Proofs.YtekdaafnjdlenaaGreat
namespace Go.Proofs.YtekdaafnjdlenaaGreat
open Go Go.Abs
def onL(l:List (Nat×List AV)):Hp:=fun x=>(l.find? fun p=>decide (p.1=x)).map Prod.snd
theorem G6{H:Hp}{l:List (Nat×List AV)}(h:∀p∈l,H p.1=some p.2):Sub (onL l) H:=fun x cs hx=>by
 unfold onL at hx;obtain⟨p,hp,rfl⟩:=Option.map_eq_some_iff.1 hx;have h1:=List.mem_of_find?_eq_some hp;have h2:=pW (List.find?_some (p:=fun p:Nat×List AV=>decide (p.1=x)) hp);rw[←h2];exact h p h1
theorem JB{H:Hp}{l1:List (Nat×List AV)}{l2:List (Nat×AV×AV)}(h1:∀p∈l1,H p.1=some p.2)(h2:∀q∈l2,H q.1=some [q.2.1]∧onL l1 q.1=none∧Snap (onL l1) q.2.1 q.2.2):Fz (onL l1) H (onL (l2.map fun q=>(q.1,[q.2.2]))) where
 sub:=G6 h1
 to:=fun a cs' h=>by
  have h0:=h;unfold onL at h;obtain⟨p,hp,rfl⟩:=Option.map_eq_some_iff.1 h;have g1:=List.mem_of_find?_eq_some hp;have g2:=pW (List.find?_some (p:=fun p:Nat×List AV=>decide (p.1=a)) hp);obtain⟨q,hq,rfl⟩:=bK.1 g1;obtain⟨k1,k2,k3⟩:=h2 q hq;dsimp only at g2 ⊢;rw[g2] at k1 k2;refine⟨[q.2.1],k1,k2,rfl,fun i u v hu hv=>?_⟩
  match i with
  |0=>simp at hu hv;subst hu;subst hv;exact .inr k3
  |i+1=>simp at hu
attribute [local irreducible] aJ aj bf aX aP aQ aD aS a6 bk Go.Abs.Fn aV Go.Abs.Pure ar aK Yl
theorem nK(l:List Int)(hl:l.length≤1000):PureF Tryz.prog 42 [aC l] (aA (dX l)):=by
 refine qO NT ?_;simp only[b42,aG];refine wnY and_self ?_;refine bT (X:=AV×Nat) (fun x=>[(3,x.1),(6,aC l),(7,.int .i64 l.length),(8,.int .i64 x.2)]) (fun x H nx=>x.2≤l.length∧Row H 2 x.1 (cX (dX (l.take x.2)))∧∀b,bF x.1=some b→b<nx) (fun x=>l.length-x.2) (.esl,0) ⟨bB _,Row.nil,fun b hb=>(by cases hb)⟩ ag0 ?_;rintro⟨sv,k⟩ H nx ⟨k1,k3,k4⟩;dsimp only at k1 k3 k4 ⊢;by_cases hk:k<l.length
 rotate_left
 ·rw[fM (by omega)] at k3;refine wnY and_self ?_;exact rB k3
 have ix:=ixV hk;have hpt:=Dz hk;have hcl:(cX (dX (l.take k))).length=k*2:=by rw[gA];unfold dX;rw[bt,f0];omega
 refine wnY @ix ?_;refine eR (k3.same fun b hb=>?_) ?_
 ·have:=k4 b hb;rw[ac (by omega)]
 rintro s2 E e hrow hle1 hle2 hsame hb2;refine wnY and_self ?_;refine⟨(s2,k+1),by dsimp only;omega,⟨by dsimp only;omega,?_,fun b hb=>?_⟩,ag0⟩
 ·dsimp only;rw[hpt,mI];exact hrow
 ·rcases hb2 b hb with h|h
  ·have:=k4 b h;omega
  ·omega
end Go.Proofs.YtekdaafnjdlenaaGreat
namespace Go.Proofs.YtekdaafnjdlenaaGreat
open Go Go.Abs
def cV:List Spx:=[dX [0,1],dX [0,2],dX [1,2]]
def gu:List Spx:=[dX [0,1,2]]
def ml:List Spx:=[dX [0,1,2],dX [0,1,3],dX [0,2,3],dX [1,2,3]]
theorem uW:ay cV=0:=by decide+kernel
theorem Bm:ay gu=0:=by decide+kernel
theorem F7:ay ml=0:=by decide+kernel
theorem tn{c:List Spx}(h:ay c=0):∀s∈c,Shn s:=jn h
theorem Eh:pU 13 [bE cV] (.tup [aC [1,1],.int .i64 0]):=by
 have h:=pu cV 2 uW (by decide) (by decide+kernel) (by decide)
 rwa [show btL cV 2=[1,1] by decide+kernel] at h
theorem FT:pU 13 [bE gu] (.tup [aC [1,0,0],.int .i64 0]):=by
 have h:=pu gu 3 Bm (by decide) (by decide+kernel) (by decide)
 rwa [show btL gu 3=[1,0,0] by decide+kernel] at h
theorem F0:pU 13 [bE ml] (.tup [aC [1,0,1],.int .i64 0]):=by
 have h:=pu ml 3 F7 (by decide) (by decide+kernel) (by decide)
 rwa [show btL ml 3=[1,0,1] by decide+kernel] at h
theorem IZ:pU 18 [bE cV,.int .i64 1] (.tup [fH [cV],.int .i64 0]):=by
 have h:=CA cV 1 (qC.le EN (by decide+kernel)) uW (by decide) (by decide) (by decide+kernel)
 rwa [show cyT cV 1=[cV] by decide+kernel] at h
theorem zf:ShC cV:=⟨by decide,by decide⟩
theorem JU:ShC gu:=⟨by decide,by decide⟩
theorem N2:ShC [dX [0,1]]:=⟨by decide,by decide⟩
theorem Kw:ShC [dX [1,2]]:=⟨by decide,by decide⟩
theorem MU:ShC []:=⟨by decide,by decide⟩
theorem IT:pU 21 [bE cV,am cV] (.tup [am [],am [dX [0,1]],.bool false,.int .i64 0]):=by
 have h:=zt cV cV (by decide) (tn uW) zf
 rwa [show An cV cV=([],[dX [0,1]],false,0) by decide+kernel] at h
theorem JH:pU 21 [bE gu,am cV] (.tup [am gu,am [],.bool true,.int .i64 0]):=by
 have h:=zt gu cV (by decide) (tn Bm) zf
 rwa [show An gu cV=(gu,[],true,0) by decide+kernel] at h
theorem Fc:pU 15 [bE ml,.int .i64 1] (.tup [.bool true,.int .i64 0]):=by
 have h:=kS ml 3 1 F7 (by decide) (by decide+kernel) (by decide) (by decide)
 rwa [show DN (btL ml 3) 1=true by decide+kernel] at h
theorem F6:pU 15 [bE ml,.int .i64 2] (.tup [.bool false,.int .i64 0]):=by
 have h:=kS ml 3 2 F7 (by decide) (by decide+kernel) (by decide) (by decide)
 rwa [show DN (btL ml 3) 2=false by decide+kernel] at h
theorem Gd:pU 27 [bE cV,am cV,am [dX [0,1]]] (.int .i64 0):=by
 have h:=nT cV cV [dX [0,1]] (by decide) (tn uW) zf N2
 rwa [show rfT cV cV [dX [0,1]]=0 by decide+kernel] at h
theorem FJ:pU 27 [bE cV,am cV,am [dX [1,2]]] (.int .i64 0):=by
 have h:=nT cV cV [dX [1,2]] (by decide) (tn uW) zf Kw
 rwa [show rfT cV cV [dX [1,2]]=0 by decide+kernel] at h
theorem E7:pU 27 [bE gu,am cV,am [dX [1,2]]] (.int .i64 18):=by
 have h:=nT gu cV [dX [1,2]] (by decide) (tn Bm) zf Kw
 rwa [show rfT gu cV [dX [1,2]]=18 by decide+kernel] at h
theorem EK:pU 25 [bE gu,am cV,am gu] (.int .i64 0):=by
 have h:=vv gu cV gu (by decide) (tn Bm) zf JU
 rwa [show BB gu cV gu=0 by decide+kernel] at h
theorem B4:pU 25 [bE cV,am cV,am []] (.int .i64 18):=by
 have h:=vv cV cV [] (by decide) (tn uW) zf MU
 rwa [show BB cV cV []=18 by decide+kernel] at h
theorem K1:pU 17 [aC [1,1],aC [1,1]] (.bool true):=by
 have:=pm [1,1] [1,1] (by decide) (by decide)
 rwa [aR rfl] at this
theorem Ke:pU 17 [aC [1,0,0],aC [1,0,0]] (.bool true):=by
 have:=pm [1,0,0] [1,0,0] (by decide) (by decide)
 rwa [aR rfl] at this
theorem J1:pU 17 [aC [1,0,1],aC [1,0,1]] (.bool true):=by
 have:=pm [1,0,1] [1,0,1] (by decide) (by decide)
 rwa [aR rfl] at this
theorem K9(l:List Spx)(h:ShC l):pU 23 [am l,am l] (.bool true):=by
 have:=CC l l h.1 h.1 h.2 h.2
 rwa [aR rfl] at this
attribute [local irreducible] aJ aj bf aX aP aQ aD aS a6 bk Go.Abs.Fn aV Go.Abs.Pure ar aK Yl
set_option maxHeartbeats 4000000 in
theorem Cl:pU 12 [] (.bool true):=by
 refine pO NP ?_;simp only[b12,aG];have o01:PureF Tryz.prog 42 [aC [0,1]] (aA (dX [0,1])):=nK _ (by decide);have o02:PureF Tryz.prog 42 [aC [0,2]] (aA (dX [0,2])):=nK _ (by decide);have o12:PureF Tryz.prog 42 [aC [1,2]] (aA (dX [1,2])):=nK _ (by decide);have o012:PureF Tryz.prog 42 [aC [0,1,2]] (aA (dX [0,1,2])):=nK _ (by decide);have o013:PureF Tryz.prog 42 [aC [0,1,3]] (aA (dX [0,1,3])):=nK _ (by decide);have o023:PureF Tryz.prog 42 [aC [0,2,3]] (aA (dX [0,2,3])):=nK _ (by decide);have o123:PureF Tryz.prog 42 [aC [1,2,3]] (aA (dX [1,2,3])):=nK _ (by decide);have zz:=aI @a7 (aI @aL (aI @ai @af));repeat' (first|refine zW ?_|apply a_n|refine zO ?_|refine vZ ?_|refine blZ ?_|fail)
 refine fI ev0 ev0 o01 (ah (d8 (n:=2) (len:=2) (l:=[0,1]) (by exact rfl) rfl rfl) ak) ?_;clear zz;have zz:=aI @a7 (aI @aL (aI @ai @af));repeat' (first|apply a_n|refine zO ?_|refine blZ ?_|fail)
 refine fI ev0 ev0 o02 (ah (d8 (n:=2) (len:=2) (l:=[0,2]) (by exact rfl) rfl rfl) ak) ?_;clear zz;have zz:=aI @a7 (aI @aL (aI @ai @af));repeat' (first|apply a_n|refine zO ?_|refine blZ ?_|fail)
 refine fI ev0 ev0 o12 (ah (d8 (n:=2) (len:=2) (l:=[1,2]) (by exact rfl) rfl rfl) ak) ?_;clear zz;have zz:=aI @a7 (aI @aL (aI @ai @af));repeat' (first|refine zW ?_|apply a_n|refine zO ?_|refine vZ ?_|refine blZ ?_|fail)
 refine fI ev0 ev0 o012 (ah (d8 (n:=3) (len:=3) (l:=[0,1,2]) (by exact rfl) rfl rfl) ak) ?_;clear zz;have zz:=aI @a7 (aI @aL (aI @ai @af));repeat' (first|refine zW ?_|apply a_n|refine zO ?_|refine vZ ?_|refine alZ ?_|refine stZ ?_|refine blZ ?_|fail)
 refine fI ev0 ev0 o012 (ah (d8 (n:=3) (len:=3) (l:=[0,1,2]) (by exact rfl) rfl rfl) ak) ?_;clear zz;have zz:=aI @a7 (aI @aL (aI @ai @af));repeat' (first|apply a_n|refine zO ?_|refine blZ ?_|fail)
 refine fI ev0 ev0 o013 (ah (d8 (n:=3) (len:=3) (l:=[0,1,3]) (by exact rfl) rfl rfl) ak) ?_;clear zz;have zz:=aI @a7 (aI @aL (aI @ai @af));repeat' (first|apply a_n|refine zO ?_|refine blZ ?_|fail)
 refine fI ev0 ev0 o023 (ah (d8 (n:=3) (len:=3) (l:=[0,2,3]) (by exact rfl) rfl rfl) ak) ?_;clear zz;have zz:=aI @a7 (aI @aL (aI @ai @af));repeat' (first|apply a_n|refine zO ?_|refine blZ ?_|fail)
 refine fI ev0 ev0 o123 (ah (d8 (n:=3) (len:=3) (l:=[1,2,3]) (by exact rfl) rfl rfl) ak) ?_;clear zz;have zz:=aI @a7 (aI @aL (aI @ai @af));repeat' (first|apply a_n|refine zO ?_|refine vZ ?_|refine alZ ?_|refine stZ ?_|refine blZ ?_|fail)
 refine dD ?_;refine pr (onL [(3,[aA (dX [0,1]),aA (dX [0,2]),aA (dX [1,2])]),(5,[aA (dX [0,1,2])]),(12,[aA (dX [0,1,2]),aA (dX [0,1,3]),aA (dX [0,2,3]),aA (dX [1,2,3])])]) _ [(1,am cV),(2,.ptr 6 1 0),(3,.ptr 7 1 0),(4,.ptr 13 1 0)] (JB (l2:=[(6,.msl 3 3 1 0 3,am cV),(7,.msl 5 1 1 0 1,am gu),(13,.msl 12 4 1 0 4,am ml)]) ?_ ?_) ⟨.inr (pd (l:=cV) rfl rfl),.inl rfl,.inl rfl,.inl rfl,trivial⟩ ?_
 ·intro p hp;simp only[cW,List.not_mem_nil,or_false] at hp;rcases hp with rfl|rfl|rfl<;>exact rfl
 ·intro q hq;simp only[cW,List.not_mem_nil,or_false] at hq;rcases hq with rfl|rfl|rfl
  ·exact⟨rfl,rfl,pd (l:=cV) rfl rfl⟩
  ·exact⟨rfl,rfl,pd (l:=gu) rfl rfl⟩
  ·exact⟨rfl,rfl,pd (l:=ml) rfl rfl⟩
 have h6:onL ([(6,AV.msl 3 3 1 0 3,am cV),(7,.msl 5 1 1 0 1,am gu),(13,.msl 12 4 1 0 4,am ml)].map fun q=>(q.1,[q.2.2])) 6=some [am cV]:=rfl;have h7:onL ([(6,AV.msl 3 3 1 0 3,am cV),(7,.msl 5 1 1 0 1,am gu),(13,.msl 12 4 1 0 4,am ml)].map fun q=>(q.1,[q.2.2])) 7=some [am gu]:=rfl;have h13:onL ([(6,AV.msl 3 3 1 0 3,am cV),(7,.msl 5 1 1 0 1,am gu),(13,.msl 12 4 1 0 4,am ml)].map fun q=>(q.1,[q.2.2])) 13=some [am ml]:=rfl;generalize onL ([(6,AV.msl 3 3 1 0 3,am cV),(7,.msl 5 1 1 0 1,am gu),(13,.msl 12 4 1 0 4,am ml)].map fun q=>(q.1,[q.2.2]))=HH at *;have sl2:jH 1 (am cV) (some (.int .i64 2)) none none=some (am [dX [1,2]]):=rfl;have lc1:dw (fH [cV])=some (.int .i64 1):=rfl;have z18:ey 1 (fH [cV]) (.int .i64 0)=some (.iptr [am cV] 0):=rfl;have s1:=K9 cV zf;have hce:∀c:List Spx,AV.agg [am c]=bE c:=fun _=>rfl;clear zz;have zz:=aI @h6 (aI @h7 (aI @h13 (aI @sl2 (aI @lc1 (aI @z18 (aI @a7 (aI @aL (aI @ai @af))))))));repeat' (first|refine zW ?_|apply a_n|refine zO ?_|refine vZ ?_|refine cZ ?_ (hp:=by first|exact Eh|exact FT|exact F0|exact IZ|exact IT|exact JH|exact Fc|exact F6|exact Gd|exact FJ|exact E7|exact EK|exact B4|exact s1) (hs:=by(first|refine aF ?_ rfl|apply aY);(repeat' (first|exact ak|apply bv|apply a5|exact bI _|exact cw _|exact jv _|exact cp _));first|done|fail)|refine blZ ?_|refine gTZ ?_|(refine zGZ ?_ ?_<;>(intro _hg;try (exfalso;omega)))|fail)
 refine ed ev0 ev0 K1 (aF (ah (cp _ _) (ah (d8 (n:=2) (len:=2) (l:=[1,1]) (by exact rfl) rfl rfl) ak)) rfl) ?_;clear zz;have zz:=aI @h6 (aI @h7 (aI @h13 (aI @sl2 (aI @lc1 (aI @z18 (aI @a7 (aI @aL (aI @ai @af))))))));repeat' (first|apply a_n|refine zO ?_|refine vZ ?_|refine blZ ?_|refine gTZ ?_|fail)
 refine ed ev0 ev0 Ke (aF (ah (cp _ _) (ah (d8 (n:=3) (len:=3) (l:=[1,0,0]) (by exact rfl) rfl rfl) ak)) rfl) ?_;clear zz;have zz:=aI @h6 (aI @h7 (aI @h13 (aI @sl2 (aI @lc1 (aI @z18 (aI @a7 (aI @aL (aI @ai @af))))))));repeat' (first|apply a_n|refine zO ?_|refine vZ ?_|refine blZ ?_|refine gTZ ?_|fail)
 refine ed ev0 ev0 J1 (aF (ah (cp _ _) (ah (d8 (n:=3) (len:=3) (l:=[1,0,1]) (by exact rfl) rfl rfl) ak)) rfl) ?_;clear zz;have zz:=aI @h6 (aI @h7 (aI @h13 (aI @sl2 (aI @lc1 (aI @z18 (aI @a7 (aI @aL (aI @ai @af))))))));repeat' (first|refine zW ?_|apply a_n|refine zO ?_|refine vZ ?_|refine cZ ?_ (hp:=by first|exact Eh|exact FT|exact F0|exact IZ|exact IT|exact JH|exact Fc|exact F6|exact Gd|exact FJ|exact E7|exact EK|exact B4|exact s1) (hs:=by(first|refine aF ?_ rfl|apply aY);(repeat' (first|exact ak|apply bv|apply a5|exact bI _|exact cw _|exact jv _|exact cp _));first|done|fail)|refine blZ ?_|refine gTZ ?_|(refine zGZ ?_ ?_<;>(intro _hg;try (exfalso;omega)))|refine cFZ ?_|fail)
 refine fI ev0 ev0 o012 (ah (d8 (n:=3) (len:=3) (l:=[0,1,2]) (by exact rfl) rfl rfl) ak) ?_;clear zz;have zz:=aI @h6 (aI @h7 (aI @h13 (aI @sl2 (aI @lc1 (aI @z18 (aI @a7 (aI @aL (aI @ai @af))))))));repeat' (first|apply a_n|refine zO ?_|refine blZ ?_|refine gTZ ?_|fail)
 refine ed ev0 ev0 (K9 gu JU) (aF (ah (bI _ _) (ah (pd (b:=18) (n:=1) (l:=gu) (by exact rfl) rfl) ak)) rfl) ?_;clear zz;have zz:=aI @h6 (aI @h7 (aI @h13 (aI @sl2 (aI @lc1 (aI @z18 (aI @a7 (aI @aL (aI @ai @af))))))));repeat' (first|refine zW ?_|apply a_n|refine zO ?_|refine vZ ?_|refine gTZ ?_|refine cFZ ?_|fail)
 try refine Go.Abs.w_mix1 ?_
 clear zz;have zz:=aI @h6 (aI @h7 (aI @h13 (aI @sl2 (aI @lc1 (aI @z18 (aI @a7 (aI @aL (aI @ai @af))))))));repeat' (first|apply a_n|refine zO ?_|refine vZ ?_|refine cZ ?_ (hp:=by first|exact Eh|exact FT|exact F0|exact IZ|exact IT|exact JH|exact Fc|exact F6|exact Gd|exact FJ|exact E7|exact EK|exact B4|exact s1) (hs:=by(first|refine aF ?_ rfl|apply aY);(repeat' (first|exact ak|apply bv|apply a5|exact bI _|exact cw _|exact jv _|exact cp _));first|done|fail)|refine gTZ ?_|(refine zGZ ?_ ?_<;>(intro _hg;try (exfalso;omega)))|fail)
 refine ed ev0 ev0 B4 (aF (ah (cw _ _) (ah (bI _ _) (ah (.eslsl 1) ak))) rfl) ?_
 repeat' (first|apply a_n|refine zO ?_|refine vZ ?_|refine gTZ ?_|refine bR rfl ?_|refine r1Z ?_|fail)
 exact .bool _
end Go.Proofs.YtekdaafnjdlenaaGreat
namespace Go.Proofs.YtekdaafnjdlenaaGreat
open Go Go.Abs
open Nat (reduceEqDiff reduceAdd reduceLeDiff)
attribute [local irreducible] aJ aj bf aX aP aQ aD aS a6 bk Go.Abs.Fn aV Go.Abs.Pure ar aK Yl
theorem Eb(c:List Spx)(hc:ay c≠0)(hl:c.length≤50)(hs:∀s∈c,Shn s):pU 13 [bE c] (.tup [aC [],.int .i64 (ay c)]):=by
 refine pO K0 ?_;simp only[b13,aG];have h:=kN c hl hs;have z:decide (ay c≠(0:Int))=true:=aR hc;refine wnY (zI3 @z @ai @af) ?_;exact ie (.eslsl 1) rfl
theorem DS(c:List Spx)(hc:ay c≠0)(hl:c.length≤50)(hs:∀s∈c,Shn s):pU 14 [bE c] (.tup [aC [],.int .i64 (ay c)]):=by
 refine pO Ls ?_;simp only[b14,aG];have h:=jD c hl hs;have z:decide (ay c≠(0:Int))=true:=aR hc;refine wnY (zI3 @z @ai @af) ?_;exact ie (.eslsl 1) rfl
def dE(c:List Spx)(lo:Int)(d:Int):Int:=if ay c≠0 then ay c else if d<lo∨8≤d then 2 else 0
theorem Ns{c:List Spx}{lo d:Int}(h:dE c lo d=0):ay c=0∧lo≤d∧d<8:=by
 unfold dE at h;split at h
 ·rename_i q;exact absurd h q
 ·rename_i q;split at h
  ·exact absurd h (by decide)
  ·exact⟨by simpa using q,by omega,by omega⟩
theorem wX(c:List Spx)(k:Int)(he:dE c (-1) k≠0)(hl:c.length≤50)(hs:∀s∈c,Shn s):pU 15 [bE c,.int .i64 k] (.tup [.bool false,.int .i64 (dE c (-1) k)]):=by
 refine pO KX ?_;simp only[b15,aG];have h:=kN c hl hs;unfold dE at *;by_cases hc:ay c=0
 ·have z:decide (ay c≠(0:Int))=false:=aU (fun q=>q hc);rw[if_neg (fun q=>q hc)] at he ⊢;have hd:k< -1∨8≤k:=Classical.byContradiction fun q=>he (if_neg q);rw[if_pos hd];have zz:=aI @z (aI @ai @af);repeat' (first|refine zW ?_|apply a_n|apply a_r|refine zO ?_|refine vY ?_|refine cY ?_ (hp:=h) (hs:=by(first|refine aF ?_ rfl|apply aY);(repeat' (first|exact ak|apply bv|apply a5|exact cw _));first|done|fail)|refine bxY ?_|refine gTY ?_|refine gFY ?_|refine cTY ?_|refine cFY ?_|(refine zGY ?_ ?_<;>(intro _hg;try (exfalso;omega)))|refine bR rfl ?_|refine r2Y ?_|fail)
  all_goals first|exact br (ah (.bool _) (ah (.int _ _) ak))|(exfalso;omega)
 ·have z:decide (ay c≠(0:Int))=true:=aR hc;rw[if_pos hc];refine wnY (zI3 @z @ai @af) ?_;exact br (ah (.bool _) (ah (.int _ _) ak))
theorem uk(c:List Spx)(k:Int)(he:dE c (-1) k≠0)(hl:c.length≤50)(hs:∀s∈c,Shn s):pU 16 [bE c,.int .i64 k] (.tup [.bool false,.int .i64 (dE c (-1) k)]):=by
 refine pO KZ ?_;simp only[b16,aG];have h:=jD c hl hs;unfold dE at *;by_cases hc:ay c=0
 ·have z:decide (ay c≠(0:Int))=false:=aU (fun q=>q hc);rw[if_neg (fun q=>q hc)] at he ⊢;have hd:k< -1∨8≤k:=Classical.byContradiction fun q=>he (if_neg q);rw[if_pos hd];have zz:=aI @z (aI @ai @af);repeat' (first|refine zW ?_|apply a_n|apply a_r|refine zO ?_|refine vY ?_|refine cY ?_ (hp:=h) (hs:=by(first|refine aF ?_ rfl|apply aY);(repeat' (first|exact ak|apply bv|apply a5|exact cw _));first|done|fail)|refine bxY ?_|refine gTY ?_|refine gFY ?_|refine cTY ?_|refine cFY ?_|(refine zGY ?_ ?_<;>(intro _hg;try (exfalso;omega)))|refine bR rfl ?_|refine r2Y ?_|fail)
  all_goals first|exact br (ah (.bool _) (ah (.int _ _) ak))|(exfalso;omega)
 ·have z:decide (ay c≠(0:Int))=true:=aR hc;rw[if_pos hc];refine wnY (zI3 @z @ai @af) ?_;exact br (ah (.bool _) (ah (.int _ _) ak))
def s0(c:List Spx)(l:List (List Spx)):Bool:=l.all uh&&(kI c&&decide (pT c c.length≤400))
theorem Hw(c:List Spx)(l:List (List Spx))(hc:Shn c)(hs:∀s∈c,Shn s)(hl:Shn l)(ha:∀a∈l,ShC a):pU 11 [bE c,fH l] (.bool (s0 c l)):=by
 refine pO Nq ?_;simp only[b11,aG];have hc':c.length≤17592186044416:=hc;have hl':l.length≤17592186044416:=hl;have f1:=Gu c hc hs;unfold s0;refine wnY (zI3 @ai @af @ud) ?_;refine lpI (X:=Nat) (fun k=>[(2,.ptr 0 1 0),(10,fH l),(11,.int .i64 l.length),(12,.int .i64 k)]) (fun k H nx=>k≤l.length∧H 0=some [am c]∧∀i,i<k→uh (l.getD i default)=true) (fun k=>l.length-k) 0 ⟨bB _,rfl,fun i h=>absurd h (by omega)⟩ ?_;rintro k H nx ⟨k1,g0,k2⟩;by_cases hk:k<l.length
 ·have ix:=Nm hk;have hf:=It (l.getD k default) (ha _ (az hk));cases hv:uh (l.getD k default)
  ·rw[iS hk hv,Bool.false_and];rw[hv] at hf;generalize l.getD k default=a at *;refine wnY @ix ?_;exact .bool _
  ·rw[hv] at hf
   have k3:∀i,i<k+1→uh (l.getD i default)=true:=fun i hi=>by
    rcases(by omega:i<k∨i=k) with h|rfl
    ·exact k2 i h
    ·exact hv
   generalize l.getD k default=a at *;refine wnY @ix ?_;exact⟨k+1,by omega,⟨by omega,g0,k3⟩,ag0⟩
 obtain rfl:k=l.length:=by omega
 rw[jW k2,Bool.true_and];refine wnY (aI @g0 @ae) ?_;clear k2 k1 hk;refine lpI (X:=Nat) (fun k=>[(2,.ptr 0 1 0),(7,.int .i64 (pT c k)),(21,am c),(22,.int .i64 c.length),(23,.int .i64 k)]) (fun k H nx=>k≤c.length∧H 0=some [am c]) (fun k=>c.length-k) 0 ⟨bB _,g0⟩ ?_;clear g0;rintro k H nx ⟨g1,g2⟩;have hb:=wB (c:=c) k;by_cases hk:k<c.length
 ·have ix:=ec hk;have hsl:(c.getD k default).length≤17592186044416:=hs _ (az hk);have hb2:=wB (c:=c) (k+1);have hfs:pT c (k+1)=pT c k+2^min (c.getD k default).length 10:=rfl
  have hsh:∀tb tf,bq .shl tb tf (.int .i64 1) (.int .i64 (min ((c.getD k default).length:Int) 10))=some (.int .i64 ((2^min (c.getD k default).length 10:Nat):Int)):=fun tb tf=>by
   have h1:min ((c.getD k default).length:Int) 10=((min (c.getD k default).length 10:Nat):Int):=by omega
   have h2:2^min (c.getD k default).length 10≤2^10:=Nat.pow_le_pow_right (by omega) (by omega);rw[h1];have:=BJ (k:=.i64) (k':=.i64) (a:=1) (b:=min (c.getD k default).length 10) (tb:=tb) (tf:=tf) (by show _≤64;omega) (by show 1*_<2^63;omega);rw[Nat.one_mul] at this;exact this
  rw[hfs] at hb2;generalize 2^min (c.getD k default).length 10=P at *;generalize c.getD k default=s at *;have hce:((pT c (k+1):Nat):Int)=(pT c k:Int)+(P:Int):=by rw[hfs];omega
  refine wnY (zI3 @ix @ao @hsh) ?_;exact⟨k+1,by omega,⟨by omega,g2⟩,by rw[hce];simp (disch:=omega) only[agr,ZG,reduceEqDiff,↓reduceIte]⟩
 obtain rfl:k=c.length:=by omega
 cases e1:kI c
 ·rw[e1] at f1;rw[Bool.false_and];refine wnY (zI3 @g2 @ai @af) ?_;exact .bool _
 rw[e1] at f1;rw[Bool.true_and];by_cases h3:pT c c.length≤400
 ·have z:decide ((pT c c.length:Int)≤400)=true:=aR (by omega);rw[aR h3];refine wnY (zI4 @g2 @z @ai @af) ?_;exact .bool _
 ·have z:decide ((pT c c.length:Int)≤400)=false:=aU (by omega);rw[aU h3];refine wnY (zI4 @g2 @z @ai @af) ?_;exact .bool _
theorem CZ{c:List Spx}{l:List (List Spx)}(h:s0 c l=true):(∀a∈l,uh a=true)∧c.length≤30∧pT c c.length≤400:=by
 unfold s0 at h;simp only[dz,f8] at h;exact⟨fun a ha=>ea.1 h.1 a ha,(Au.1 h.2.1).1,h.2.2⟩
end Go.Proofs.YtekdaafnjdlenaaGreat
namespace Go.Proofs.YtekdaafnjdlenaaGreat
open Go Go.Abs
theorem HB{c:List Spx}{m d:Nat}(hm:fW c=m)(hd:m≤d):btF c d=0:=by
 unfold btF;rw[BO hm hd,BO hm (by omega),mZ,x5 hm (by omega)];rfl
theorem Jy{c:List Spx}{m:Nat}(hc:ay c=0)(hm:fW c=m):m=0↔c=[]:=by
 constructor
 ·intro h;refine Classical.byContradiction fun h0=>?_;have hp:=jN.2 h0;have h1:=xD (c:=c) (aO _) 0 hp;have h2:=(co ((cK hc).2.1 _ (az hp))).1;unfold fW at hm;omega
 ·intro h;subst h;have:fW []=0:=rfl;omega
theorem Gr{c:List Spx}{m:Nat}:btL c (m+1)=btF c 0::(List.range m).map fun d=>btF c (d+1):=by
 unfold btL;rw[List.range_succ_eq_map,fB,List.map_map];rfl
theorem Je{c:List Spx}{m:Nat}{k:Int}(hc:ay c=0)(hm:fW c=m)(hk:-1≤k):DN (btL c m) k=HK c k:=by
 have h0:=Jy hc hm;unfold HK;cases m with
 |zero=>
  rw[aU (show ¬(c≠[]) from fun q=>q (h0.1 rfl))];rfl
 |succ m=>
  rw[aR (show c≠[] from fun q=>by have:=h0.2 q;omega),Bool.true_and,Gr];unfold DN;rw[Bool.eq_iff_iff];simp only[bt,List.length_range,Bool.not_eq_true',dz,ke,f8,ea,dT,List.any_eq_false,List.mem_iff_getElem];by_cases hn:k<0
  ·obtain rfl:k=-1:=by omega
   constructor
   ·intro _
    exact ⟨.inl hn,fun d hd=>by
     obtain⟨i,hi,-⟩:=hd;simp at hi⟩
   ·rintro-x ⟨i,hi,-⟩;simp at hi;omega
  ·obtain⟨n,rfl⟩:∃n:Nat,k=n:=⟨k.toNat,by omega⟩
   have hr:∀d:Nat,(∃i,∃h:i<((n:Nat):Int).toNat,(List.range ((n:Nat):Int).toNat)[i]'(by rw[List.length_range];exact h)=d)↔d<n:=fun d=>by
    simp only[List.getElem_range,cr];exact⟨fun⟨i,h,e⟩=>e▸h,fun h=>⟨d,h,rfl⟩⟩
   obtain⟨N,e,hN1,hN2,hN3⟩:∃N:Nat,(min ((n:Int)+1) ((m+1:Nat):Int)).toNat=N+1∧N≤n∧N≤m∧(N=n∨N=m):=⟨min n m,by omega,by omega,by omega,by omega⟩
   rw[e,List.take_succ_cons,←List.map_take,List.take_range,Nat.min_eq_left hN2];constructor
   ·intro h;refine⟨.inr ?_,fun d hd=>?_⟩
    ·have:=h (btF c 0-1) ⟨0,by simp,rfl⟩;omega
    ·have hd2:d<n:=(hr d).1 hd;by_cases hdm:d<m
     ·have hdN:d<N:=by
        rcases hN3 with rfl|rfl
        ·exact hd2
        ·exact hdm
      have:=h (btF c (d+1)) ⟨d+1,by simp only[bO,bt,List.length_range];exact Nat.succ_lt_succ hdN,by simp⟩;omega
     ·exact HB hm (by omega)
   ·rintro⟨h1,h2⟩ x ⟨i,hi,rfl⟩;cases i with
    |zero=>
     rw[List.getElem_cons_zero];rcases h1 with h1|h1
     ·omega
     ·omega
    |succ i=>
     simp only[bO,bt,List.length_range] at hi;simp only[List.getElem_cons_succ,List.getElem_map,List.getElem_range];have hiN:i<N:=Nat.lt_of_succ_lt_succ hi;have:=h2 i ((hr i).2 (yj hiN hN1));exact fun q=>q this
theorem Az(c:List Spx)(hl:c.length≤50)(hs:∀s∈c,Shn s):∃L e,L.length≤1000∧pU 13 [bE c] (.tup [aC L,.int .i64 e])∧pU 14 [bE c] (.tup [aC L,.int .i64 e]):=by
 by_cases hc:ay c=0
 ·obtain⟨m,hm,hm8⟩:=yh hc;exact⟨_,_,by rw[xn];omega,pu c m hc hl hm hm8,Fm c m hc hl hm hm8⟩
 ·exact⟨_,_,bB _,Eb c hc hl hs,DS c hc hl hs⟩
theorem EC(c:List Spx)(k:Int)(hl:c.length≤50)(hs:∀s∈c,Shn s):∃b e,pU 15 [bE c,.int .i64 k] (.tup [.bool b,.int .i64 e])∧pU 16 [bE c,.int .i64 k] (.tup [.bool b,.int .i64 e]):=by
 by_cases he:dE c (-1) k=0
 ·obtain⟨hc,h1,h2⟩:=Ns he;obtain⟨m,hm,hm8⟩:=yh hc;have a:=kS c m k hc hl hm hm8 ⟨h1,h2⟩;rw[Je hc hm h1] at a;exact⟨_,_,a,xp c k hc hl ⟨h1,h2⟩⟩
 ·exact⟨_,_,wX c k he hl hs,uk c k he hl hs⟩
attribute [local irreducible] aJ aj bf aX aP aQ aD aS a6 bk Go.Abs.Fn aV Go.Abs.Pure ar aK Yl
set_option maxHeartbeats 1000000 in
theorem A2(c:List Spx)(k:Int)(hc:Shn c∧∀s∈c,Shn s):pU 3 [bE c,.int .i64 k] (.bool true):=by
 refine pO is3 ?_;simp only[b3,aG];have f1:=Hw c [] hc.1 hc.2 (bB _) (fun a h=>(by cases h));have zz:=aI @ai @af;repeat' (first|refine zW ?_|apply a_n|refine zO ?_|refine vY ?_|refine bxY ?_|fail)
 refine ed ev0 ev0 f1 (aF (ah (cw _).snap (ah (.eslsl 1) ak)) rfl) ?_;cases e1:s0 c []
 ·repeat' (first|refine zW ?_|apply a_n|apply a_r|refine zO ?_|refine vY ?_|refine cY ?_ (hp:=Cl) (hs:=by(first|refine aF ?_ rfl|apply aY);(repeat' (first|exact ak|apply bv|apply a5|exact cw _));first|done|fail)|refine cTY ?_|refine bR rfl ?_|refine r1Y ?_|fail)
  exact .bool _
 obtain⟨-,l1,l2⟩:=CZ e1;obtain⟨L,e,hL,s1,s2⟩:=Az c (by omega) hc.2;obtain⟨b,f,s3,s4⟩:=EC c k (by omega) hc.2;have s5:=pm L L (by omega) (by omega);rw[aR rfl] at s5;have z1:decide (e=e)=true:=aR rfl;have z2:decide (f=f)=true:=aR rfl;have z3:bq .eql true false (.bool b) (.bool b)=some (.bool true):=by cases b<;>rfl
 clear zz;have zz:=aI @ai (aI @af (aI @z1 (aI @z2 @z3)));repeat' (first|refine zW ?_|apply a_n|refine zO ?_|refine vY ?_|refine cY ?_ (hp:=by first|exact s1|exact s2|exact s3|exact s4|exact s5|exact Cl) (hs:=by(first|refine aF ?_ rfl|apply aY);(repeat' (first|exact ak|apply bv|apply a5|exact cw _|exact cp _));first|done|fail)|refine gTY ?_|(refine zGY ?_ ?_<;>(intro _hg;try (exfalso;omega)))|refine cFY ?_|refine bR rfl ?_|refine r1Y ?_|fail)
 exact .bool _
end Go.Proofs.YtekdaafnjdlenaaGreat
namespace Go.Proofs.YtekdaafnjdlenaaGreat
open Go Go.Abs Go.RowKit
section
variable{H:Type}{enc:TypeId×Value→H}{W:World}
theorem oi:fc enc Tryz.prog W 3 (AV.int .i64) (fun n=>(Lit.int .i64 n).wf=true):=DJ Tryz.underlying3
set_option maxRecDepth 100000 in
theorem M6:fc enc Tryz.prog W 69 dA (fun _=>True):=
 (og Tryz.underlying69 (by kernel_rfl) (mC (off:=0) (off':=1) rfl (by kernel_rfl) oi (mC (off:=1) (off':=2) rfl (by kernel_rfl) oi ua))).map
  (fun a=>(⟨a.1,a.2.1⟩:Vtx)) (fun _ _=>trivial) (fun _ _=>rfl)
theorem oXs:fc enc Tryz.prog W 70 aA Shn:=
 (qS Tryz.underlying70 (sz:=2) (by_:=16) (by kernel_rfl) (by kernel_rfl) (by omega) (fun _=>rfl) M6).mono fun l h=>by have:=h.2.2;show _≤_;omega
theorem Nd:fc enc Tryz.prog W 22 am (fun l=>Shn l∧∀x∈l,Shn x):=
 (qS Tryz.underlying22 (sz:=1) (by_:=24) (by kernel_rfl) (by kernel_rfl) lC (fun _=>rfl) oXs).mono fun l h=>⟨by have:=h.2.2;show _≤_;omega,h.1⟩
set_option maxRecDepth 100000 in
theorem oCx:fc enc Tryz.prog W 24 bE (fun l=>Shn l∧∀x∈l,Shn x):=
 (og Tryz.underlying24 (by kernel_rfl) (mC (off:=0) (off':=1) rfl (by kernel_rfl) Nd ua)).map
  (fun a=>a.1) (by rintro⟨n,u⟩ ⟨h1,_⟩;exact h1) (fun _ _=>rfl)
end
theorem rR{f:FuncId}{xs:List AV}{vs:List Value}(h:pU f xs (.bool true))(w:World)(hv:dC (E0 (uq w)) w xs vs):
    Calls Tryz.prog f vs.toArray w fun e w'=>e=.returned (.bool true)∧Below w.heap.size w w':=by
 refine(h.2 (uq w) w vs (fun _ h=>h) hv).mono ?_;rintro e w' ⟨v,imm',rfl,hb,_,_,_,hr⟩;cases hr;exact⟨rfl,hb⟩
theorem MW:laidOutB Tryz.prog=true:=by kernel_rfl
end Go.Proofs.YtekdaafnjdlenaaGreat
namespace Go.Proofs.YtekdaafnjdlenaaGreat
open Go Go.Abs Go.RowKit Go.ChangeShapes Go.WideShapes Go.ChangeAt
theorem ug{H:Type}{enc:TypeId×Value→H}{P:Program}{f:Func}{s:ChangeSpec}{apart fresh handsOn again:Bool}{W W':World}{args:Array Value}{v:Value}{ds gs:List (DataW H)}{before pa pv:List MemPlace}
    (hW:DataW.Whole enc P f.params.toList s.vars apart W args.toList ds gs before)
    (hres:∀(b:Nat)(sp:Nat→Bool)(hd:Bool),DataW.TrodAll enc P W' b sp hd f.resultTypes.toList (v.resultList f.resultTypes.size) (s.fn H (ds++gs)).results [])
    (hargs:∀sp:Nat→Bool,(∀p∈before,sp p.block=true)→DataW.TrodAll enc P W' 0 sp true f.params.toList args.toList (s.fn H (ds++gs)).args pa)
    (hvars:∀sp:Nat→Bool,(∀p∈before,sp p.block=true)→DataW.TrodVars enc P W' sp s.vars (s.fn H (ds++gs)).vars pv)
    (hps:before=pa++pv) (hb:Below W.heap.size W W')
    (hok:∀(j:Nat)(t:TypeId)(r:Value),f.resultTypes[j]?=some t→(v.resultList f.resultTypes.size)[j]?=some r→Value.okWide P W' .any 0 t r):
    s.post enc P f apart fresh handsOn again W args v W':=by
 have hold:∀p∈before,(fun b=>decide (b<W.heap.size)) p.block=true:=fun p hp=>by simpa using hW.lt p hp
 have hlt:=fun p hp=>hW.lt p hp;refine⟨ds,gs,before,[],pa,pv,hW,hres _ _ _,hargs _ hold,hvars _ hold,World.keptBut_mono (fun p hp=>⟨hp,?_⟩) (hb.frame _),fun _=>?_⟩
 ·rw[hps,eD] at hp;exact Or.inr hp
 ·obtain⟨_,_,_,_,_,hz,hn⟩:=hW;refine⟨hok,_,_,([]++pa)++pv,⟨[]++pa,pv,trodAll_append (hargs _ (fun _ _=>rfl)) (hres _ _ _),hvars _ (fun _ _=>rfl),rfl,?_,?_⟩,?_⟩
  ·intro b off hp;have hp':MemPlace.cell b off∈before:=by rw[hps];simpa using hp
   rw[hb.frozen (hlt _ hp')];exact hz b off hp'
  ·intro ha;have:=hn ha;rw[hps] at this;simpa using this
  ·intro p hp _;rw[hps];simpa using hp
theorem Ed{E:Env}{w:World}:dC E w [] []:=⟨rfl,fun i x y h=>(by cases h)⟩
theorem vP{E:Env}{w:World}{x:AV}{y:Value}{xs:List AV}{ys:List Value}(h:Rel E w x y)(hs:dC E w xs ys):dC E w (x::xs) (y::ys):=by
 refine⟨by simp[hs.1],fun i a b ha hb=>?_⟩;cases i with
 |zero=>simp at ha hb;subst ha hb;exact h
 |succ i=>simp at ha hb;exact hs.2 i a b ha hb
theorem own:ownKnob Tryz.prog.godebug=none:=by kernel_rfl
end Go.Proofs.YtekdaafnjdlenaaGreat