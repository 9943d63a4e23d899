/- Contracts of functions and plain laws, for all inputs that the theorems name. -/
import Derived.Test.YtmpcledaoigkaaaGreatXG4
import Derived.Test.YtmpcledaoigkaaaGreatXG3

set_option linter.unusedSimpArgs false
set_option linter.unusedVariables false
set_option maxHeartbeats 4000000
namespace Go.Proofs.YtmpcledaoigkaaaGreat
open Go Go.Abs
open Nat (reduceEqDiff reduceAdd reduceLeDiff)
def Io(l:List Spx):List Spx:=(kG dy l).filter λs=>!dU (kG dy l) s
theorem Ky{H:Hp}{s:AV}{l:List Spx}{e f:Int}(h:Snap H s (bo l))(he:e=f):Snap H (.tup [.agg [s],.int .i64 e]) (.tup [me l,.int .i64 f]):=by
 subst he;exact cQ (af (fV (af h aj)) (af (.int _ _) aj))
def tG(s:Spx)(k:Int):List Spx×Int:=if eu s≠0 then([],eu s) else if k<1\/(s.length:Int)<k then([],2) else(dS s k.toNat,0)
theorem xy{H:Hp}{s:AV}{l:List Spx}{e f:Int}(h:Snap H s (bo l))(he:e=f):Snap H (.tup [s,.int .i64 e]) (.tup [bo l,.int .i64 f]):=by
 subst he;exact cQ (af h (af (.int _ _) aj))
theorem y7{H:Hp}{t x x':AV}{cs c:List AV}{nb:Nat}(hrow:Row H 1 t (cs++[x]))(hx:H nb=some c)(hs:Snap (only nb c) x x')(hne:bd t≠some nb):∃H',Fz (only nb c) H H'/\Row H' 1 t (cs++[x'])/\∀y,y≠nb->bd t≠some y->H' y=H y:=by
 generalize hcs:cs++[x]=ds at hrow;cases hrow with
 |nil=>exact absurd (congrArg List.length hcs) (by simp)
 |box b len ds g1 g2=>
  have hb:b≠nb:=λe=>hne (by rw[e];rfl);refine⟨ar (cl H nb) b (cs++[x']),⟨λy d h=>?_,λy d h=>?_⟩,Row.box b len _ ac (by rw[<-g2,<-hcs];simp),λy h1 h2=>?_⟩
  ·unfold only at h;split at h
   ·rename_i e;rw[e,hx];exact h
   ·cases h
  ·by_cases e:y=b
   ·subst e;rw[ac] at h;cases h;exact⟨ds,g1,if_neg hb,by rw[<-hcs];exact dB.snoc hs⟩
   ·rw[ab e] at h;by_cases e2:y=nb
    ·rw[e2] at h;exact absurd h (by simp[cl])
    ·rw[ca e2] at h;exact⟨d,h,if_neg e2,dB.refl _ _⟩
  ·rw[ab (λe=>h2 (by rw[e];rfl)),ca h1]
section
attribute [local irreducible] aE ai be aP aJ aK ay aL aR bn Go.Abs.Fn aO Go.Abs.Pure ak aD Yl
theorem EJ(s:AV)(l:Spx)(hl:l.length<=1000000)(h0:l≠[])(H:Hp)(nx:Nat)(hn:fv s=some l.length)(hs:∀H',(∀x,x<nx->H' x=H x)->eU 2 H' s=some (l.length,cX l)):Abs.Fn Tryz.prog 124 [s] H nx λr H' nx'=>r=.msl nx (l.length*2) 2 0 l.length/\H'=ar H nx (cX l)/\nx'=nx+1:=by
 have hpos:=vO.2 h0;refine fO IE ?_;simp only[J1,aw];refine wnY and_self ?_;refine mC (k:=l.length) (by((try simp only[bN,ZA,reduceEqDiff,↓reduceIte,reduceAdd,reduceLeDiff]);(try with_reducible rfl));exact hn) (λh=>?_) (λh=>by omega) (λh=>by omega);refine wnY and_self ?_;refine iq rfl ev0 ev0 (hs _ λx _=>rfl) (sN _) (by omega) (by omega) ?_;refine wnY and_self ?_;exact⟨rfl,rfl,rfl⟩
theorem KM{y lo kb sb k N:Nat}{s:Spx}(hs:s.length<=1000)(hk:k<=1000)(I:List Spx->Hp->Nat->Prop)
    (hp:∀S H nx,I S H nx->H kb=some [.int .i64 k]/\H sb=some [aG s]/\lo+3<=nx/\kb<lo/\sb<lo)
    (stab:∀S H H' nx nx',I S H nx->nx<=nx'->(∀i,i<nx->¬(lo<=i/\i<lo+3)->H' i=H i)->I S H' nx')
    (rnd:∀S f H nx,I S H nx->f.length=k->f≠[]->S.length<N->Yl Tryz.prog y [.msl nx (k*2) 2 0 k] (ar H nx (cX f)) (nx+1) λr H' nx'=>r=.bool true/\I (S++[f]) H' nx'/\nx<=nx'/\∀i,lo<=i->i<lo+3->H' i=H i):
    ∀(j:Nat)(ch:Spx)(at_:Nat)(S:List Spx)(H:Hp)(nx:Nat),0<k->ch.length+j=k->S.length+(dS (s.drop at_) j).length<=N->at_<=s.length->I S H nx->H lo=some [.yld y]->H (lo+1)=some [.func 135 [.ptr kb 1 0,.ptr lo 1 0,.ptr sb 1 0,.ptr (lo+1) 1 0]]->(∃C,H (lo+2)=some C/\C.length=k*2/\C.take (ch.length*2)=cX ch)->
     Abs.Fn Tryz.prog 135 [.int .i64 at_,.msl (lo+2) (k*2) 2 0 ch.length,.ptr kb 1 0,.ptr lo 1 0,.ptr sb 1 0,.ptr (lo+1) 1 0] H nx λr H' nx'=>r=.bool true/\I (S++(dS (s.drop at_) j).map (ch++ ·)) H' nx'/\nx<=nx'/\H' lo=H lo/\H' (lo+1)=H (lo+1)/\∃C,H' (lo+2)=some C/\C.length=k*2/\C.take (ch.length*2)=cX ch:=by
 intro j
 induction j with
 |zero=>
  intro ch at_ S H nx hk0 hj hN hat hI h1 h2 ⟨C,h3,hc1,hc2⟩;obtain⟨g1,g2,g3,g4,g5⟩:=hp _ _ _ hI;have hlen:ch.length=k:=by omega
  have hne:ch≠[]:=λe=>by rw[e] at hlen;simp at hlen;omega
  obtain rfl:C=cX ch:=by rw[<-hc2,ji (by omega)]
  refine fO I6 ?_;simp only[JM,aw];have hcl:=EJ (.msl (lo+2) (k*2) 2 0 k) ch (by omega) hne H nx (by rw[hlen];rfl) (λH' hH'=>by rw[hlen];exact(eY (n:=k*2) (off:=0) (len:=k) ((hH' (lo+2) (by omega)).trans h3) hc1 (by omega)).trans (by rw[List.drop_zero,ji (by omega)]));rw[hlen] at hcl;rw[hlen];have z:decide ((k:Int)=k)=true:=bG rfl;refine wnY (zI5 @g1 @g2 @h1 @h2 @z) ?_;refine uk lo h1 λS0 hS hsub=>?_;refine wnY @hS ?_;refine eh ?_;refine a7 ev0 ev0 hcl ?_;rintro _ H2 nx2 ⟨rfl,rfl,rfl⟩;refine jg ⟨hsub _ (by rw[ab (by omega)];exact h1),?_⟩;refine ga ?_;refine qd ev0 ev0 (Yl.mono (rnd S ch H nx hI hlen hne (by rw[xW] at hN;exact hN)) ?_);rintro r H3 nx3 ⟨rfl,e1,e2,e3⟩;refine wnY and_self ?_;refine⟨rfl,?_,e2,e3 _ (by omega) (by omega),e3 _ (by omega) (by omega),cX ch,(e3 _ (by omega) (by omega)).trans h3,hc1,by rw[<-hlen];exact hc2⟩;rw[xW,gu,List.map_nil,gI];exact e1
 |succ j ih=>
  intro ch at_ S H nx hk0 hj hN hat hI h1 h2 ⟨C,h3,hc1,hc2⟩;obtain⟨g1,g2,g3,g4,g5⟩:=hp _ _ _ hI;refine fO I6 ?_;simp only[JM,aw];have z:decide ((ch.length:Int)=k)=false:=bK (by omega);refine wnY (zI5 @g1 @g2 @h1 @h2 @z) ?_;refine bj (X:=Nat×List Spx) (λx=>[(1,.msl (lo+2) (k*2) 2 0 ch.length),(4,.ptr sb 1 0),(5,.ptr (lo+1) 1 0),(9,.int .i64 x.1)]) (λx H' nx'=>x.1<=s.length/\I x.2 H' nx'/\nx<=nx'/\H' lo=H lo/\H' (lo+1)=H (lo+1)/\(∃C,H' (lo+2)=some C/\C.length=k*2/\C.take (ch.length*2)=cX ch)/\x.2++(dS (s.drop x.1) (j+1)).map (ch++ ·)=S++(dS (s.drop at_) (j+1)).map (ch++ ·)) (λx=>s.length-x.1) (at_,S) ⟨hat,hI,aZ _,rfl,rfl,⟨C,h3,hc1,hc2⟩,rfl⟩ ag0 ?_;rintro⟨i,S1⟩ H1 nx1 ⟨i1,hI1,i2,i3,i4,⟨C1,k3,d1,d2⟩,htot⟩;dsimp only at i1 hI1 htot |-;obtain⟨q1,q2,q3,q4,q5⟩:=hp _ _ _ hI1;have w1:=i3.trans h1;have w2:=i4.trans h2;by_cases hi:i<s.length
  rotate_left
  ·refine wnY (zI3 @q1 @q2 @aS) ?_;rw[show s.drop i=[] from nC (by omega),zR,List.map_nil,gI] at htot;exact⟨rfl,by rw[<-htot];exact hI1,i2,i3,i4,C1,k3,d1,d2⟩
  have ix:=ix2 hi;rw[CY hi,dq,List.map_map,<-gM] at htot;have hmm:(dS (s.drop (i+1)) j).map ((λx=>ch++x) ∘ λx=>s.getD i default::x)=(dS (s.drop (i+1)) j).map ((ch++[s.getD i default])++ ·):=vP λx _=>by simp
  rw[hmm] at htot;generalize s.getD i default=v at *;refine wnY (zI3 @q1 @q2 @aS) ?_;refine xp sb (lo+1) q2 w2 (by omega) λS0 hS1 hS2 hsub=>?_;refine wnY (zI3 @hS1 @hS2 @ix) ?_;refine eh ?_;refine wnY and_self ?_;refine⟨hsub _ (by rw[ab (by omega)];exact q2) (by rw[ab (by omega)];exact w2),?_⟩;refine eh ?_;refine Bk (b:=lo+2) (m:=k*2) (off:=0) (len:=ch.length) (n:=1) rfl ev0 (by rw[ab (by omega)];exact k3) ev0 wK rfl d1 (λ_=>by omega) (by omega) (by omega) ?_;refine jg ⟨hsub _ (by rw[ab (by omega),ab (by omega)];exact q2) (by rw[ab (by omega),ab (by omega)];exact w2),?_⟩;refine ga ?_;have hl1:(ch++[v]).length=ch.length+1:=by simp
  have hcc:=lV ch
  have hput:(bE C1 (0+ch.length*2) [.int .i64 v.color,.int .i64 v.label]).length=k*2/\(bE C1 (0+ch.length*2) [.int .i64 v.color,.int .i64 v.label]).take ((ch.length+1)*2)=cX (ch++[v]):=by
   rw[cp];simp only[bE];refine⟨by simp[d1];omega,?_⟩;rw[d2,kP,EG,qU (by simp[hcc];omega),ji (by simp[hcc];omega)]
  have hN1:S1.length+(dS (s.drop (i+1)) j).length<=N:=by
   have:=congrArg List.length htot;simp only[cq,bD] at this;omega
  have hih:=ih (ch++[v]) (i+1) S1 (ar (ar H1 nx1 [.int .i64 v.color,.int .i64 v.label]) (lo+2) (bE C1 (0+ch.length*2) [.int .i64 v.color,.int .i64 v.label])) (nx1+1) hk0 (by omega) hN1 (by omega) (stab _ _ _ _ _ hI1 (by omega) (λx hx hn=>by rw[ab (by omega),ab (by omega)])) (by rw[ab (by omega),ab (by omega)];exact w1) (by rw[ab (by omega),ab (by omega)];exact w2) ⟨_,ac,hput.1,by rw[hl1];exact hput.2⟩;rw[hl1,show((i+1:Nat):Int)=(i:Int)+1 by omega] at hih;refine a7 ev0 ev0 hih ?_;rintro r H4 nx4 ⟨rfl,f1,f2,f3,f4,C4,f5,f6,f7⟩;refine wnY and_self ?_;refine⟨(i+1,S1++(dS (s.drop (i+1)) j).map ((ch++[v])++ ·)),by dsimp only;omega,⟨by dsimp only;omega,f1,by omega,f3.trans ?_,f4.trans ?_,⟨C4,f5,f6,?_⟩,htot⟩,ag0⟩
  ·rw[ab (by omega),ab (by omega)];exact i3
  ·rw[ab (by omega),ab (by omega)];exact i4
  ·have:=congrArg (List.take (ch.length*2)) f7;rw[List.take_take,Nat.min_eq_left (by omega),kP,qU (by omega)] at this;rw[this];exact ji (by omega)
theorem Fi{y kb sb k:Nat}{s:Spx}{H:Hp}{nx:Nat}(hs:s.length<=1000)(hk0:0<k)(hk:k<=1000)(I:List Spx->Hp->Nat->Prop)
    (hp:∀S H nx',I S H nx'->H kb=some [.int .i64 k]/\H sb=some [aG s]/\nx+3<=nx'/\kb<nx/\sb<nx)
    (stab:∀S H H' nx1 nx',I S H nx1->nx1<=nx'->(∀i,i<nx1->¬(nx<=i/\i<nx+3)->H' i=H i)->I S H' nx')
    (rnd:∀S f H nx1,I S H nx1->f.length=k->f≠[]->S.length<(dS s k).length->Yl Tryz.prog y [.msl nx1 (k*2) 2 0 k] (ar H nx1 (cX f)) (nx1+1) λr H' nx'=>r=.bool true/\I (S++[f]) H' nx'/\nx1<=nx'/\∀i,nx<=i->i<nx+3->H' i=H i)
    (gk:H kb=some [.int .i64 k]) (lk:kb<nx) (h0:∀H',(∀i,i<nx->H' i=H i)->I [] H' (nx+3)):
    Abs.Fn Tryz.prog 134 [.yld y,.ptr kb 1 0,.ptr sb 1 0] H nx λ_ H' nx'=>I (dS s k) H' nx':=by
 refine fO NM ?_;simp only[Mg,aw];refine wnY @gk ?_;generalize hH:ar (ar (ar H nx [.yld y]) (nx+1) [.nilf]) (nx+1) (bE [.nilf] 0 [.func 135 [.ptr kb 1 0,.ptr nx 1 0,.ptr sb 1 0,.ptr (nx+1) 1 0]])=H1;have hfn:H1 (nx+1)=some [.func 135 [.ptr kb 1 0,.ptr nx 1 0,.ptr sb 1 0,.ptr (nx+1) 1 0]]:=by rw[<-hH,ac];rfl
 have hfk:H1 kb=some [.int .i64 k]:=by rw[<-hH,ab (by omega),ab (by omega),ab (by omega)];exact gk
 have hfy:H1 nx=some [.yld y]:=by rw[<-hH,ab (by omega),ab (by omega),ac]
 have hfo:∀i,i<nx->H1 i=H i:=λi hi=>by rw[<-hH,ab (by omega),ab (by omega),ab (by omega)]
 clear hH;refine xp kb (nx+1) hfk hfn (by omega) λS0 hS1 hS2 hsub=>?_;refine wnY (aI @hS1 @hS2) ?_;refine eh ?_;refine l8 (k1:=.i64) (k2:=.i64) (n:=0) (m:=k) rfl ev0 ev0 (Int.le_refl _) (by omega) (by omega) (by omega) ?_;refine jg ⟨hsub _ (by rw[ab (by omega)];exact hfk) (by rw[ab (by omega)];exact hfn),?_⟩;refine ga ?_;have hz:(bt (AV.agg [AV.int .i64 0,AV.int .i64 0]) k).length=k*2:=by simp[bt,AV.cells]
 have hih:=KM (y:=y) (N:=(dS s k).length) (lo:=nx) (kb:=kb) (sb:=sb) (k:=k) (s:=s) hs hk I hp stab rnd k [] 0 [] (ar H1 (nx+2) (bt (AV.agg [AV.int .i64 0,AV.int .i64 0]) k)) (nx+3) hk0 (by simp) (by simp) (bz _) (h0 _ (λi hi=>by rw[ab (by omega)];exact hfo i hi)) (by rw[ab (by omega)];exact hfy) (by rw[ab (by omega)];exact hfn) ⟨_,ac,hz,rfl⟩;refine a7 ev0 (by((try simp only[bN,ZA,reduceEqDiff,↓reduceIte,reduceAdd,reduceLeDiff]);(try with_reducible rfl));rfl) hih ?_;rintro r H4 nx4 ⟨rfl,f1,-⟩;refine wnY and_self ?_;rw[List.drop_zero,List.nil_append,show(λx:Spx=>([]:Spx)++x)=id from rfl,List.map_id] at f1;exact f1
theorem Ak{kb sb k:Nat}{s:Spx}{H:Hp}{nx:Nat}(hs:s.length<=8)(hk0:0<k)(hk:k<=1000)(gk:H kb=some [.int .i64 k])(gs:H sb=some [aG s])(lk:kb<nx)(ls:sb<nx):
    Abs.Fn Tryz.prog 97 [.esl,.func 134 [.ptr kb 1 0,.ptr sb 1 0]] H nx λr H' nx'=>Row H' 1 r ((dS s k).map aG)/\nx<=nx'/\∀b',bd r=some b'->nx<=b'/\b'<nx':=by
 refine fO Md ?_;simp only[b97,aw];refine wnY and_self ?_;refine gV (nx+1) (nx+2) rfl rfl ev0 (λc0 cj hy=>?_);refine Abs.Fn.mono (Fi (nx:=nx+2) (kb:=kb) (sb:=sb) (k:=k) (s:=s) (by omega) hk0 hk (λS H' nx'=>nx+5<=nx'/\H' kb=some [.int .i64 k]/\H' sb=some [aG s]/\H' (nx+1)=some [c0]/\∃sv,H' nx=some [sv]/\Row H' 1 sv (S.map aG)/\∀b',bd sv=some b'->nx+5<=b'/\b'<nx') ?_ ?_ ?_ ?_ ?_ ?_) ?_
 ·rintro S H' nx' ⟨h1,h2,h3,h4,h5⟩;exact⟨h2,h3,by omega,by omega,by omega⟩
 ·rintro S H1 H2 a c ⟨h1,h2,h3,h4,sv,h5,h6,h7⟩ hac hs';refine⟨by omega,(hs' _ (by omega) (by omega)).trans h2,(hs' _ (by omega) (by omega)).trans h3,(hs' _ (by omega) (by omega)).trans h4,sv,(hs' _ (by omega) (by omega)).trans h5,h6.same (λb' hb'=>hs' _ (h7 b' hb').2 (by have:=h7 b' hb';omega)),λb' hb'=>⟨(h7 b' hb').1,by have:=h7 b' hb';omega⟩⟩
 ·rintro S f H' nx' ⟨h1,h2,h3,h4,sv,h5,h6,h7⟩ hfl hf0 hSN;have h4':ar H' nx' (cX f) (nx+1)=some [c0]:=by rw[ab (by omega)];exact h4
  refine hy _ _ _ _ h4' rfl ?_;clear hy;refine wnZ and_self ?_;refine⟨h4',?_⟩;have hS70:=zF hSN (B7 (k:=k) hs);have hd:cl (ar H' nx' (cX f)) (nx+1) nx'=some (cX f):=by rw[ca (by omega),ac]
  have hdo:∀x,x<nx'->x≠nx+1->cl (ar H' nx' (cX f)) (nx+1) x=H' x:=λx a b=>by rw[ca b,ab (by omega)]
  generalize cl (ar H' nx' (cX f)) (nx+1)=H1 at *;refine lW ?_;refine qu (only nx' (cX f)) (cl H1 nx') [(2,.ptr nx 1 0),(5,aG f)] (Fz.one hd) ⟨.inl rfl,.inr (yB (s:=.msl nx' (k*2) 2 0 k) (by rw[<-hfl];exact Row.box nx' f.length (cX f) eO (lV f))),trivial⟩ ?_;have he:∀x,x<nx'->x≠nx+1->cl H1 nx' x=H' x:=λx a b=>by rw[ca (by omega)];exact hdo x a b
  have g5:cl H1 nx' nx=some [sv]:=(he nx (by omega) (by omega)).trans h5;clear hd hdo;generalize cl H1 nx'=H2 at *;refine wnY (zI3 @g5 @bO @bH) ?_;refine eR (h6.same λb' hb'=>?_) ?_
  ·have:=h7 b' hb';rw[ab (by omega)];exact he _ (by omega) (by omega)
  rintro sv' H3 nx3 r1 r2 r3 r4 r5;have zs:∀x,x<nx+5->bd sv≠some x:=λx hx e=>by have:=h7 x e;omega
  have z:∀x,x<nx'->x≠nx+1->bd sv≠some x->H3 x=H' x:=λx a1 a2 a3=>(r4 x (by omega) a3).trans (by rw[ab (by omega)];exact he x a1 a2);have g6:H3 nx=some [sv]:=(z nx (by omega) (by omega) (zs _ (by omega))).trans h5;obtain⟨q1,q2⟩:=r1.one;refine wnY (zI3 @g6 @q1 @q2) ?_;have w:∀x,x≠nx->x≠nx+1->ar (ar H3 nx (bE [sv] 0 [sv'])) (nx+1) [c0] x=H3 x:=λx a1 a2=>by rw[ab a2,ab a1]
  have u7:∀b',bd sv'=some b'->nx+5<=b'/\b'<nx3:=λb' hb'=>by
   rcases r5 b' hb' with e|⟨e1,e2⟩
   ·have:=h7 b' e;omega
   ·omega
  refine⟨rfl,⟨by omega,?_,?_,ac,sv',?_,?_,u7⟩,by omega,λx x1 x2=>?_⟩
  ·rw[w _ (by omega) (by omega),z _ (by omega) (by omega) (zs _ (by omega)),h2]
  ·rw[w _ (by omega) (by omega),z _ (by omega) (by omega) (zs _ (by omega)),h3]
  ·rw[ab (by omega),ac];rfl
  ·rw[dq];exact r1.same (λb' hb'=>w b' (by have:=u7 b' hb';omega) (by have:=u7 b' hb';omega))
  ·rw[w _ (by omega) (by omega),z _ (by omega) (by omega) (zs _ (by omega))]
 ·rw[ab (by omega),ab (by omega)];exact gk
 ·omega
 ·intro H' hH';refine⟨by omega,?_,?_,?_,.esl,?_,.nil,λb' hb'=>(by cases hb')⟩
  ·rw[hH' _ (by omega),ab (by omega),ab (by omega),gk]
  ·rw[hH' _ (by omega),ab (by omega),ab (by omega),gs]
  ·rw[hH' _ (by omega),ac]
  ·rw[hH' _ (by omega),ab (by omega),ac]
 ·rintro r H' nx' ⟨h1,h2,h3,h4,sv,h5,h6,h7⟩;refine .inl ⟨h4,?_⟩;refine wnY @h5 ?_;exact⟨h6.same (λb' hb'=>ca (by have:=h7 b' hb';omega)),by omega,λb' hb'=>by have:=h7 b' hb';omega⟩
theorem Fx(s:Spx)(k:Nat)(H:Hp)(nx:Nat):Abs.Fn Tryz.prog 109 [aG s,.int .i64 k] H nx λr H' nx'=>r=.func 134 [.ptr (nx+1) 1 0,.ptr nx 1 0]/\H'=ar (ar H nx [aG s]) (nx+1) [.int .i64 k]/\nx'=nx+2:=by
 refine fO LH ?_;simp only[Na,aw];refine wnY (aI @bO @bH) ?_;exact⟨rfl,rfl,rfl⟩
theorem Eb{kb sb k:Nat}{s:Spx}{H:Hp}{nx:Nat}(hs:s.length<=8)(hk0:0<k)(hk:k<=1000)(gk:H kb=some [.int .i64 k])(gs:H sb=some [aG s])(lk:kb<nx)(ls:sb<nx):
    Abs.Fn Tryz.prog 62 [.func 134 [.ptr kb 1 0,.ptr sb 1 0]] H nx λr H' nx'=>Row H' 1 r ((dS s k).map aG)/\nx<=nx':=by
 refine fO Lo ?_;simp only[b62,aw];refine wnY and_self ?_;refine a7 ev0 ev0 (Ak hs hk0 hk gk gs lk ls) ?_;rintro r H1 nx1 ⟨r1,r2,r3⟩;obtain⟨q1,q2⟩:=r1.one;refine wnY (aI @q1 @q2) ?_;exact⟨r1,r2⟩
theorem ER(s:Spx)(k:Int)(hs:Shn s):pU 85 [aG s,.int .i64 k] (.tup [bo (tG s k).1,.int .i64 (tG s k).2]):=by
 refine pO PP ?_;simp only[b85,aw];have hc:=qm s hs;unfold tG;by_cases he:eu s=0
 rotate_left
 ·rw[if_pos he];have z:decide (eu s≠0)=true:=bG he;refine wnY @z ?_;exact xy (.eslsl _) rfl
 rw[if_neg (λh=>h he)];rw[he] at hc;obtain⟨p1,p2,p3,p4⟩:=i5 he;have z0:decide ((0:Int)≠0)=false:=rfl;by_cases hk:k<1\/(s.length:Int)<k
 ·rw[if_pos hk];have zz:=aI @z0 @aS;repeat' (first|refine zW ?_|apply a_n|apply a_r|refine zO ?_|refine vY ?_|refine cY ?_ (hp:=hc) (hs:=by(first|refine aC ?_ rfl|apply aQ);(repeat' (first|exact aj|apply bB|apply a8|exact bT _));first|done|fail)|refine gTY ?_|refine gFY ?_|refine cTY ?_|refine cFY ?_|(refine zGY ?_ ?_<;>(intro _hg;try (exfalso;omega)))|refine bk rfl ?_|refine r2Y ?_|fail)
  all_goals first|exact xy (.eslsl _) rfl|(exfalso;omega)
 rw[if_neg hk];obtain⟨n,rfl⟩:∃n:Nat,k=n:=⟨k.toNat,by omega⟩
 rw[bQ];refine wnY (aI @z0 @aS) ?_;refine a7 ev0 ev0 (Fx s n _ _) ?_;rintro _ H1 nx1 ⟨rfl,rfl,rfl⟩;refine a7 ev0 ev0 (Eb (kb:=0+1) (sb:=0) (k:=n) (s:=s) p2 (by omega) (by omega) ac (by rw[ab (by omega),ac]) (by omega) (by omega)) ?_;rintro r H2 nx2 ⟨r1,r2⟩;obtain⟨q1,q2⟩:=r1.one;refine wnY (aI @q1 @q2) ?_;exact xy (pj r1) rfl
end
end Go.Proofs.YtmpcledaoigkaaaGreat
namespace Go.Proofs.YtmpcledaoigkaaaGreat
open Go Go.Abs Tk
open Nat (reduceEqDiff reduceAdd reduceLeDiff)
def cL{α:Type}(f:α->AV)(l:List α):List AV:=l.flatMap λx=>(f x).cells
theorem iX{α:Type}{f:α->AV}(l m:List α):cL f (l++m)=cL f l++cL f m:=List.flatMap_append
theorem tV{α:Type}{f:α->AV}(x:α):cL f [x]=(f x).cells:=by unfold cL;simp
theorem BF{α:Type}{f:α->AV}(l:List α):(l.map f).flatMap AV.cells=cL f l:=by
 induction l with
 |nil=>rfl
 |cons a l ih=>rw[gu,lJ,ih];rfl
theorem pe{α:Type}{f:α->AV}{sz:Nat}(h:∀x,(f x).cells.length=sz)(l:List α):(cL f l).length=l.length*sz:=by
 induction l with
 |nil=>simp[cL]
 |cons a l ih=>rw[show cL f (a::l)=(f a).cells++cL f l from rfl,cq,ih,h,dJ,ez];omega
theorem sM{α:Type}{f:α->AV}(h:∀x,AV.ones (f x).cells=true)(l:List α):AV.ones (cL f l)=true:=by
 unfold AV.ones;rw[ee];intro x hx;obtain⟨v,_,hv⟩:=List.mem_flatMap.1 hx;exact ee.1 (h v) x hv
theorem qD{α:Type}{f:α->AV}{sz:Nat}(hz:0<sz)(hc:∀x,(f x).cells.length=sz)(hd:∀x,∀c∈(f x).cells,Dat c){H:Hp}{s:AV}{l:List α}(h:Row H sz s (cL f l)):Snap H s (gq sz f l):=by
 refine Row.snap (elems:=l.map f) (by rw[BF];exact h) (λy hy=>?_) hz (λy hy c hx=>?_)
 ·obtain⟨n,_,rfl⟩:=dK.1 hy;exact hc n
 ·obtain⟨n,_,rfl⟩:=dK.1 hy;exact hd n c hx
theorem ug{α:Type}{f:α->AV}{sz:Nat}{H:Hp}{l:List α}:eU sz H (gq sz f l)=some (l.length,cL f l):=by
 unfold gq;rw[iY,BF];simp
theorem zo{H:Hp}{sz:Nat}{s:AV}{cs:List AV}(h:Row H sz s cs)(hn:cs≠[]):∃b len,s=.msl b (len*sz) sz 0 len/\H b=some cs/\cs.length=len*sz:=by
 cases h with
 |nil=>exact absurd rfl hn
 |box b len cs h1 h2=>exact⟨b,len,rfl,h1,h2⟩
theorem EY{H:Hp}{s:AV}{l:List RndV}(h:Row H 7 s (cL fi l)):Snap H s (bS l):=qD (f:=fi) (by omega) (λ_=>rfl) (λx=>xR x) h
theorem Cd{H:Hp}{s:AV}{l:List (List RndV)}(h:Row H 1 s (l.map bS)):Snap H s (dP l):=h.snapL' (λ_=>rfl) (λx _=>kW x)
theorem xF(l:List RndV):(cL fi l).length=l.length*7:=pe (f:=fi) (λ_=>rfl) l
theorem xo(l:List RndV):AV.ones (cL fi l)=true:=sM (f:=fi) (λ_=>rfl) l
theorem Cw:∀{l:List Nat}{x:Nat},x∈l->x<=l.sum
 |y::l,x,h=>by
  rw[List.sum_cons];rcases gg.1 h with rfl|h
  ·omega
  ·have:=Cw h;omega
def kN(p:PrbV):Int:=if en p.task≠0 then en p.task else if sB p.adv≠0 then sB p.adv else if p.task.n≠p.adv.n then 22 else if p.rounds<0\/6<p.rounds then 2 else 0
def oa(p:PrbV)(lim:Int):Int:=(p.task.cases.length:Int)*kI p.adv p.rounds.toNat lim
def BI(p:PrbV):Bool:=
 if BJ p.task=true/\xB p.adv=true/\¬(3<p.task.n/\p.task.n<=5) then(if kN p≠0 then true else decide (oa p 4096<=60) || decide (4096<oa p 4096)) else false
structure ShP(p:PrbV):Prop where
 c:∀c∈p.task.cases,ShC c
 t:Sh p.task.cases
 a:p.adv.states.length<=17592186044416
 m:∀l∈p.adv.states,l.length<=17592186044416
theorem eJ{p:PrbV}(h:kN p=0):en p.task=0/\AdvOk p.adv/\p.task.n=p.adv.n/\0<=p.rounds/\p.rounds<=6:=by
 unfold kN at h;split at h
 ·rename_i q;exact absurd h q
 split at h
 ·rename_i q;exact absurd h q
 split at h
 ·exact absurd h (by decide)
 split at h
 ·exact absurd h (by decide)
 exact⟨by omega,JV (by omega),by omega,by omega,by omega⟩
theorem qp{p:PrbV}(h:ShP p)(hf:p.adv.states.length<=8):ShA p.adv:=⟨hf,h.m⟩
def hk(g:Nat->Int)(k:Nat):List Int:=(List.range 5).map λi=>if i<k then g i else 0
def vwc(a b c:Int)(l:List Int):List AV:=.int .i64 a::.int .i64 b::.int .i64 c::l.map (AV.int .i64)
theorem oO(g:Nat->Int)(k:Nat):(hk g k).length=5:=by simp[hk]
theorem pm(a b c:Int){l:List Int}(h:l.length=5):(vwc a b c l).length=8:=by simp[vwc,h]
theorem ja{l:List Int}{k:Nat}(x:Int):(l.map (AV.int .i64)).set k (.int .i64 x)=(l.set k x).map (AV.int .i64):=by rw[List.map_set]
theorem fK{cs:List AV}{k:Nat}(h:k<cs.length)(x:AV):bE cs k [x]=cs.set k x:=by
 unfold bE;rw[List.set_eq_take_append_cons_drop,if_pos h];simp
theorem sW{a b c:Int}{l:List Int}{k:Nat}(hl:l.length=5)(h:k<5)(x:Int):bE (vwc a b c l) (3+k) [.int .i64 x]=vwc a b c (l.set k x):=by
 rw[fK (by rw[pm a b c hl];omega),show 3+k=k+1+1+1 by omega];unfold vwc;rw[List.set_cons_succ,List.set_cons_succ,List.set_cons_succ,ja]
theorem yn{g:Nat->Int}{k:Nat}(h:k<5):(hk g k).set k (g k)=hk g (k+1):=by
 rcases(by omega:k=0\/k=1\/k=2\/k=3\/k=4) with rfl|rfl|rfl|rfl|rfl<;>rfl
theorem Fl(a b c:Int)(g:Nat->Int):vwc a b c (hk g 5)=[.int .i64 a,.int .i64 b,.int .i64 c,.int .i64 (g 0),.int .i64 (g 1),.int .i64 (g 2),.int .i64 (g 3),.int .i64 (g 4)]:=rfl
def As(vs:List VwV)(v:VwV):Int:=if v∈vs then(vs.idxOf v:Nat) else-1
theorem EF {v w:VwV}:[v.proc,v.round,v.input,v.h0,v.h1,v.h2,v.h3,v.h4]=[w.proc,w.round,w.input,w.h0,w.h1,w.h2,w.h3,w.h4] ↔ v=w:=⟨fun h=>by
 obtain⟨a,b,c,d,e,f,g,i⟩:=v;obtain⟨a',b',c',d',e',f',g',i'⟩:=w;simp only[List.cons.injEq,and_true] at h;obtain⟨rfl,rfl,rfl,rfl,rfl,rfl,rfl,rfl⟩:=h;rfl,λh=>h▸rfl⟩
theorem E6{vs:List VwV}{v:VwV}{k:Nat}(hk:k<vs.length)(h:∀i,i<k->vs.getD i default≠v)(e:vs.getD k default=v):vs.idxOf v=k:=by
 have e1:vs.getD k default=vs[k]:=by simp[List.getD,hk]
 unfold List.idxOf;refine(List.findIdx_eq hk).2 ⟨by rw[<-e1,e];exact beq_self_eq_true v,λj hj=>?_⟩;have:=h j hj;rw[show vs.getD j default=vs[j] by simp[List.getD,show j<vs.length by omega]] at this;exact beq_eq_false_iff_ne.2 this
theorem t8(l:List VwV):(cL dx l).length=l.length*8:=pe (f:=dx) (λ_=>rfl) l
theorem H7(l:List VwV):AV.ones (cL dx l)=true:=sM (f:=dx) (λ_=>rfl) l
theorem F7{H:Hp}{s:AV}{l:List VwV}(h:Row H 8 s (cL dx l)):Snap H s (dE l):=qD (f:=dx) (by omega) (λ_=>rfl) (λx=>Bu x) h
theorem GJ(vs:List VwV)(v:VwV):(((jY vs v).idxOf v:Nat):Int)=if 0<=As vs v then As vs v else(vs.length:Int):=by
 unfold jY As;by_cases h:v∈vs
 ·rw[if_pos h,if_pos h,if_pos (by omega)]
 ·rw[if_neg h,if_neg h,if_neg (by decide),List.idxOf_append,if_neg h];simp
theorem HN(vs:List VwV)(v:VwV):jY vs v=if 0<=As vs v then vs else vs++[v]:=by
 unfold jY As;by_cases h:v∈vs
 ·rw[if_pos h,if_pos h,if_pos (by omega)]
 ·rw[if_neg h,if_neg h,if_neg (by decide)]
def vf(inp:List Int)(w:List RndV):Nat->List (List Int)->Nat->VwV
 |0,_=>oV inp
 |k+1,rows=>l9 (w.getD k default) ((k+1:Nat):Int).toNat (rows.getD k [])
def plV(n:Nat)(inp:List Int)(w:List RndV)(vs:List VwV):Nat->List VwV×List (List Int)
 |0=>(vs,[])
 |k+1=>(fu (vf inp w k (plV n inp w vs k).2) n (plV n inp w vs k).1,(plV n inp w vs k).2++[eL (vf inp w k (plV n inp w vs k).2) n (plV n inp w vs k).1])
theorem za(n:Nat)(inp:List Int)(w:List RndV)(vs:List VwV):∀k,Fc n inp w vs k=plV n inp w vs (k+1)
 |0=>rfl
 |k+1=>by
  rw[plV,<-za n inp w vs k];rfl
theorem lO(n:Nat)(inp:List Int)(w:List RndV)(vs:List VwV):∀k,(plV n inp w vs k).2.length=k/\(∀l∈(plV n inp w vs k).2,l.length=n)/\(plV n inp w vs k).1.length<=vs.length+k*n
 |0=>⟨rfl,λ_ h=>(by cases h),by show vs.length<=_;omega⟩
 |k+1=>by
  obtain⟨h1,h2,h3⟩:=lO n inp w vs k;refine⟨?_,λl hl=>?_,?_⟩
  ·show((plV n inp w vs k).2++[_]).length=_;rw[cq,h1];rfl
  ·rcases iG.1 hl with hl|hl
   ·exact h2 l hl
   ·rw[eM.1 hl,iu]
  ·have:=lg (vf inp w k (plV n inp w vs k).2) n (plV n inp w vs k).1;rw[ez];show(fu _ n _).length<=_;omega
def eT(p:PrbV):List (List RndV):=bq p.adv p.rounds.toNat 0
def stW(p:PrbV)(c:Nat)(s:BldS)(i:Nat):BldS:=((eT p).take i).foldl (sw p c) s
theorem K0(p:PrbV)(c:Nat)(s:BldS):stW p c s 0=s:=rfl
theorem Ct(p:PrbV)(c:Nat)(s:BldS):stW p c s (eT p).length=B5 p s c:=by unfold stW;rw[List.take_length];rfl
theorem zC{p:PrbV}{c:Nat}{s:BldS}{i:Nat}(h:i<(eT p).length):stW p c s (i+1)=sw p c (stW p c s i) ((eT p).getD i default):=by
 unfold stW;rw[cu h,List.foldl_append];rfl
theorem qV(p:PrbV)(c:Nat):bldS p (c+1)=B5 p (bldS p c) c:=by unfold bldS;rw[List.range_succ,List.foldl_append];rfl
theorem xQ(p:PrbV)(c:Nat)(s:BldS)(w:List RndV):sw p c s w=⟨(plV p.task.n.toNat (p.task.cases.getD c default).inp w s.views (p.rounds.toNat+1)).1,s.execs++[⟨c,w,(plV p.task.n.toNat (p.task.cases.getD c default).inp w s.views (p.rounds.toNat+1)).2⟩]⟩:=by
 unfold sw;rw[za]
theorem Cj{p:PrbV}(hn:p.task.n<=5)(hr:p.rounds<=6)(c:Nat)(s:BldS)(w:List RndV):(sw p c s w).execs.length=s.execs.length+1/\(sw p c s w).views.length<=s.views.length+35:=by
 rw[xQ];refine⟨by rw[cq];rfl,?_⟩;have h1:=(lO p.task.n.toNat (p.task.cases.getD c default).inp w s.views (p.rounds.toNat+1)).2.2;have h2:(p.rounds.toNat+1)*p.task.n.toNat<=7*5:=Nat.mul_le_mul (by omega) (by omega);show(plV _ _ _ _ _).1.length<=_;omega
theorem yj{p:PrbV}(hn:p.task.n<=5)(hr:p.rounds<=6)(c:Nat)(s:BldS):∀i,i<=(eT p).length->(stW p c s i).execs.length=s.execs.length+i/\(stW p c s i).views.length<=s.views.length+35*i
 |0,_=>⟨rfl,aZ _⟩
 |i+1,h=>by
  obtain⟨h1,h2⟩:=yj hn hr c s i (by omega);obtain⟨h3,h4⟩:=Cj hn hr c (stW p c s i) ((eT p).getD i default);rw[zC (by omega)];omega
theorem tJ{p:PrbV}(hn:p.task.n<=5)(hr:p.rounds<=6):∀c,(bldS p c).execs.length=c*(eT p).length/\(bldS p c).views.length<=35*(c*(eT p).length)
 |0=>by rw[ou];exact⟨rfl,aZ _⟩
 |c+1=>by
  obtain⟨h1,h2⟩:=tJ hn hr c;obtain⟨h3,h4⟩:=yj hn hr c (bldS p c) (eT p).length (aZ _);rw[qV,<-Ct,ez,Nat.one_mul];omega
theorem ui{t:TaskV}(h:en t=0){c:Nat}(hc:c<t.cases.length):((t.cases.getD c default).inp.length:Int)=t.n:=by
 unfold en at h;split at h
 ·exact absurd h (by decide)
 split at h
 ·exact absurd h (by decide)
 have h1:=iI h c hc;unfold jn at h1;split at h1
 ·rename_i q;exact absurd h1 q
 rename_i q;have q:ct (t.cases.getD c default).inp t.n t.ins=0:=by omega
 unfold ct at q;split at q
 ·exact absurd q (by decide)
 ·omega
theorem dg{t:TaskV}(h:en t=0):1<=t.n/\t.n<=5/\1<=t.cases.length/\t.cases.length<=1024:=by
 unfold en at h;split at h
 ·exact absurd h (by decide)
 split at h
 ·exact absurd h (by decide)
 omega
theorem fe{H:Hp}{sz:Nat}{t x x':AV}{cs c:List AV}{nb:Nat}(hrow:Row H sz t (cs++[x]))(hx:H nb=some c)(hs:Snap (only nb c) x x')(hne:bd t≠some nb):∃H',Fz (only nb c) H H'/\Row H' sz t (cs++[x'])/\∀y,y≠nb->bd t≠some y->H' y=H y:=by
 generalize hcs:cs++[x]=ds at hrow;cases hrow with
 |nil=>exact absurd (congrArg List.length hcs) (by simp)
 |box b len ds g1 g2=>
  have hb:b≠nb:=λe=>hne (by rw[e];rfl);refine⟨ar (cl H nb) b (cs++[x']),⟨λy d h=>?_,λy d h=>?_⟩,Row.box b len _ ac (by rw[<-g2,<-hcs];simp),λy h1 h2=>?_⟩
  ·unfold only at h;split at h
   ·rename_i e;rw[e,hx];exact h
   ·cases h
  ·by_cases e:y=b
   ·subst e;rw[ac] at h;cases h;exact⟨ds,g1,if_neg hb,by rw[<-hcs];exact dB.snoc hs⟩
   ·rw[ab e] at h;by_cases e2:y=nb
    ·rw[e2] at h;exact absurd h (by simp[cl])
    ·rw[ca e2] at h;exact⟨d,h,if_neg e2,dB.refl _ _⟩
  ·rw[ab (λe=>h2 (by rw[e];rfl)),ca h1]
theorem Row.get{H:Hp}{s:AV}{cs:List AV}(h:Row H 1 s cs){j:Nat}{x:AV}(hj:cs[j]?=some x):∃b n off,cA 1 s (.int .i64 (j:Int))=some (.ptr b n off)/\bd s=some b/\∀H':Hp,H' b=H b->rd1 H' (.ptr b n off)=some x:=by
 cases h with
 |nil=>simp at hj
 |box b len cs hb hl=>
  have hlt:=(bU.1 hj).1;refine⟨b,len,j,?_,rfl,λH' h'=>?_⟩
  ·rw[fT,if_pos ⟨by omega,by omega⟩];simp only[bQ,Nat.mul_one,cp]
  ·rw[xw (h'.trans hb) (by omega)];exact hj
theorem dB.mid{Hf:Hp}{x x':AV}(a b:List AV)(h:Snap Hf x x'):dB Hf (a++x::b) (a++x'::b):=by
 refine⟨by simp,λi y y' h1 h2=>?_⟩;by_cases hi:i<a.length
 ·rw[gy hi] at h1 h2;rw[h1] at h2;cases h2;exact .inl rfl
 ·rw[ie (by omega)] at h1 h2;cases hj:i-a.length with
  |zero=>rw[hj] at h1 h2;simp at h1 h2;subst h1 h2;exact .inr h
  |succ j=>rw[hj] at h1 h2;simp at h1 h2;rw[h1] at h2;cases h2;exact .inl rfl
theorem Fz.cell{H:Hp}{b:Nat}{cs cs':List AV}(h:H b=some cs)(hc:dB bM cs cs'):Fz bM H (ar H b cs'):=
 ⟨fun _ _ h=>(by cases h),fun y d hd=>by
  by_cases e:y=b
  ·subst e;rw[ac] at hd;cases hd;exact⟨cs,h,rfl,hc⟩
  ·rw[ab e] at hd;exact⟨d,hd,rfl,dB.refl _ _⟩⟩
theorem EW{H:Hp}{s:AV}{l:List ExV}(h:Row H 3 s (cL gJ l)):Snap H s (ef l):=qD (f:=gJ) (by omega) (λ_=>rfl) (λx=>Bb x) h
theorem Ey(l:List ExV):(cL gJ l).length=l.length*3:=pe (f:=gJ) (λ_=>rfl) l
theorem co{H:Hp}{b sz:Nat}{cs:List AV}(h:cs.length=sz):eU sz (ar H b cs) (.msl b sz sz 0 1)=some (1,cs):=by
 rw[eY ac h (by omega),List.drop_zero,ji (by omega)]
theorem uY{H:Hp}{s:AV}{cs:List AV}(h:Row H 1 s cs)(hn:cs≠[]):∃b len,s=.msl b len 1 0 len/\H b=some cs/\cs.length=len:=by
 obtain⟨b,len,h1,h2,h3⟩:=zo h hn;rw[Nat.mul_one] at h1 h3;exact⟨b,len,h1,h2,h3⟩
theorem Row.box1{H:Hp}{b len:Nat}{cs:List AV}(h:H b=some cs)(hl:cs.length=len):Row H 1 (.msl b len 1 0 len) cs:=by
 have:=Row.box (sz:=1) b len cs h (by omega)
 rwa [Nat.mul_one] at this
def Z10:List AV:=[.int .i64 0,.int .i64 0,.int .i64 0,.esl,.int .i64 0,.esl,.int .i64 0,.int .i64 0,.esl,.esl]
theorem BU:∀x∈Z10,Dat x:=DatL.cons .int (DatL.cons .int (DatL.cons .int (DatL.cons .esl (DatL.cons .int (DatL.cons .esl (DatL.cons .int (DatL.cons .int (DatL.cons .esl (DatL.cons .esl DatL.nil)))))))))
def im(p:PrbV):Bool:=BI p&&decide (kN p=0)&&decide (oa p 4096<=60)
structure OkP(p:PrbV):Prop where
 sh:ShP p
 sa:ShA p.adv
 mv:dp p.adv.states<=40
 e0:kN p=0
 num:oa p 4096<=60
 n3:p.task.n<=3
 few:BJ p.task=true
theorem yX{p:PrbV}(h:BI p=true):BJ p.task=true/\xB p.adv=true/\¬(3<p.task.n/\p.task.n<=5):=by
 unfold BI at h;split at h
 ·rename_i q;exact q
 ·cases h
theorem nz{a:AdvV}(h:xB a=true):a.states.length<=8/\dp a.states<=40:=by
 unfold xB at h;rw[ed,gr,gr] at h;exact h
theorem vq{p:PrbV}(hs:ShP p)(h:im p=true):OkP p:=by
 unfold im at h;rw[ed,ed,gr,gr] at h;obtain⟨⟨h1,h2⟩,h3⟩:=h;obtain⟨q1,q2,q3⟩:=yX h1;obtain⟨q4,q5⟩:=nz q2;have:=(dg (eJ h2).1).2.1;exact⟨hs,qp hs q4,q5,h2,h3,by omega,q1⟩
theorem nP{p:PrbV}(h0:kN p=0)(h:oa p 4096<=60):p.task.cases.length*(eT p).length<=60/\(eT p).length<=60/\1<=p.task.cases.length/\1<=(eT p).length:=by
 obtain⟨hck,ho,hn,r0,r6⟩:=eJ h0;obtain⟨n1,n5,c1,c2⟩:=dg hck;have hto:BO p.adv:=λl hl m hm=>⟨(ho.mv l hl m hm).to0,(ho.mv l hl m hm).to1⟩
 have hw:=rf hto ho.ne p.rounds.toNat 0 (by have:=ho.s1;omega)
 have hw1:1<=(eT p).length:=by
  unfold eT;cases e:bq p.adv p.rounds.toNat 0 with
  |nil=>exact absurd e hw
  |cons a l=>rw[dJ];omega
 unfold oa at h;rw[sS hto (by have:=ho.s1;omega) (by omega)] at h;change (p.task.cases.length:Int)*min ((eT p).length:Int) (4096+1)<=60 at h;generalize (eT p).length=L at *;generalize p.task.cases.length=C at *
 have h1:min (L:Int) (4096+1)<=60:=by
  have:min (L:Int) (4096+1)<=(C:Int)*min (L:Int) (4096+1):=by
   have h2:(1:Int)*min (L:Int) (4096+1)<=(C:Int)*min (L:Int) (4096+1):=Int.mul_le_mul_of_nonneg_right (by omega) (by omega);omega
  omega
 have h2:min (L:Int) (4096+1)=L:=by omega
 rw[h2] at h h1;have h3:((C*L:Nat):Int)<=60:=by rw[Int.natCast_mul];exact h
 omega
section
attribute [local irreducible] aE ai be aP aJ aK ay aL aR bn Go.Abs.Fn aO Go.Abs.Pure ak aD Yl
theorem JO(a:AdvV)(ha:ShA a)(ho:AdvOk a):∀(k s:Nat),s<a.states.length->k<=6->(bq a k s).length<=4096->pU 117 [d6 a,.int .i64 s,.int .i64 k] (dP (bq a k s)):=by
 intro k
 induction k with
 |zero=>
  intro s hs hk hw;refine pO IS ?_;simp only[KJ,aw];unfold d6;rw[PC.2.2.2.1];have z:decide (((0:Nat):Int)=0)=true:=rfl;refine wnY (aI @PE @z) ?_;refine mN (l:=[bS []]) ac rfl (by simp) rfl (λy hy=>?_) (λi a c ha hc=>?_)
  ·simp at hy;subst hy;rfl
  ·match i with
   |0=>simp at ha hc;subst ha hc;exact .eslsl 7
 |succ k ih=>
  intro s hs hk hw;have hwl:=wG (a:=a) (k:=k) (s:=s)
  have hcall:∀m∈a.st s,(bq a k m.to.toNat).length<=4096/\pU 117 [d6 a,.int .i64 m.to,.int .i64 k] (dP (bq a k m.to.toNat)):=λm hm=>by
   obtain⟨_,_,q1,q2⟩:=ho.mv _ (lR hs) m hm
   have hle:(bq a k m.to.toNat).length<=(bq a (k+1) s).length:=by
    rw[hwl];exact Cw (dK.2 ⟨m,hm,rfl⟩)
   have:=ih m.to.toNat (by omega) (by omega) (by omega);rw[show((m.to.toNat:Nat):Int)=m.to by omega] at this;exact⟨by omega,this⟩
  refine pO IS ?_;simp only[KJ,aw];have hd:=dG a;unfold d6 at hcall hd |-;rw[PC.2.2.2.1] at hcall hd |-;have z:decide (((k+1:Nat):Int)=0)=false:=bK (by omega);have ix:=zu hs;rw[oM] at ix;have hll:=ha.each _ (lR hs);have hW:bq a (k+1) s=(a.st s).flatMap λm=>(bq a k m.to.toNat).map λw=>m.r::w:=rfl;rw[hW] at hw |-;have hlen6:∀m∈a.st s,∀w∈bq a k m.to.toNat,w.length<=6:=λm _ w hw=>by rw[nr hw];omega
  clear ih hwl hW;generalize a.st s=l at *;have tk:((k+1:Nat):Int)-1=(k:Nat):=by omega
  refine wnY (aI @PE @z) ?_;refine bj (X:=Nat×AV) (λx=>[(1,.int .i64 s),(2,.int .i64 ((k+1:Nat):Int)),(3,.ptr 0 2 0),(7,x.2),(8,.int .i64 x.1)]) (λx H nx=>x.1<=l.length/\H 0=some [.int .i64 a.n,bh a.states]/\0<nx/\Row H 1 x.2 (((l.take x.1).flatMap λm=>(bq a k m.to.toNat).map λw=>m.r::w).map bS)/\∀b,bd x.2=some b->0<b/\b<nx) (λx=>l.length-x.1) (0,.esl) ⟨bz _,ac,g8,.nil,λb h=>(by cases h)⟩ (by simp (disch:=omega) only[agr,ZG,reduceEqDiff,↓reduceIte,SL]) ?_;rintro⟨i,sv⟩ H nx ⟨i1,g0,hn,hrow,hb⟩;dsimp only at i1 hrow hb |-;by_cases hi:i<l.length
  rotate_left
  ·rw[ji (by omega)] at hrow;refine wnY (zI3 @PE @g0 @ix) ?_;exact Cd hrow
  have ixm:=ixM hi;rw[PC.2.2.1] at ixm;have hm:=au hi;obtain⟨c1,c2⟩:=hcall _ hm;have c3:=hlen6 _ hm
  have hdl:(((l.take i).flatMap λm=>(bq a k m.to.toNat).map λw=>m.r::w)++(bq a k (l.getD i default).to.toNat).map λw=>(l.getD i default).r::w).length<=4096:=by
   have e:l.flatMap (λm=>(bq a k m.to.toNat).map λw=>m.r::w)=(l.take (i+1)).flatMap (λm=>(bq a k m.to.toNat).map λw=>m.r::w)++(l.drop (i+1)).flatMap λm=>(bq a k m.to.toNat).map λw=>m.r::w:=by
    rw[<-List.flatMap_append,xC]
   rw[e,cq,cu hi,List.flatMap_append,lJ,List.flatMap_nil,gI] at hw;omega
  have hnx:((l.take (i+1)).flatMap λm=>(bq a k m.to.toNat).map λw=>m.r::w)=((l.take i).flatMap λm=>(bq a k m.to.toNat).map λw=>m.r::w)++(bq a k (l.getD i default).to.toNat).map λw=>(l.getD i default).r::w:=by
   rw[cu hi,List.flatMap_append,lJ,List.flatMap_nil,gI]
  generalize bq a k (l.getD i default).to.toNat=R at *;generalize l.getD i default=m at *;generalize hD:((l.take i).flatMap λm=>(bq a k m.to.toNat).map λw=>m.r::w)=D at *;refine wnY (zI5 @PE @g0 @ix @ixm @tk) ?_;have f0:∀cs x,x<nx->ar (ar H nx cs) nx (bE cs 0 [.int .i64 m.r.n,.int .i64 m.r.h0,.int .i64 m.r.h1,.int .i64 m.r.h2,.int .i64 m.r.h3,.int .i64 m.r.h4,.int .i64 m.r.f,.int .i64 m.to]) x=H x:=λcs x hx=>by rw[ab (by omega),ab (by omega)]
  refine rQ (X:=Nat×AV) (λx=>[(1,.int .i64 s),(2,.int .i64 ((k+1:Nat):Int)),(3,.ptr 0 2 0),(7,x.2),(8,.int .i64 i),(9,.ptr nx 8 0),(10,dP R),(11,.int .i64 x.1)]) (λx H n=>x.1<=R.length/\H 0=some [.int .i64 a.n,bh a.states]/\nx<n/\H nx=some [.int .i64 m.r.n,.int .i64 m.r.h0,.int .i64 m.r.h1,.int .i64 m.r.h2,.int .i64 m.r.h3,.int .i64 m.r.h4,.int .i64 m.r.f,.int .i64 m.to]/\Row H 1 x.2 ((D++(R.take x.1).map (m.r:: ·)).map bS)/\∀b,bd x.2=some b->0<b/\b≠nx/\b<n) (λx=>R.length-x.1) (0,sv) ⟨bM,_,Fz.none,⟨bz _,(f0 _ 0 hn).trans g0,by omega,ac,by rw[List.take_zero,List.map_nil,gI];exact hrow.same λb h=>f0 _ b (hb b h).2,λb h=>by have:=hb b h;omega⟩,eN (by simp (disch:=omega) only[agr,ZG,reduceEqDiff,↓reduceIte,SL])⟩ ?_;clear hrow hb g0 f0;rintro⟨j,sv⟩ H1 nx1 ⟨j1,g0,hn1,gm,hrow,hb⟩;dsimp only at j1 hrow hb |-;obtain⟨o1,o2⟩:=hrow.one;by_cases hj:j<R.length
  rotate_left
  ·rw[ji (by omega)] at hrow;refine wnY (zI3 @PE @o1 @o2) ?_;exact⟨(i+1,sv),by dsimp only;omega,⟨by dsimp only;omega,g0,by omega,by dsimp only;rw[hnx];exact hrow,λb h=>by have:=hb b h;omega⟩,ag0⟩
  have iy:=JZ hj;have hwl:=c3 _ (au hj)
  have e1:(D++(R.take (j+1)).map (m.r:: ·)).map bS=(D++(R.take j).map (m.r:: ·)).map bS++[bS (m.r::R.getD j default)]:=by
   simp only[cu hj,dq,gM,gu,List.map_nil]
  have hln:((D++(R.take j).map (m.r:: ·)).map bS).length<=4096:=by
   rw[cq,bD] at hdl;rw[bD,cq,bD,jt];omega
  generalize R.getD j default=w at *;refine wnY (zI5 @PE @iy @gm @o1 @o2) ?_;refine d7 (xv:=bS w) (sv:=.msl nx1 7 7 0 1) (cs:=[.int .i64 m.r.n,.int .i64 m.r.h0,.int .i64 m.r.h1,.int .i64 m.r.h2,.int .i64 m.r.h3,.int .i64 m.r.h4,.int .i64 m.r.f]) rfl ev0 (Row.box nx1 1 _ ac rfl) ev0 ug (xo w) (xF w) (by omega) (by simp;omega) (by simp;omega) ?_;rintro s2 H2 nx2 r1 r2 r3 r4 r5;obtain⟨b2,ln,rfl,hb2,hl2⟩:=zo r1 (by simp)
  have hb3:nx1<=b2/\b2<nx2:=by
   rcases r5 b2 rfl with e|⟨e,_⟩
   ·cases e;omega
   ·omega
  have hcw:[AV.int .i64 m.r.n,.int .i64 m.r.h0,.int .i64 m.r.h1,.int .i64 m.r.h2,.int .i64 m.r.h3,.int .i64 m.r.h4,.int .i64 m.r.f]++cL fi w=cL fi (m.r::w):=rfl;rw[hcw] at hb2 hl2;refine wnY and_self ?_;have hold:∀b,b<nx1->H2 b=H1 b:=λb hb=>by rw[r4 b (by omega) (λe=>by cases e;omega),ab (by omega)]
  refine d7 rfl ev0 (hrow.same λb h=>by rw[ab (by have:=hb b h;omega)];exact hold b (hb b h).2.2) ev0 (k:=1) (new:=[.msl b2 (ln*7) 7 0 ln]) n7 rfl rfl g8 (by omega) (by omega) ?_;rintro s3 H3 nx3 u1 u2 u3 u4 u5;have hx:∀x,x<nx1->bd sv≠some x->H3 x=H1 x:=λx h1 h2=>by rw[u4 x (by omega) h2,ab (by omega)];exact hold x h1
  have hb4:H3 b2=some (cL fi (m.r::w)):=by
   rw[u4 b2 (by omega) (λe=>by have:=hb b2 e;omega),ab (by omega)];exact hb2
  obtain ⟨H4,hfz,hr4,hs4⟩:=y7 (x':=bS (m.r :: w)) u1 hb4 (EY (Row.box b2 ln _ eO hl2)) (fun e=>by
   rcases u5 b2 e with h|h
   ·have:=hb b2 h;omega
   ·omega)
  have hz:∀x,x<nx1->bd sv≠some x->H4 x=H1 x:=λx h1 h2=>by
   rw [hs4 x (by omega) (fun e=>by
    rcases u5 x e with h|h
    ·exact h2 h
    ·omega)]
   exact hx x h1 h2
  refine wnY and_self ?_;refine⟨(j+1,s3),by dsimp only;omega,_,H4,hfz,⟨by dsimp only;omega,(hz 0 (by omega) λe=>by have:=hb 0 e;omega).trans g0,by omega,(hz nx hn1 λe=>by have:=hb nx e;omega).trans gm,?_,λb h=>?_⟩,eN ag0⟩
  ·dsimp only;rw[e1];exact hr4
  ·rcases u5 b h with h|h
   ·have:=hb b h;omega
   ·omega
theorem nS(p:PrbV)(hs:ShP p)(ha:ShA p.adv)(hm:dp p.adv.states<=4096):pU 90 [cI p] (.int .i64 (kN p)):=by
 refine pO Po ?_;simp only[b90,aw];have h1:=J7 p.task hs.c hs.t;have h2:=Dw p.adv ha hm;have d1:=mP p.task;have d2:=dG p.adv;unfold cI kN;unfold pJ at h1 d1;unfold d6 at h2 d2;rw[PC.2.2.2.1] at h2 d2;rw[PC.2.2.2.2.1];generalize en p.task=e1 at *;generalize sB p.adv=e2 at *;have zz:=@PE;repeat' (first|refine zW ?_|apply a_n|apply a_r|refine zO ?_|refine vZ ?_|refine cZ ?_ (hp:=by first|exact h1|exact h2)|refine bxZ ?_|refine gTZ ?_|refine gFZ ?_|refine cTZ ?_|(refine zGZ ?_ ?_<;>(intro _hg;try (exfalso;omega)))|refine bk rfl ?_|refine r1Z ?_|fail)
 all_goals (refine aA ?_;(repeat' split)<;>omega)
theorem oW(p:PrbV)(ha:ShA p.adv)(h0:kN p=0)(lim:Int)(hl:0<=lim)(hl2:lim<=1048576)(hc:p.task.cases.length<=1024):pU 91 [cI p,.int .i64 lim] (.int .i64 (oa p lim)):=by
 refine pO Pp ?_;simp only[b91,aw];obtain⟨_,ho,_,r0,r6⟩:=eJ h0;have h2:=Bz p.adv ha ho p.rounds.toNat (by omega) lim hl hl2;have d2:=dG p.adv
 have hb:0<=kI p.adv p.rounds.toNat lim/\kI p.adv p.rounds.toNat lim<=lim+1:=by
  unfold kI;have:=tw (a:=p.adv) (lim:=lim) p.rounds.toNat;have:=ho.s1;exact sP hl _ _ (iM (by omega))
 rw[show((p.rounds.toNat:Nat):Int)=p.rounds by omega] at h2;unfold cI oa;unfold d6 at h2 d2;rw[PC.2.2.2.1] at h2 d2;rw[PC.2.2.2.2.1];generalize kI p.adv p.rounds.toNat lim=M at *;have hw:0<=(p.task.cases.length:Int)*M/\(p.task.cases.length:Int)*M<=1024*1048577:=⟨Int.mul_nonneg (by omega) (by omega),Int.mul_le_mul (by omega) (by omega) (by omega) (by omega)⟩
 have hww:IntKind.wrap .i64 ((p.task.cases.length:Int)*M)=(p.task.cases.length:Int)*M:=iU (by omega) (by omega);refine wkZ (aI @PE @hww) ?_;exact aA rfl
theorem Ij(q:Nat)(x:Int):pU 118 [.int .i64 q,.int .i64 x] (dx ⟨q,0,x,-1,-1,-1,-1,-1⟩):=by
 refine pO NJ ?_;simp only[K8,aw];refine wnZ and_self ?_;refine bj (X:=Nat) (λk=>[(4,.ptr 0 8 0),(5,.ptr 1 8 0),(6,.int .i64 k)]) (λk H nx=>k<=5/\H 0=some [.int .i64 0,.int .i64 0,.int .i64 0,.int .i64 0,.int .i64 0,.int .i64 0,.int .i64 0,.int .i64 0]/\H 1=some (vwc q 0 x (hk (λ_=>-1) k))) (λk=>5-k) 0 ⟨bz _,rfl,rfl⟩ (by simp (disch:=omega) only[agr,ZG,reduceEqDiff,↓reduceIte,SL]) ?_;rintro k H nx ⟨k1,g0,g1⟩;by_cases hk5:k<5
 rotate_left
 ·obtain rfl:k=5:=by omega
  rw[Fl] at g1;refine wnZ (aI @g0 @g1) ?_;exact ms ⟨q,0,x,-1,-1,-1,-1,-1⟩ _
 have hp:=sW (a:=q) (b:=0) (c:=x) (oO (λ_=>-1) k) hk5 (-1);rw[yn hk5] at hp;have hl:=pm q 0 x (oO (λ_=>-1) k);generalize vwc q 0 x (hk (λ_=>-1) k)=L at *;refine wnZ (zI3 @IX @g0 @g1) ?_;exact⟨k+1,by omega,⟨by omega,g0,by rw[ac,hp]⟩,ag0⟩
theorem Ku(r:RndV)(k q:Nat)(now:List Int)(hn:r.n=now.length)(h5:now.length<=5)(hq:q<5)(hb:0<=r.hs.getD q 0/\r.hs.getD q 0<=9223372036854775807):pU 119 [j9 r,.int .i64 k,.int .i64 q,aH now] (dx (l9 r k now q)):=by
 refine pO Ny ?_;simp only[LO,aw];unfold j9;rw[PC.2.1];have hc:=nN r hq;have he:(l9 r k now q).cs=vwc q k 0 (hk (hrd (r.hs.getD q 0) now) 5):=rfl;rw[show dx (l9 r k now q)=.agg (l9 r k now q).cs from rfl,he];generalize r.hs.getD q 0=x at *;generalize hG:hrd x now=G at *;have hG1:∀i,G i=if i<now.length/\hasFl x i=true then now.getD i 0 else-1:=λi=>by rw[<-hG];rfl
 clear he hG;refine wnZ and_self ?_;refine bj (X:=Nat) (λi=>[(1,.int .i64 k),(2,.int .i64 q),(3,aH now),(4,.ptr 0 6 0),(8,.ptr 1 8 0),(9,.ptr 2 8 0),(10,.int .i64 i)]) (λi H nx=>i<=5/\H 0=some [.int .i64 r.n,.int .i64 r.h0,.int .i64 r.h1,.int .i64 r.h2,.int .i64 r.h3,.int .i64 r.h4]/\H 1=some [.int .i64 0,.int .i64 0,.int .i64 0,.int .i64 0,.int .i64 0,.int .i64 0,.int .i64 0,.int .i64 0]/\H 2=some (vwc q k 0 (hk G i))) (λi=>5-i) 0 ⟨bz _,rfl,rfl,rfl⟩ (by simp (disch:=omega) only[agr,ZG,reduceEqDiff,↓reduceIte,SL]) ?_;rintro i H nx ⟨i1,g0,g1,g2⟩;by_cases hi5:i<5
 rotate_left
 ·obtain rfl:i=5:=by omega
  rw[Fl] at g2 |-;refine wnZ (zI3 @g0 @g1 @g2) ?_;exact ms ⟨q,k,0,G 0,G 1,G 2,G 3,G 4⟩ _
 have hp:=sW (a:=q) (b:=k) (c:=0) (oO G i) hi5 (-1);have hp2:=sW (a:=q) (b:=k) (c:=0) (l:=(hk G i).set i (-1)) (by rw[List.length_set];exact oO G i) hi5 (G i);rw[List.set_set,yn hi5] at hp2;have hm1:G i=-1->vwc q k 0 ((hk G i).set i (-1))=vwc q k 0 (hk G (i+1)):=λh=>by rw[<-h,yn hi5]
 have hl:=pm q k 0 (oO G i);have hl2:=pm q k 0 (l:=(hk G i).set i (-1)) (by rw[List.length_set];exact oO G i);have hGi:=hG1 i;have hh:=qf x i hb.1 hb.2 (by omega);generalize vwc q k 0 (hk G i)=L at *;generalize vwc q k 0 ((hk G i).set i (-1))=L2 at *;cases hv:hasFl x i with
 |false=>
  rw[hv] at hh hGi;rw[if_neg λh=>by cases h.2] at hGi;have zz:=aI @IX (aI @g0 (aI @g1 (aI @g2 @hc)));repeat' (first|refine zW ?_|apply a_n|refine zO ?_|refine vZ ?_|refine cZ ?_ (hp:=hh)|refine stZ ?_|refine gTZ ?_|refine gFZ ?_|refine cFZ ?_|(refine zGZ ?_ ?_<;>(intro _hg;try (exfalso;omega)))|fail)
  all_goals exact⟨i+1,by omega,⟨by omega,g0,g1,by rw[ac,hp,hm1 hGi]⟩,ag0⟩
 |true=>
  rw[hv] at hh hGi;by_cases hin:i<now.length
  ·rw[if_pos ⟨hin,rfl⟩] at hGi
   have ix:cA 1 (aH now) (.int .i64 (i:Int))=some (.iptr [.int .i64 (now.getD i 0)] 0):=by
    have:=mg (l:=now) (n:=(i:Int)) (by omega) (by omega)
    rwa [bQ] at this
   rw[<-hGi] at ix;generalize G i=y at *;refine wnZ (zI6 @IX @g0 @g1 @g2 @hc @ix) ?_;refine lm (b:=2) (n:=8) (off:=3+i) (cs:=L2) (vs:=[.int .i64 y]) rfl ev0 ev0 (by rw[ac,hp]) rfl rfl hl2 rfl (by omega) ?_;refine wnZ and_self ?_;exact⟨i+1,by omega,⟨by omega,g0,g1,by rw[ac,hp2]⟩,ag0⟩
  ·rw[if_neg λh=>hin h.1] at hGi;refine wnZ (zI5 @IX @g0 @g1 @g2 @hc) ?_;exact⟨i+1,by omega,⟨by omega,g0,g1,by rw[ac,hp,hm1 hGi]⟩,ag0⟩
theorem G7(n:Int)(vs:List VwV)(v:VwV)(hl:vs.length<=17592186044416):pU 150 [.agg [.int .i64 n,dE vs],dx v] (.int .i64 (As vs v)):=by
 refine pO MR ?_;simp only[Nh,aw];unfold dx As;rw[PC.2.2.2.2.2.1];refine wnZ @PE ?_;refine fS (X:=Nat) (λk=>[(2,.ptr 0 2 0),(3,.ptr 1 8 0),(5,.int .i64 k)]) (λk=>k<=vs.length/\∀i,i<k->vs.getD i default≠v) (λk=>vs.length-k) 0 ⟨bz _,λi h=>absurd h (Nat.not_lt_zero _)⟩ (by simp (disch:=omega) only[agr,ZG,reduceEqDiff,↓reduceIte,SL]) ?_;rintro k ⟨k1,k2⟩;by_cases hk5:k<vs.length
 rotate_left
 ·refine wnZ @PE ?_;refine aA ?_;rw[if_neg λhm=>?_];obtain⟨i,hi,rfl⟩:=mM hm;exact k2 i (by omega) (by simp[List.getD,hi])
 have ix:=ixW hk5;rw[PC.2.2.2.2.2.1] at ix;have he:=EF (v:=vs.getD k default) (w:=v);have hat:=E6 hk5 k2;have hme:=au hk5;generalize hw:vs.getD k default=w at *;have zz:=aI @PE (aI @ix @EQ);repeat' (first|refine zW ?_|apply a_n|apply a_r|refine zO ?_|refine vZ ?_|(refine zGZ ?_ ?_<;>(intro _hg;try (exfalso;omega)))|refine bk rfl ?_|refine r1Z ?_|fail)
 ·refine aA ?_;have e:=he.1 _hg;rw[if_pos (e▸hme),hat e]
 ·have hne:w≠v:=λh=>_hg (he.2 h);refine⟨k+1,⟨by omega,λi hi=>?_⟩,by omega,ag0,rfl,rfl⟩;rcases ij.1 hi with h|rfl
  ·exact k2 i h
  ·rw[hw];exact hne
theorem La(n:Int)(vs:List VwV)(v:VwV)(hl:vs.length<=1000000):pU 120 [.agg [.int .i64 n,dE vs],dx v] (.tup [.agg [.int .i64 n,dE (jY vs v)],.int .i64 ((jY vs v).idxOf v:Nat)]):=by
 refine pO KV ?_;simp only[NL,aw];have hi:=G7 n vs v (by omega);rw[GJ,HN];have d1:Dat (.agg [.int .i64 n,dE vs]):=Dat.agg (DatL.cons .int (DatL.cons (lq _) DatL.nil));have d2:=ms v;have hcl:(cL dx vs).length<=8000000:=by rw[t8];omega
 unfold dx at hi d2 |-;rw[PC.2.2.2.2.2.1] at hi d2 |-;generalize As vs v=i at *;by_cases hi0:0<=i
 ·rw[if_pos hi0,if_pos hi0];refine wnZ @PE ?_;exact cQ (af (d1 _) (af (.int _ _) aj))
 rw[if_neg hi0,if_neg hi0];refine wnZ @PE ?_
 have hS:∀(H:Hp),H 0=some [.int .i64 n,dE vs]->H 1=some [.int .i64 v.proc,.int .i64 v.round,.int .i64 v.input,.int .i64 v.h0,.int .i64 v.h1,.int .i64 v.h2,.int .i64 v.h3,.int .i64 v.h4]->H 2=some [.int .i64 0,.esl]->H 3=some [.int .i64 n,.esl]->Sub (ar (ar (ar (ar bM 0 [.int .i64 n,dE vs]) 1 [.int .i64 v.proc,.int .i64 v.round,.int .i64 v.input,.int .i64 v.h0,.int .i64 v.h1,.int .i64 v.h2,.int .i64 v.h3,.int .i64 v.h4]) 2 [.int .i64 0,.esl]) 3 [.int .i64 n,.esl]) H:=by
  intro H g0 g1 g2 g3 b cs h;rcases b with _|_|_|_|b
  ·rw[g0];exact h
  ·rw[g1];exact h
  ·rw[g2];exact h
  ·rw[g3];exact h
  ·simp[ar,bM] at h
 refine ir _ rfl (hS _ rfl rfl rfl rfl) ?_;refine wnZ @PE ?_;refine Kv (pv:=[(0,8,.agg [.int .i64 v.proc,.int .i64 v.round,.int .i64 v.input,.int .i64 v.h0,.int .i64 v.h1,.int .i64 v.h2,.int .i64 v.h3,.int .i64 v.h4])]) (cs:=[.int .i64 v.proc,.int .i64 v.round,.int .i64 v.input,.int .i64 v.h0,.int .i64 v.h1,.int .i64 v.h2,.int .i64 v.h3,.int .i64 v.h4]) ev0 rfl (by decide) rfl rfl ?_;refine eh ?_;refine d7 (sz:=8) (xv:=dE vs) rfl ev0 Row.nil ev0 ug (H7 vs) (t8 vs) (by omega) (by simp;omega) (by simp;omega) ?_;rintro s2 H2 nx2 r1 r2 r3 r4 r5;have n4:∀{x:Nat},x<4->bd AV.esl≠some x:=λ_ h=>by cases h
 have q0:=r4 0 (by omega) (n4 (by omega));have q1:=r4 1 (by omega) (n4 (by omega));have q2:=r4 2 (by omega) (n4 (by omega));have q3:=r4 3 (by omega) (n4 (by omega));refine jg ⟨hS _ q0 q1 q2 q3,?_⟩;refine ga ?_;rw[List.nil_append] at r1
 have rB:∀b,bd s2=some b->b=4:=λb h=>by
  rcases r5 b h with h|h
  ·cases h
  ·exact h.1
 refine d7 (k:=1) (xv:=.sl 8 [.agg [.int .i64 v.proc,.int .i64 v.round,.int .i64 v.input,.int .i64 v.h0,.int .i64 v.h1,.int .i64 v.h2,.int .i64 v.h3,.int .i64 v.h4]]) (new:=[.int .i64 v.proc,.int .i64 v.round,.int .i64 v.input,.int .i64 v.h0,.int .i64 v.h1,.int .i64 v.h2,.int .i64 v.h3,.int .i64 v.h4]) rfl ev0 r1 ev0 iY rfl rfl (by omega) (by omega) (by omega) ?_;rintro s3 H3 nx3 u1 u2 u3 u4 u5;have m4:∀{x:Nat},x<4->bd s2≠some x:=λhx h=>by have:=rB _ h;omega
 have p2:=(u4 2 (by omega) (m4 (by omega))).trans q2;have p3:=(u4 3 (by omega) (m4 (by omega))).trans q3;have p0:=(u4 0 (by omega) (m4 (by omega))).trans q0;refine jg ?_;have hrow:Row H3 8 s3 (cL dx (vs++[v])):=by rw[iX,tV];exact u1
 obtain⟨o1,o2⟩:=hrow.one
 have nb:∀x,x<4->bd s3≠some x:=λx hx h=>by
  rcases u5 x h with h|h
  ·exact m4 hx h
  ·omega
 have zz:=aI @PE (aI @p2 (aI @p3 (aI @p0 (aI @o1 @o2))));repeat' (first|refine zW ?_|apply a_n|refine zO ?_|refine nvY ?_|apply ga|refine stY ?_|fail)
 have k3:ar H3 3 (bE [.int .i64 n,.esl] 1 [s3]) 3=some [.int .i64 n,s3]:=by rw[ac];rfl
 have k2:ar H3 3 (bE [.int .i64 n,.esl] 1 [s3]) 2=some [.int .i64 0,.esl]:=by rw[ab (by omega)];exact p2
 have k0:ar H3 3 (bE [.int .i64 n,.esl] 1 [s3]) 0=some [.int .i64 n,dE vs]:=by rw[ab (by omega)];exact p0
 have hrow4:Row (ar H3 3 (bE [.int .i64 n,.esl] 1 [s3])) 8 s3 (cL dx (vs++[v])):=hrow.same λb h=>ab λe=>nb b (by omega) h;generalize ar H3 3 (bE [.int .i64 n,.esl] 1 [s3])=H4 at *;refine ir (cl H4 2) rfl (λb cs h=>(iQ h).2) ?_;refine wnY (zI3 @PE @k3 @k0) ?_;refine eh ?_;refine wnY (zI4 @PE @k2 @o1 @o2) ?_;refine⟨λb cs h=>by rw[ab (iQ h).1];exact(iQ h).2,?_⟩;refine wnY @PE ?_;have hrow5:∀cs,Row (ar H4 2 cs) 8 s3 (cL dx (vs++[v])):=λcs=>hrow4.same λb h=>ab λe=>nb b (by omega) h;exact cQ (af (fV (af (.int _ _) (af (F7 (hrow5 _)) aj))) (af (.int _ _) aj))
theorem Hu(p:PrbV)(hs:ShP p)(ha:ShA p.adv)(h0:kN p=0)(hw:p.task.cases.length*(eT p).length<=4096)(hw2:(eT p).length<=4096):pU 92 [cI p] (fq (bw p)):=by
 refine pO Ps ?_;simp only[b92,aw];obtain⟨hck,ho,hn,r0,r6⟩:=eJ h0;obtain⟨n1,n5,c1,c2⟩:=dg hck;have hinp:=λc hc=>ui hck (c:=c) hc
 have hfrom:pU 117 [d6 p.adv,.int .i64 0,.int .i64 p.rounds] (dP (eT p)):=by
  have:=JO p.adv ha ho p.rounds.toNat 0 (by have:=ho.s1;omega) (by omega) hw2
  rwa [show((p.rounds.toNat:Nat):Int)=p.rounds by omega] at this
 have da:=dG p.adv;unfold d6 at hfrom da;rw[PC.2.2.2.1] at hfrom da
 have hwl:∀w∈eT p,w.length=p.rounds.toNat/\∀r∈w,r.n=p.task.n/\∀q,q<5->0<=r.hs.getD q 0/\r.hs.getD q 0<=9223372036854775807:=λw hw=>by
  refine⟨nr hw,λr hr=>?_⟩;obtain⟨l,hl,m,hm,rfl⟩:=pY hw r hr;have ok:=ho.mv l hl m hm;obtain⟨g1,_,_⟩:=jX ok.r;obtain⟨_,_,g2⟩:=mY g1;refine⟨by rw[ok.n,hn],λq hq=>?_⟩;obtain⟨g3,g4⟩:=g2 q hq;by_cases hqn:m.r.n<=q
  ·rw[g3 hqn];omega
  ·have:=g4 (by omega);have:=x5 (n:=m.r.n) (by rw[ok.n];exact ho.n5);omega
 have hN:((p.task.n.toNat:Nat):Int)=p.task.n:=by omega
 have hsl:=yj (p:=p) n5 r6;have hbl:=tJ (p:=p) n5 r6;have hst1:=λc s i(h:i<(eT p).length)=>zC (p:=p) (c:=c) (s:=s) h;have hst2:=Ct p;have hbs:=qV p;have hsys:(bw p).cs=[.int .i64 p.task.n,.int .i64 p.task.ins,.int .i64 p.task.outs,cC p.task.cases,.int .i64 p.adv.n,bh p.adv.states,.int .i64 p.rounds,.int .i64 p.task.n,dE (bldS p p.task.cases.length).views,ef (bldS p p.task.cases.length).execs]:=rfl;rw[show fq (bw p)=.agg (bw p).cs from rfl,hsys];clear hsys;unfold cI;rw[PC.2.2.2.2.1];have hex:=λc s w=>xQ p c s w;generalize eT p=W at *;refine wnY @PE ?_
 refine rQ (X:=Nat×AV) (λx=>[(1,.ptr 0 7 0),(2,.ptr 1 10 0),(3,.ptr 2 10 0),(4,dP W),(5,.int .i64 x.1)]) (λx H nx=>x.1<=p.task.cases.length/\H 0=some [.int .i64 p.task.n,.int .i64 p.task.ins,.int .i64 p.task.outs,cC p.task.cases,.int .i64 p.adv.n,bh p.adv.states,.int .i64 p.rounds]/\H 1=some [.int .i64 0,.int .i64 0,.int .i64 0,.esl,.int .i64 0,.esl,.int .i64 0,.int .i64 0,.esl,.esl]/\H 2=some [.int .i64 p.task.n,.int .i64 p.task.ins,.int .i64 p.task.outs,cC p.task.cases,.int .i64 p.adv.n,bh p.adv.states,.int .i64 p.rounds,.int .i64 p.task.n,dE (bldS p x.1).views,x.2]/\2<nx/\Row H 3 x.2 (cL gJ (bldS p x.1).execs)/\∀b,bd x.2=some b->2<b/\b<nx) (λx=>p.task.cases.length-x.1) (0,.esl)
  ⟨bM,_,Fz.cell (b:=2) (cs':=[.int .i64 p.task.n,.int .i64 p.task.ins,.int .i64 p.task.outs,cC p.task.cases,.int .i64 p.adv.n,bh p.adv.states,.int .i64 p.rounds,.int .i64 p.task.n,dE [],.esl]) ac (dB.mid (x:=.esl) (x':=dE []) [.int .i64 p.task.n,.int .i64 p.task.ins,.int .i64 p.task.outs,cC p.task.cases,.int .i64 p.adv.n,bh p.adv.states,.int .i64 p.rounds,.int .i64 p.task.n] [.esl] (.eslsl 8)),⟨bz _,by simp (disch:=omega) only[ab,ac],by simp (disch:=omega) only[ab,ac],ac,by omega,.nil,λb h=>(by cases h)⟩,eN (by simp (disch:=omega) only[agr,ZG,reduceEqDiff,↓reduceIte,SL])⟩ ?_
 rintro⟨c,ex⟩ H nx ⟨hc,g0,g1,g2,hnx,hrow,hb⟩;dsimp only at hc g2 hrow hb |-;obtain⟨o1,o2⟩:=hrow.one;by_cases hcl:c<p.task.cases.length
 rotate_left
 ·obtain rfl:c=p.task.cases.length:=by omega
  refine wnY (zI6 @PE @g0 @g1 @g2 @o1 @o2) ?_;refine fV (af (.int _ _) (af (.int _ _) (af (.int _ _) (af (Dat.snap (iL _)) (af (.int _ _) (af (Dat.snap (fP _)) (af (.int _ _) (af (.int _ _) (af (Dat.snap (lq _)) (af (EW (hrow.same λb h=>?_)) aj))))))))));exact ab (by have:=hb b h;omega)
 have hbc:=hbl c;have hcs:=hbs c;rw[<-hst2] at hcs;have hslc:=hsl c (bldS p c);have hst1c:=hst1 c (bldS p c);have hexc:=hex c;have hst0:=K0 p c (bldS p c)
 have hcW:c*W.length+W.length<=4096:=by
  have:(c+1)*W.length<=p.task.cases.length*W.length:=jJ _ hcl;rw[ez,Nat.one_mul] at this;omega
 generalize bldS p c=B0 at *;have ixc:=Tk.aixS_encCs hcl;have hinc:=hinp c hcl;generalize hinpv:(p.task.cases.getD c default).inp=inp at *;refine wnY (zI4 @PE @g0 @g1 @g2) ?_
 refine rQ (X:=Nat×AV) (λx=>[(1,.ptr 0 7 0),(2,.ptr 1 10 0),(3,.ptr 2 10 0),(4,dP W),(5,.int .i64 c),(6,.int .i64 x.1)]) (λx H nx=>x.1<=W.length/\H 0=some [.int .i64 p.task.n,.int .i64 p.task.ins,.int .i64 p.task.outs,cC p.task.cases,.int .i64 p.adv.n,bh p.adv.states,.int .i64 p.rounds]/\H 1=some [.int .i64 0,.int .i64 0,.int .i64 0,.esl,.int .i64 0,.esl,.int .i64 0,.int .i64 0,.esl,.esl]/\H 2=some [.int .i64 p.task.n,.int .i64 p.task.ins,.int .i64 p.task.outs,cC p.task.cases,.int .i64 p.adv.n,bh p.adv.states,.int .i64 p.rounds,.int .i64 p.task.n,dE (stW p c B0 x.1).views,x.2]/\2<nx/\Row H 3 x.2 (cL gJ (stW p c B0 x.1).execs)/\∀b,bd x.2=some b->2<b/\b<nx) (λx=>W.length-x.1) (0,ex)
  ⟨bM,_,Fz.none,⟨bz _,g0,g1,by rw[hst0];exact g2,hnx,by rw[hst0];exact hrow,hb⟩,eN ag0⟩ ?_
 clear g0 g1 g2 hnx hrow hb o1 o2;rintro⟨wi,ex⟩ H nx ⟨hwi,g0,g1,g2,hnx,hrow,hb⟩;dsimp only at hwi g2 hrow hb |-;obtain⟨o1,o2⟩:=hrow.one;by_cases hwl2:wi<W.length
 rotate_left
 ·obtain rfl:wi=W.length:=by omega
  rw[<-hcs] at g2 hrow;refine wnY (zI4 @PE @g0 @g1 @g2) ?_;exact⟨(c+1,ex),by dsimp only;omega,_,_,Fz.none,⟨by dsimp only;omega,g0,g1,g2,hnx,hrow,hb⟩,eN ag0⟩
 have hsw:=hst1c wi hwl2;have hslw:=hslc wi hwi;have ixw:=JZ hwl2;obtain⟨hwl3,hwr⟩:=hwl _ (au hwl2);rw[hexc] at hsw;generalize W.getD wi default=w at *;generalize stW p c B0 wi=B at *;have hV:=lO p.task.n.toNat inp w B.views;have hV0:plV p.task.n.toNat inp w B.views 0=(B.views,[]):=rfl;have hV1:∀k,plV p.task.n.toNat inp w B.views (k+1)=(fu (vf inp w k (plV p.task.n.toNat inp w B.views k).2) p.task.n.toNat (plV p.task.n.toNat inp w B.views k).1,(plV p.task.n.toNat inp w B.views k).2++[eL (vf inp w k (plV p.task.n.toNat inp w B.views k).2) p.task.n.toNat (plV p.task.n.toNat inp w B.views k).1]):=λ_=>rfl;have hBl:B.views.length<=35*8192:=by omega
 have hBx:B.execs.length<=8192:=by omega
 generalize plV p.task.n.toNat inp w B.views=PL at *;refine wnY (zI5 @PE @g0 @g1 @g2 @ixw) ?_;have f0:∀cs cs' y,y<nx->ar (ar H nx cs) nx cs' y=H y:=λcs cs' y hy=>by rw[ab (by omega),ab (by omega)]
 refine rQ (X:=Nat×AV) (λx=>[(1,.ptr 0 7 0),(2,.ptr 1 10 0),(3,.ptr 2 10 0),(4,dP W),(5,.int .i64 c),(6,.int .i64 wi),(7,.ptr nx 3 0),(8,.int .i64 x.1)]) (λx H' n=>x.1<=p.rounds.toNat+1/\H' 0=some [.int .i64 p.task.n,.int .i64 p.task.ins,.int .i64 p.task.outs,cC p.task.cases,.int .i64 p.adv.n,bh p.adv.states,.int .i64 p.rounds]/\H' 1=some [.int .i64 0,.int .i64 0,.int .i64 0,.esl,.int .i64 0,.esl,.int .i64 0,.int .i64 0,.esl,.esl]/\H' 2=some [.int .i64 p.task.n,.int .i64 p.task.ins,.int .i64 p.task.outs,cC p.task.cases,.int .i64 p.adv.n,bh p.adv.states,.int .i64 p.rounds,.int .i64 p.task.n,dE (PL x.1).1,ex]/\nx<n/\H' nx=some [.int .i64 c,bS w,x.2]/\Row H' 1 x.2 ((PL x.1).2.map aH)/\(∀b,bd x.2=some b->nx<b/\b<n)/\∀y,y<nx->y≠2->H' y=H y) (λx=>p.rounds.toNat+1-x.1) (0,.esl)
  ⟨bM,_,Fz.none,⟨bz _,(f0 _ _ 0 (by omega)).trans g0,(f0 _ _ 1 (by omega)).trans g1,by rw[f0 _ _ 2 hnx,hV0];exact g2,by omega,ac,by rw[hV0];exact .nil,λb h=>(by cases h),λy hy _=>f0 _ _ y hy⟩,eN (by simp (disch:=omega) only[agr,ZG,reduceEqDiff,↓reduceIte,SL])⟩ ?_
 clear g0 g1 g2 f0;rintro⟨k,sv⟩ H1 m1 ⟨hk,g0,g1,g2,hm1,gx,hrs,hbs,fr⟩;dsimp only at hk g2 gx hrs hbs |-;obtain⟨o3,o4⟩:=hrs.one;obtain⟨hV2,hV3,hV4⟩:=hV k;have hRk:((p.rounds.toNat:Nat):Int)=p.rounds:=by omega
 by_cases hkr:k<=p.rounds.toNat
 rotate_left
 ·obtain rfl:k=p.rounds.toNat+1:=by omega
  have hrow1:Row H1 3 ex (cL gJ B.execs):=hrow.same λb h=>fr b (hb b h).2 (by have:=hb b h;omega);have hexl:(cL gJ B.execs).length<=24576:=by rw[Ey];omega
  obtain ⟨b2,ln,rfl,hb2,hl2⟩:=uY hrs (fun e=>by
   have:=congrArg List.length e;rw[bD,hV2] at this;cases this)
  have hbb:=hbs b2 rfl;have hne2:∀y,y<m1->bd ex≠some y->y≠m1:=λy h1 _=>by omega
  refine wnY (zI6 @PE @g0 @g2 @gx @o1 @o2) ?_;refine d7 (k:=1) (sv:=ex) (xv:=.msl m1 3 3 0 1) (cs:=cL gJ B.execs) (new:=[.int .i64 c,bS w,.msl b2 ln 1 0 ln]) rfl ev0 (hrow1.same λb h=>ab (by have:=hb b h;omega)) ev0 (co rfl) (by simp only[SO,PE,Bool.and_self]) rfl (by omega) (by omega) (by omega) ?_;rintro s3 H3 m3 r1 r2 r3 r4 r5;have fx:∀y,y<m1->bd ex≠some y->H3 y=H1 y:=λy h1 h2=>by rw[r4 y (by omega) h2,ab (by omega)]
  have nex:∀y,y<=2->bd ex≠some y:=λy hy h=>by have:=hb y h;omega
  have q2:=(fx 2 (by omega) (nex 2 (by omega))).trans g2;obtain⟨o5,o6⟩:=r1.one;refine wnY (zI4 @PE @q2 @o5 @o6) ?_
  have hs3:∀b,bd s3=some b->2<b/\b<m3/\b≠b2:=λb h=>by
   rcases r5 b h with h|h
   ·have:=hb b h;omega
   ·omega
  have hr3:∀cs,Row (ar H3 2 cs) 3 s3 ((cL gJ B.execs++[.int .i64 c,bS w])++[.msl b2 ln 1 0 ln]):=λcs=>by
   rw[gM];exact r1.same λb h=>ab (by have:=hs3 b h;omega)
  have hb3:∀cs,ar H3 2 cs b2=some ((PL (p.rounds.toNat+1)).2.map aH):=λcs=>by
   rw[ab (by omega),fx b2 (by omega) (λh=>by have:=hb b2 h;omega)];exact hb2
  obtain⟨H5,hfz,hr5,hs5⟩:=fe (x':=bi (PL (p.rounds.toNat+1)).2) (hr3 _) (hb3 _) (Row.snapV (Row.box1 eO hl2)) (λe=>(hs3 b2 e).2.2 rfl);have h5:∀y,y<=2->H5 y=_:=λy hy=>hs5 y (by omega) (λh=>by have:=hs3 y h;omega);refine⟨(wi+1,s3),by dsimp only;omega,_,H5,hfz,⟨by dsimp only;omega,?_,?_,?_,by omega,?_,λb h=>by have:=hs3 b h;omega⟩,eN ag0⟩
  ·rw[h5 0 (by omega),ab (by omega),fx 0 (by omega) (nex 0 (by omega))];exact g0
  ·rw[h5 1 (by omega),ab (by omega),fx 1 (by omega) (nex 1 (by omega))];exact g1
  ·rw[h5 2 (by omega),ac,hsw];rfl
  ·rw[hsw];show Row H5 3 s3 (cL gJ (B.execs++[_]));rw[iX,tV];show Row H5 3 s3 (cL gJ B.execs++[.int .i64 (c:Int),bS w,bi (PL (p.rounds.toNat+1)).2]);rw[gM] at hr5;exact hr5
 have hf:=hV1 k;have hfq0:k=0->∀q,vf inp w k (PL k).2 q=⟨q,0,inp.getD q 0,-1,-1,-1,-1,-1⟩:=λe q=>by subst e;rfl
 have hfqS:∀j,k=j+1->∀q,vf inp w k (PL k).2 q=l9 (w.getD j default) (j+1) ((PL k).2.getD j []) q:=λj e q=>by subst e;rfl
 have hV0l:(PL k).1.length<=500000:=by
  have h2:k*p.task.n.toNat<=7*5:=Nat.mul_le_mul (by omega) (by omega);omega
 generalize vf inp w k (PL k).2=f at *;generalize (PL k).1=V0 at *;generalize (PL k).2=rows at *;refine wnY (aI @PE @g0) ?_;refine bj (X:=Nat×AV) (λx=>[(1,.ptr 0 7 0),(2,.ptr 1 10 0),(3,.ptr 2 10 0),(4,dP W),(5,.int .i64 c),(6,.int .i64 wi),(7,.ptr nx 3 0),(8,.int .i64 k),(9,x.2),(10,.int .i64 x.1)]) (λx H' n'=>x.1<=p.task.n.toNat/\H' 2=some [.int .i64 p.task.n,.int .i64 p.task.ins,.int .i64 p.task.outs,cC p.task.cases,.int .i64 p.adv.n,bh p.adv.states,.int .i64 p.rounds,.int .i64 p.task.n,dE (fu f x.1 V0),ex]/\Row H' 1 x.2 ((eL f x.1 V0).map (AV.int .i64))/\(∀b,bd x.2=some b->m1<=b/\b<n')/\m1<=n'/\∀y,y<m1->y≠2->H' y=H1 y) (λx=>p.task.n.toNat-x.1) (0,.esl) ⟨bz _,g2,.nil,λb h=>(by cases h),aZ _,λ_ _ _=>rfl⟩ ag0 ?_;rintro⟨q,lv⟩ H2 m2 ⟨hq,g2',hlrow,hlb,hm2,fr'⟩;dsimp only at hq g2' hlrow hlb |-;have g0':=(fr' 0 (by omega) (by omega)).trans g0;have gx':=(fr' nx (by omega) (by omega)).trans gx;obtain⟨o5,o6⟩:=hlrow.one;have hrs':Row H2 1 sv (rows.map aH):=hrs.same λb h=>fr' b (hbs b h).2 (by have:=hbs b h;omega);by_cases hqn:q<p.task.n.toNat
 rotate_left
 ·obtain rfl:q=p.task.n.toNat:=by omega
  obtain ⟨bl,ll,rfl,hbl2,hll⟩:=uY hlrow (fun e=>by
   have:=congrArg List.length e;rw[bD,iu] at this;have:p.task.n.toNat=0:=this;omega)
  have hblb:=hlb bl rfl;have hrl:(rows.map aH).length<=7:=by rw[bD];omega
  refine wnY (zI5 @PE @g0' @gx' @o3 @o4) ?_;refine d7 (k:=1) (sv:=sv) (xv:=.msl m2 1 1 0 1) (cs:=rows.map aH) (new:=[.msl bl ll 1 0 ll]) rfl ev0 (hrs'.same λb h=>ab (by have:=hbs b h;omega)) ev0 (co rfl) rfl rfl g8 (by omega) (by omega) ?_;rintro s3 H3 m3 r1 r2 r3 r4 r5;have fx:∀y,y<m2->bd sv≠some y->H3 y=H2 y:=λy h1 h2=>by rw[r4 y (by omega) h2,ab (by omega)]
  have nsv:∀y,y<=nx->bd sv≠some y:=λy hy h=>by have:=hbs y h;omega
  have qx:=(fx nx (by omega) (nsv nx (by omega))).trans gx';obtain⟨o7,o8⟩:=r1.one;refine wnY (zI4 @PE @qx @o7 @o8) ?_
  have hs3:∀b,bd s3=some b->nx<b/\b<m3/\b≠bl:=λb h=>by
   rcases r5 b h with h|h
   ·have:=hbs b h;omega
   ·omega
  have hr3:∀cs,Row (ar H3 nx cs) 1 s3 (rows.map aH++[.msl bl ll 1 0 ll]):=λcs=>r1.same λb h=>ab (by have:=hs3 b h;omega)
  have hb3:∀cs,ar H3 nx cs bl=some ((eL f p.task.n.toNat V0).map (AV.int .i64)):=λcs=>by
   rw[ab (by omega),fx bl (by omega) (λh=>by have:=hbs bl h;omega)];exact hbl2
  obtain⟨H5,hfz,hr5,hs5⟩:=fe (x':=aH (eL f p.task.n.toNat V0)) (hr3 _) (hb3 _) (Row.snapI (Row.box1 eO hll)) (λe=>(hs3 bl e).2.2 rfl);have h5:∀y,y<=nx->H5 y=_:=λy hy=>hs5 y (by omega) (λh=>by have:=hs3 y h;omega);refine⟨(k+1,s3),by dsimp only;omega,_,H5,hfz,⟨by dsimp only;omega,?_,?_,?_,by omega,?_,?_,λb h=>by have:=hs3 b h;omega,λy hy hy2=>?_⟩,eN ag0⟩
  ·rw[h5 0 (by omega),ab (by omega),fx 0 (by omega) (nsv 0 (by omega))];exact g0'
  ·rw[h5 1 (by omega),ab (by omega),fx 1 (by omega) (nsv 1 (by omega)),fr' 1 (by omega) (by omega)];exact g1
  ·rw[h5 2 (by omega),ab (by omega),fx 2 (by omega) (nsv 2 (by omega)),g2'];dsimp only;rw[hf]
  ·rw[h5 nx (aZ _),ac];rfl
  ·dsimp only;rw[hf,dq];exact hr5
  ·rw[h5 y (by omega),ab (by omega),fx y (by omega) (nsv y (by omega)),fr' y (by omega) hy2];exact fr y hy hy2
 have hVl:(fu f q V0).length<=1000000:=by have:=lg f q V0;omega
 have hIl:((eL f q V0).map (AV.int .i64)).length<=5:=by rw[bD,iu];omega
 have hnV:fu f (q+1) V0=jY (fu f q V0) (f q):=rfl;have hnI:eL f (q+1) V0=eL f q V0++[(((jY (fu f q V0) (f q)).idxOf (f q):Nat):Int)]:=rfl;have hP:=La p.task.n (fu f q V0) (f q) hVl;have hF:=Ij q (inp.getD q 0)
 have ixq:cA 1 (aH inp) (.int .i64 (q:Int))=some (.iptr [.int .i64 (inp.getD q 0)] 0):=by
  have:=mg (l:=inp) (n:=(q:Int)) (by omega) (by omega)
  rwa [bQ] at this
 have dT:Dat (.agg [.int .i64 p.task.n,dE (fu f q V0)]):=Dat.agg (DatL.cons .int (DatL.cons (lq _) DatL.nil));have dV:=ms (f q);rw[<-hnV] at hP hnI;unfold dx at hP hF dV;generalize hV1e:fu f (q+1) V0=V1 at *;generalize fu f q V0=V at *;generalize ((V1.idxOf (f q):Nat):Int)=idx at *;rw[PC.2.2.2.2.2.1] at hP hF dV;rcases wZ k with hk0|hk0
 ·have hfq:=hfq0 hk0 q;have z:decide (Int.ofNat 0<(k:Int))=false:=bK (by show ¬(0:Int)<_;omega);rw[hfq] at hP dV;generalize inp.getD q 0=x at *;refine wnY (zI6 @PE @g0' @g2' @ixc @ixq @z) ?_;refine d7 (k:=1) (sv:=lv) (xv:=.msl (m2+2) 1 1 0 1) (cs:=(eL f q V0).map (AV.int .i64)) (new:=[.int .i64 idx]) rfl ev0 (hlrow.same λb h=>by have:=hlb b h;simp (disch:=omega) only[ab]) (have zz:=@pV;evZ) (co rfl) rfl rfl g8 (by omega) (by omega) ?_;rintro s' H' nx' r1 r2 r3 r4 r5;refine wnY and_self ?_;refine⟨(q+1,s'),by dsimp only;omega,⟨by dsimp only;omega,?_,?_,λb h=>?_,by omega,λy hy hy2=>?_⟩,ag0⟩
  ·rw[r4 2 (by omega) (λh=>by have:=hlb 2 h;omega)];dsimp only;rw[hV1e];simp (disch:=omega) only[ab,ac];rfl
  ·dsimp only;rw[hnI,dq];exact r1
  ·rcases r5 b h with h|h
   ·have:=hlb b h;omega
   ·omega
  ·rw[r4 y (by omega) (λh=>by have:=hlb y h;omega)];simp (disch:=omega) only[ab];exact fr' y hy hy2
 ·obtain⟨j,rfl⟩:∃j,k=j+1:=⟨k-1,by omega⟩
  have hfq:=hfqS j rfl q;have z:decide (Int.ofNat 0<((j+1:Nat):Int))=true:=bG (by show(0:Int)<_;omega);have tk:((j+1:Nat):Int)-Int.ofNat 1=(j:Int):=by show((j+1:Nat):Int)-1=_;omega
  have hjw:j<w.length:=by omega
  have ixr:=ixR hjw;obtain⟨hrn,hrh⟩:=hwr _ (au hjw);have hjr:j<rows.length:=by omega
  have hnow:(rows.getD j []).length=p.task.n.toNat:=hV3 _ (gW hjr);have hS:=Ku (w.getD j default) (j+1) q (rows.getD j []) (by omega) (by omega) (by omega) (hrh q (by omega));rw[show l9 (w.getD j default) (j+1) (rows.getD j []) q=f q from hfq.symm] at hS;have dR:=jd (w.getD j default)
  obtain ⟨bs,ns,os,hg1,hg2,hg3⟩:=Row.get hrs' (j:=j) (x:=aH (rows.getD j [])) (by
   rw[jQ];simp[List.getD,hjr])
  have hbs2:=hbs bs hg2
  have hSS:∃S:Hp,(∀H':Hp,(∀x,x<m2->H' x=H2 x)->Sub S H')/\S 0=some [.int .i64 p.task.n,.int .i64 p.task.ins,.int .i64 p.task.outs,cC p.task.cases,.int .i64 p.adv.n,bh p.adv.states,.int .i64 p.rounds]/\S nx=some [.int .i64 c,bS w,sv]/\rd1 S (.ptr bs ns os)=some (aH (rows.getD j [])):=by
   refine⟨λx=>if x<m2 then H2 x else none,λH' h b cs hc=>?_,?_,?_,hg3 _ ?_⟩
   ·dsimp only at hc;split at hc
    ·rename_i hlt;rw[h b hlt];exact hc
    ·cases hc
   ·dsimp only;rw[if_pos (by omega)];exact g0'
   ·dsimp only;rw[if_pos (by omega)];exact gx'
   ·show(if bs<m2 then H2 bs else none)=_;rw[if_pos (by omega)]
  obtain⟨S,hSub,s0,sx,srd⟩:=hSS;unfold j9 at dR;unfold j9 dx at hS;rw[PC.2.1] at hS dR;rw[PC.2.2.2.2.2.1] at hS;rw[PC.1] at ixr;generalize f q=v at *;generalize w.getD j default=r at *;generalize rows.getD j []=now at *;generalize inp.getD q 0=x at *;refine wnY (zI6 @PE @g0' @g2' @ixc @ixq @z) ?_;refine ir S rfl (hSub _ λx hx=>by simp (disch:=omega) only[ab]) ?_;have zz:=aI @PE (aI @s0 (aI @sx (aI @ixw (aI @ixr (aI @hg1 (aI @srd (aI @tk (aI @g0' @g2'))))))));repeat' (first|refine zW ?_|apply a_n|refine zO ?_|refine vY ?_|refine nvY ?_|apply ga|refine cY ?_ (hp:=by first|exact hS|exact hP)|refine alY ?_|refine stY ?_|refine blY ?_|fail)
  refine d7 (k:=1) (sv:=lv) (xv:=.msl (m2+2) 1 1 0 1) (cs:=(eL f q V0).map (AV.int .i64)) (new:=[.int .i64 idx]) rfl ev0 (hlrow.same λb h=>by have:=hlb b h;simp (disch:=omega) only[ab]) (have zz:=@pV;evZ) (co rfl) rfl rfl g8 (by omega) (by omega) ?_;rintro s' H' nx' r1 r2 r3 r4 r5;refine wnY and_self ?_;refine⟨(q+1,s'),by dsimp only;omega,⟨by dsimp only;omega,?_,?_,λb h=>?_,by omega,λy hy hy2=>?_⟩,ag0⟩
  ·rw[r4 2 (by omega) (λh=>by have:=hlb 2 h;omega)];dsimp only;rw[hV1e];simp (disch:=omega) only[ab,ac];rfl
  ·dsimp only;rw[hnI,dq];exact r1
  ·rcases r5 b h with h|h
   ·have:=hlb b h;omega
   ·omega
  ·rw[r4 y (by omega) (λh=>by have:=hlb y h;omega)];simp (disch:=omega) only[ab];exact fr' y hy hy2
theorem Hs(p:PrbV)(hs:ShP p):pU 50 [cI p] (.bool (BI p)):=by
 refine pO O6 ?_;simp only[b50,aw];have h1:=OD p.task hs.c hs.t;have h2:=Hq p.adv (qp hs) hs.a;have hck:∀h:xB p.adv=true,pU 90 [cI p] (.int .i64 (kN p)):=λh=>nS p hs (qp hs (nz h).1) (by have:=(nz h).2;omega);have hnm:∀(_:xB p.adv=true)(h0:kN p=0),pU 91 [cI p,.int .i64 4096] (.int .i64 (oa p 4096)):=λh h0=>oW p (qp hs (nz h).1) h0 4096 (by omega) (by omega) (dg (eJ h0).1).2.2.2;have d1:=mP p.task;have d2:=dG p.adv;have d3:=eZ p;unfold cI at hck hnm d3 |-;unfold pJ at h1 d1;unfold d6 at h2 d2;rw[PC.2.2.2.1] at h2 d2;rw[PC.2.2.2.2.1] at hck hnm d3 |-;unfold BI;cases hf1:BJ p.task with
 |false=>
  rw[hf1] at h1;refine wnZ @PE ?_;rw[if_neg λh=>by cases h.1];exact .bool _
 |true=>
 rw[hf1] at h1;cases hf2:xB p.adv with
 |false=>
  rw[hf2] at h2;refine wnZ @PE ?_;rw[if_neg λh=>by cases h.2.1];exact .bool _
 |true=>
 rw[hf2] at h2;have hck:=hck hf2;have hnm:=hnm hf2;by_cases hn:3<p.task.n/\p.task.n<=5
 ·rw[if_neg λh=>h.2.2 hn];refine wnZ @PE ?_
  all_goals first|exact .bool _|omega
 rw[if_pos ⟨rfl,rfl,hn⟩];by_cases h0:kN p=0
 rotate_left
 ·rw[if_pos h0];generalize kN p=e at *;have zz:=@PE;repeat' (first|refine zW ?_|apply a_n|apply a_r|refine zO ?_|refine vZ ?_|refine cZ ?_ (hp:=by first|exact h1|exact h2|exact hck)|refine bxZ ?_|refine gTZ ?_|refine gFZ ?_|refine cFZ ?_|(refine zGZ ?_ ?_<;>(intro _hg;try (exfalso;omega)))|refine bk rfl ?_|refine r1Z ?_|fail)
  all_goals first|exact .bool _|omega
 rw[if_neg λh=>h h0];have hnm:=hnm h0;rw[h0] at hck;generalize oa p 4096=M at *;have zz:=@PE;repeat' (first|refine zW ?_|apply a_n|refine zO ?_|refine vZ ?_|refine cZ ?_ (hp:=by first|exact h1|exact h2|exact hck|exact hnm)|refine bxZ ?_|refine gTZ ?_|refine gFZ ?_|refine cFZ ?_|(refine zGZ ?_ ?_<;>(intro _hg;try (exfalso;omega)))|refine bk rfl ?_|refine r1Z ?_|fail)
 all_goals (refine cf ?_;by_cases q1:M<=60<;>by_cases q2:4096<M<;>first|omega|simp only[q1,q2,decide_true,decide_false,Bool.or_true,Bool.true_or,Bool.or_self]|fail)
theorem Gi(p:PrbV)(hs:ShP p)(ha:ShA p.adv)(hm:dp p.adv.states<=4096)(h0:kN p≠0):pU 51 [cI p] (.tup [.agg Z10,.int .i64 (kN p)]):=by
 refine pO Jh ?_;simp only[b51,aw];have hck:=nS p hs ha hm;have d3:=eZ p;unfold cI at hck d3 |-;rw[PC.2.2.2.2.1] at hck d3 |-;generalize kN p=e at *;refine wnZ @PE ?_;exact cQ (af (fV (a9 BU)) (af (.int _ _) aj))
theorem FH(p:PrbV)(hs:ShP p)(ha:ShA p.adv)(hm:dp p.adv.states<=4096)(h0:kN p=0)(hb:4096<oa p 4096):pU 51 [cI p] (.tup [.agg Z10,.int .i64 17]):=by
 refine pO Jh ?_;simp only[b51,aw];have hck:=nS p hs ha hm;have hnm:=oW p ha h0 4096 (by omega) (by omega) (dg (eJ h0).1).2.2.2;have d3:=eZ p;rw[h0] at hck;unfold cI at hck hnm d3 |-;rw[PC.2.2.2.2.1] at hck hnm d3 |-;generalize oa p 4096=M at *;refine wnZ @PE ?_;exact cQ (af (fV (a9 BU)) (af (.int _ _) aj))
theorem Ha(p:PrbV)(h:OkP p):pU 51 [cI p] (.tup [fq (bw p),.int .i64 0]):=by
 refine pO Jh ?_;simp only[b51,aw];have hm:=h.mv;have hck:=nS p h.sh h.sa (by omega);have hnm:=oW p h.sa h.e0 4096 (by omega) (by omega) (dg (eJ h.e0).1).2.2.2;have hnf:=nP h.e0 h.num;have hbu:=Hu p h.sh h.sa h.e0 (by omega) (by omega);have hl:=(tJ (p:=p) (dg (eJ h.e0).1).2.1 (eJ h.e0).2.2.2.2 p.task.cases.length).2
 have hvl:(bw p).views.length<=8192:=by
  show(bldS p p.task.cases.length).views.length<=8192;omega
 have d3:=eZ p;have d4:=ea (bw p);have hnum:=h.num;rw[h.e0] at hck;unfold cI at hck hnm hbu d3 |-;unfold fq at hbu d4 |-;rw[PC.2.2.2.2.1] at hck hnm hbu d3 |-;rw[PC.2.2.2.2.2.2.2] at hbu d4 |-;generalize oa p 4096=M at *;generalize bw p=s at *;refine wnZ @PE ?_;exact cQ (af (d4 _) (af (.int _ _) aj))
theorem Cz(p:PrbV)(hs:ShP p):pU 25 [cI p] (.bool (im p)):=by
 refine pO O8 ?_;simp only[b25,aw];have hf:=Hs p hs;have d3:=eZ p;have d4:=ea (bw p);cases hfv:BI p with
 |false=>
  rw[hfv] at hf;have e:im p=false:=by unfold im;rw[hfv];rfl
  rw[e];unfold cI at hf d3 |-;rw[PC.2.2.2.2.1] at hf d3 |-;refine wnZ @PE ?_;exact .bool _
 |true=>
 rw[hfv] at hf;obtain⟨q1,q2,q3⟩:=yX hfv;obtain⟨q4,q5⟩:=nz q2;have hsa:=qp hs q4;by_cases h0:kN p=0
 rotate_left
 ·have hb:=Gi p hs hsa (by omega) h0;have e:im p=false:=by unfold im;rw[bK h0,Bool.and_false,Bool.false_and]
  rw[e];have hne:decide (kN p=0)=false:=bK h0;unfold cI at hf hb d3 |-;unfold Z10 at hb;rw[PC.2.2.2.2.1] at hf hb d3 |-;generalize kN p=e at *;refine wnZ (aI @PE @hne) ?_;exact .bool _
 by_cases hb4:4096<oa p 4096
 ·have hb:=FH p hs hsa (by omega) h0 hb4;have e:im p=false:=by unfold im;rw[show decide (oa p 4096<=60)=false from bK (by omega),Bool.and_false]
  rw[e];unfold cI at hf hb d3 |-;unfold Z10 at hb;rw[PC.2.2.2.2.1] at hf hb d3 |-;refine wnZ @PE ?_;exact .bool _
 have h60:oa p 4096<=60:=by
  unfold BI at hfv;rw[if_pos ⟨q1,q2,q3⟩,if_neg λh=>h h0,lA,gr,gr] at hfv;omega
 have e:im p=true:=by unfold im;rw[hfv,bG h0,bG h60];rfl
 rw[e];have hb:=Ha p (vq hs e);unfold cI at hf hb d3 |-;unfold fq at hb d4;rw[PC.2.2.2.2.1] at hf hb d3 |-;rw[PC.2.2.2.2.2.2.2] at hb d4;generalize bw p=s at *;refine wnZ @PE ?_;exact .bool _
end
end Go.Proofs.YtmpcledaoigkaaaGreat
namespace Go.Proofs.YtmpcledaoigkaaaGreat
open Go Go.Abs Go.RowKit
section
variable{H:Type}{enc:TypeId×Value->H}{W:World}
theorem oi:dQ enc Tryz.prog W 3 (AV.int .i64) (λn=>(Lit.int .i64 n).wf=true):=wV Tryz.underlying3
end
theorem th{f:FuncId}{xs:List AV}{vs:List Value}(h:pU f xs (.bool true))(w:World)(hv:dH (E0 (sD w)) w xs vs):
    Calls Tryz.prog f vs.toArray w λe w'=>e=.returned (.bool true)/\Below w.heap.size w w':=by
 refine(h.2 (sD w) w vs (λ_ h=>h) hv).mono ?_;rintro e w' ⟨v,imm',rfl,hb,_,_,_,hr⟩;cases hr;exact⟨rfl,hb⟩
theorem Oi:laidOutB Tryz.prog=true:=by kernel_rfl
end Go.Proofs.YtmpcledaoigkaaaGreat
namespace Go.Proofs.YtmpcledaoigkaaaGreat
open Go Go.Abs Go.RowKit Tk
section
variable{H:Type}{enc:TypeId×Value->H}{W:World}
theorem oL1:dQ enc Tryz.prog W 45 aH Sh:=
 (jk Tryz.underlying45 (sz:=1) (by_:=8) (by kernel_rfl) (by kernel_rfl) g8 (λ_=>rfl) oi).mono λl h=>by have:=h.2.2;show _<=_;omega
theorem oL2:dQ enc Tryz.prog W 100 bi (λl=>Sh l/\∀x∈l,Sh x):=
 (jk Tryz.underlying100 (sz:=1) (by_:=24) (by kernel_rfl) (by kernel_rfl) g8 (λ_=>rfl) oL1).mono λl h=>⟨by have:=h.2.2;show _<=_;omega,h.1⟩
set_option maxRecDepth 100000 in
theorem NF:dQ enc Tryz.prog W 128 ke ShC:=
 (fc Tryz.underlying128 (by kernel_rfl) (bZ (off:=0) (off':=1) rfl (by kernel_rfl) oL1 (bZ (off:=1) (off':=2) rfl (by kernel_rfl) oL2 (bZ (off:=2) (off':=3) rfl (by kernel_rfl) oL2 gK)))).map
  (fun a=>(⟨a.1,a.2.1,a.2.2.1⟩:CaseV)) (by
   rintro⟨i,o,c,u⟩ ⟨h1,h2,h3,_⟩;exact⟨h1,h2.1,h2.2,h3.1,h3.2⟩) (λ_ _=>rfl)
theorem Jc:dQ enc Tryz.prog W 22 cC (λl=>Sh l/\∀c∈l,ShC c):=
 (jk Tryz.underlying22 (sz:=3) (by_:=72) (by kernel_rfl) (by kernel_rfl) (by omega) (λ_=>rfl) NF).mono λl h=>⟨by have:=h.2.2;show _<=_;omega,h.1⟩
set_option maxRecDepth 100000 in
theorem Lj:dQ enc Tryz.prog W 24 pJ (λt=>Sh t.cases/\∀c∈t.cases,ShC c):=
 (fc Tryz.underlying24 (by kernel_rfl) (bZ (off:=0) (off':=1) rfl (by kernel_rfl) oi (bZ (off:=1) (off':=2) rfl (by kernel_rfl) oi (bZ (off:=2) (off':=3) rfl (by kernel_rfl) oi (bZ (off:=3) (off':=4) rfl (by kernel_rfl) Jc gK))))).map
  (fun a=>(⟨a.1,a.2.1,a.2.2.1,a.2.2.2.1⟩:TaskV)) (by
   rintro⟨n,i,o,c,u⟩ ⟨_,_,_,h,_⟩;exact h) (λ_ _=>rfl)
theorem oA5:dQ enc Tryz.prog W 121 (λl:List Int=>.agg (l.flatMap λa=>(AV.int .i64 a).cells)) (λl=>l.length=5/\∀a∈l,(Lit.int .i64 a).wf=true):=
 wU Tryz.underlying121 (sz:=1) (by kernel_rfl) (by kernel_rfl) oi
theorem Ju:dQ enc Tryz.prog W 30 (λl:List Int=>.agg (l.flatMap λa=>(AV.int .u8 a).cells)) (λl=>l.length=2/\∀a∈l,(Lit.int .u8 a).wf=true):=
 wU Tryz.underlying30 (sz:=1) (by kernel_rfl) (by kernel_rfl) (wV Tryz.underlying5)
set_option maxRecDepth 100000 in
theorem Jo:dQ enc Tryz.prog W 123 j9 (λ_=>True):=
 (fc Tryz.underlying123 (by kernel_rfl) (bZ (off:=0) (off':=1) rfl (by kernel_rfl) oi (bZ (off:=1) (off':=6) rfl (by kernel_rfl) oA5 gK))).map
  (fun a=>(⟨a.1,a.2.1.getD 0 0,a.2.1.getD 1 0,a.2.1.getD 2 0,a.2.1.getD 3 0,a.2.1.getD 4 0,0⟩:RndV)) (fun _ _=>trivial) (by
   rintro⟨a,l,u⟩ ⟨_,⟨h,_⟩,_⟩
   match l,h with
   |[h0,h1,h2,h3,h4],_=>rfl)
set_option maxRecDepth 100000 in
theorem OQ:dQ enc Tryz.prog W 125 fi (λ_=>True):=
 (fc Tryz.underlying125 (by kernel_rfl) (bZ (off:=0) (off':=6) rfl (by kernel_rfl) Jo (bZ (off:=6) (off':=7) rfl (by kernel_rfl) oi gK))).map
  (λa=>(⟨a.1.n,a.1.h0,a.1.h1,a.1.h2,a.1.h3,a.1.h4,a.2.1⟩:RndV)) (λ_ _=>trivial) (λ_ _=>rfl)
set_option maxRecDepth 100000 in
theorem N1:dQ enc Tryz.prog W 135 iA (λ_=>True):=
 (fc Tryz.underlying135 (by kernel_rfl) (bZ (off:=0) (off':=7) rfl (by kernel_rfl) OQ (bZ (off:=7) (off':=8) rfl (by kernel_rfl) oi gK))).map
  (λa=>(⟨a.1,a.2.1⟩:MvV)) (λ_ _=>trivial) (λ_ _=>rfl)
theorem JL:dQ enc Tryz.prog W 131 di (λl=>l.length<=17592186044416):=
 (jk Tryz.underlying131 (sz:=8) (by_:=64) (by kernel_rfl) (by kernel_rfl) (by omega) (λ_=>rfl) N1).mono λl h=>by have:=h.2.2;omega
theorem G4:dQ enc Tryz.prog W 25 bh (λl=>l.length<=17592186044416/\∀x∈l,x.length<=17592186044416):=
 (jk Tryz.underlying25 (sz:=1) (by_:=24) (by kernel_rfl) (by kernel_rfl) g8 (λ_=>rfl) JL).mono λl h=>⟨by have:=h.2.2;omega,h.1⟩
set_option maxRecDepth 100000 in
theorem OY:dQ enc Tryz.prog W 27 d6 (λa=>a.states.length<=17592186044416/\∀x∈a.states,x.length<=17592186044416):=
 (fc Tryz.underlying27 (by kernel_rfl) (bZ (off:=0) (off':=1) rfl (by kernel_rfl) oi (bZ (off:=1) (off':=2) rfl (by kernel_rfl) G4 gK))).map
  (fun a=>(⟨a.1,a.2.1⟩:AdvV)) (by
   rintro⟨n,s,u⟩ ⟨_,h,_⟩;exact h) (λ_ _=>rfl)
set_option maxRecDepth 100000 in
theorem Pc:dQ enc Tryz.prog W 29 cI ShP:=
 (fc Tryz.underlying29 (by kernel_rfl) (bZ (off:=0) (off':=4) rfl (by kernel_rfl) Lj (bZ (off:=4) (off':=6) rfl (by kernel_rfl) OY (bZ (off:=6) (off':=7) rfl (by kernel_rfl) oi gK)))).map
  (fun a=>(⟨a.1,a.2.1,a.2.2.1⟩:PrbV)) (by
   rintro⟨t,a,r,u⟩ ⟨h1,h2,_⟩;exact⟨h1.2,h1.1,h2.1,h2.2⟩) (λ_ _=>rfl)
end
theorem N5{a:Int}(h:(Lit.int .u8 a).wf=true):∃n:Nat,a=n/\n<256:=by
 simp only[Lit.wf,ed,gr] at h;have h1:IntKind.min .u8=0:=by decide
 have h2:IntKind.max .u8=255:=by decide
 exact⟨a.toNat,by omega,by omega⟩
end Go.Proofs.YtmpcledaoigkaaaGreat
namespace Go.Proofs.YtmpcledaoigkaaaGreat
open Go Go.Abs Tk
open Nat (reduceEqDiff reduceAdd reduceLeDiff)
theorem EI(n:Nat)(tb tf:Bool):bm .shl tb tf (.int .i64 1) (.int .i64 (n:Int))=some (.int .i64 (IntKind.wrap .i64 (1*2^(min n 64)))):=by
 simp[bm,mO,IntKind.bits]
theorem EK{f:Int}{p:Nat}(h0:0<=f)(hp:p<=60):hasFl f p=!decide (pK (j8 f p)=0):=by
 obtain⟨m,rfl⟩:∃m:Nat,f=m:=⟨f.toNat,by omega⟩
 have e:j8 (m:Int) p=((m/2^p:Nat):Int):=by
  unfold j8;rw[Nat.min_eq_left (by omega),Int.fdiv_eq_ediv_of_nonneg _ (Int.le_of_lt (Int.pow_pos (by omega)))];simp
 rw[e,nJ];unfold hasFl;rw[show(m:Int)/((2^p:Nat):Int)=((m/2^p:Nat):Int) from rfl];generalize m/2^p=x;by_cases h:x%2=0
 ·rw[bK (by omega),bG (by omega)];rfl
 ·rw[bG (by omega),bK (by omega)];rfl
theorem qg{m p:Nat}(hp:p<=60):j8 (m:Int) p=((m/2^p:Nat):Int):=by
 unfold j8;rw[Nat.min_eq_left (by omega),Int.fdiv_eq_ediv_of_nonneg _ (Int.le_of_lt (Int.pow_pos (by omega)))];simp
theorem KF{f:Int}{n:Nat}(h0:0<=f)(h:f<pw n)(hn:n<=60):j8 f n=0:=by
 obtain⟨m,rfl⟩:∃m:Nat,f=m:=⟨f.toNat,by omega⟩
 rw[qg hn,Nat.div_eq_of_lt]
 ·rfl
 ·rw[AN rfl] at h;omega
def lG(a:AdvV)(s:Nat):List (Nat×MvV):=(List.range s).flatMap λi=>(a.st i).map λm=>(i,m)
theorem nU(a:AdvV)(s:Nat):lG a (s+1)=lG a s++(a.st s).map λm=>(s,m):=by
 unfold lG;rw[List.range_succ,List.flatMap_append,lJ,List.flatMap_nil,gI]
theorem zc(a:AdvV)(s:Nat):∀d,∃R,lG a s++R=lG a (s+d)
 |0=>⟨[],gI _⟩
 |d+1=>by
  obtain⟨R,h⟩:=zc a s d;exact⟨R++(a.st (s+d)).map λm=>(s+d,m),by rw[<-gM,h,<-nU];rfl⟩
def vv(a:AdvV):List (Nat×MvV):=lG a a.states.length
theorem zV(a:AdvV):∀s,s<=a.states.length->(lG a s).length=dp (a.states.take s)
 |0,_=>rfl
 |s+1,h=>by
  rw[nU,cq,bD,zV a s (by omega),rF (by omega)];rfl
theorem Ep(a:AdvV):(vv a).length=dp a.states:=by
 unfold vv;rw[zV a _ (aZ _),List.take_length]
def Hb(a b:Int):Int:=IntKind.wrap .i64 (BitVec.ofInt 64 a &&& ~~~BitVec.ofInt 64 b).toNat
theorem HL(tb tf:Bool)(a b:Int):bm .andNot tb tf (.int .i64 a) (.int .i64 b)=some (.int .i64 (Hb a b)):=rfl
set_option maxRecDepth 100000 in
theorem Er:∀a,a<32->∀b,b<32->kf ((a:Nat):Int) ((b:Nat):Int)=true->Hb ((a:Nat):Int) ((b:Nat):Int)=0:=by decide+kernel
theorem Jt{a b:Int}(ha:0<=a/\a<32)(hb:0<=b/\b<32)(h:kf a b=true):Hb a b=0:=by
 have:=Er a.toNat (by omega) b.toNat (by omega);rw[show((a.toNat:Nat):Int)=a by omega,show((b.toNat:Nat):Int)=b by omega] at this;exact this h
theorem fh(n:Nat):bt (.agg [.int .i64 0]) n=(List.replicate n (0:Int)).map (AV.int .i64):=by
 induction n with
 |zero=>rfl
 |succ n ih=>rw[List.replicate_succ,gu,<-ih];simp[bt,List.replicate_succ,AV.cells]
theorem yS:∀{l:List Int}{s:Nat}{x:Int},s<l.length->(l.set s x).getD s 0=x
 |_::_,0,_,_=>rfl
 |_::l,s+1,x,h=>yS (l:=l) (s:=s) (by simpa using h)
def BH(lim:Int)(C:List Int)(nx:List Int)(p:Nat×MvV):List Int:=nx.set p.1 (min (nx.getD p.1 0+C.getD p.2.to.toNat 0) (lim+1))
def oU(lim:Int)(C:List Int)(n:Nat)(D:List (Nat×MvV)):List Int:=D.foldl (BH lim C) (List.replicate n 0)
theorem DU(lim:Int)(C:List Int)(n:Nat)(D:List (Nat×MvV))(s:Nat)(m:MvV):oU lim C n (D++[(s,m)])=(oU lim C n D).set s (min ((oU lim C n D).getD s 0+C.getD m.to.toNat 0) (lim+1)):=by
 unfold oU;rw[List.foldl_append];rfl
theorem CM(lim:Int)(C:List Int):∀(D:List (Nat×MvV))(nx:List Int),(D.foldl (BH lim C) nx).length=nx.length
 |[],_=>rfl
 |p::D,nx=>by rw[List.foldl_cons,CM lim C D];exact List.length_set
theorem F3(lim:Int)(C:List Int)(n:Nat)(D:List (Nat×MvV)):(oU lim C n D).length=n:=by unfold oU;rw[CM,List.length_replicate]
theorem CR(lim:Int)(C:List Int)(s:Nat):∀(l:List MvV)(nx:List Int),s<nx.length->(l.map λm=>(s,m)).foldl (BH lim C) nx=nx.set s (l.foldl (λn m=>min (n+C.getD m.to.toNat 0) (lim+1)) (nx.getD s 0))
 |[],nx,h=>by
  refine List.ext_getElem? λi=>?_;show nx[i]?=(nx.set s (nx.getD s 0))[i]?;rw[List.getElem?_set];split
  ·rename_i e;subst e;simp[h,List.getD]
  ·rfl
 |m::l,nx,h=>by
  rw[gu,List.foldl_cons,CR lim C s l _ (by unfold BH;rw[List.length_set];exact h)];unfold BH;rw[yS h,List.set_set];rfl
theorem zJ{a:AdvV}{lim:Int}{C:List Int}:∀s,s<=a.states.length->oU lim C a.states.length (lG a s)=((List.range s).map λi=>r9 lim C (a.st i))++List.replicate (a.states.length-s) 0
 |0,_=>by simp[oU,lG]
 |s+1,h=>by
  have ih:=zJ (a:=a) (lim:=lim) (C:=C) s (by omega);have hl:((List.range s).map λi=>r9 lim C (a.st i)).length=s:=by simp
  unfold oU at ih |-;rw[nU,List.foldl_append,ih,CR lim C s _ _ (by rw[cq,hl,List.length_replicate];omega)]
  have hg:(((List.range s).map λi=>r9 lim C (a.st i))++List.replicate (a.states.length-s) (0:Int)).getD s 0=0:=by
   rw[ml,ie (by omega),hl,Nat.sub_self,List.getElem?_replicate,if_pos (by omega)];rfl
  rw[hg,List.set_append_right _ _ (by omega),hl,Nat.sub_self,List.range_succ,dq,gM,show a.states.length-s=(a.states.length-(s+1))+1 by omega,List.replicate_succ];rfl
theorem Ev{a:AdvV}{lim:Int}{k:Nat}:oU lim (fF a lim k) a.states.length (vv a)=fF a lim (k+1):=by
 unfold vv;rw[zJ _ (aZ _),Nat.sub_self,List.replicate_zero,gI,fF];refine List.ext_getElem? λi=>?_;rw[jQ,jQ];by_cases hi:i<a.states.length
 ·rw[List.getElem?_range hi,vU hi];simp[AdvV.st,List.getD,hi]
 ·rw[List.getElem?_eq_none (by simp;omega),List.getElem?_eq_none (by omega)];rfl
theorem Cf{lim:Int}(hl:0<=lim){C:List Int}(hC:∀x∈C,0<=x/\x<=lim+1)(n:Nat):∀(D:List (Nat×MvV))(nx:List Int),(∀x∈nx,0<=x/\x<=lim+1)->∀x∈D.foldl (BH lim C) nx,0<=x/\x<=lim+1
 |[],nx,h=>h
 |p::D,nx,h=>by
  rw[List.foldl_cons];refine Cf hl hC n D _ λx hx=>?_;unfold BH at hx;rcases List.mem_or_eq_of_mem_set hx with hx|rfl
  ·exact h x hx
  ·have h1:0<=nx.getD p.1 0:=by
     by_cases hb:p.1<nx.length
     ·exact(h _ (iM hb)).1
     ·rw[ml,List.getElem?_eq_none (by omega)];exact Int.le_refl _
   have h2:0<=C.getD p.2.to.toNat 0:=by
    by_cases hb:p.2.to.toNat<C.length
    ·exact(hC _ (iM hb)).1
    ·rw[ml,List.getElem?_eq_none (by omega)];exact Int.le_refl _
   omega
theorem zU{B n len k:Nat}(h:k<len)(hn:n≠0):kC 1 (.msl B n 1 0 len) (some (.int .i64 k)) none none=some (.msl B n 1 k (len-k)):=by
 simp only[kC,bP,Int.natCast_nonneg,if_true,bQ];rw[if_pos ⟨trivial,by omega,aZ _,hn⟩,if_pos (.inr h),cp,Nat.mul_one]
theorem zi{B n len k:Nat}(h:k<=len)(hn:n≠0):kC 1 (.msl B n 1 0 len) none (some (.int .i64 k)) none=some (.msl B n 1 0 k):=by
 simp only[kC,bP,Int.natCast_nonneg,if_true,bQ];rw[if_pos ⟨trivial,by omega,h,hn⟩,if_pos (.inl trivial),ou,Nat.sub_zero]
theorem CD{H:Hp}{b c:Nat}{cb cs cs':List AV}(hb:H b=some cb)(hc:H c=some cs)(hne:c≠b)(h:dB (only b cb) cs cs'):Fz (only b cb) H (ar (cl H b) c cs'):=
 ⟨fun y d hd=>(by
  unfold only at hd;split at hd
  ·rename_i e;rw[e,hb];exact hd
  ·cases hd),λy d hd=>(by
  by_cases e:y=c
  ·subst e;rw[ac] at hd;cases hd;exact⟨cs,hc,if_neg hne,h⟩
  ·rw[ab e] at hd;obtain⟨h1,h2⟩:=iQ hd;exact⟨d,h2,if_neg h1,dB.refl _ _⟩)⟩
section
attribute [local irreducible] aE ai be aP aJ aK ay aL aR bn Go.Abs.Fn aO Go.Abs.Pure ak aD Yl
theorem JN(n:Nat)(h:n<=5):pU 180 [.int .i64 n] (.int .i64 (pw n-1)):=by
 refine pO Lf ?_;simp only[Nq,aw]
 have hw:IntKind.wrap .i64 (1*2^(min n 64))=pw n:=by
  rw[AN rfl];rcases(by omega:n=0\/n=1\/n=2\/n=3\/n=4\/n=5) with rfl|rfl|rfl|rfl|rfl|rfl<;>rfl
 have hs:=λtb tf=>EI n tb tf;rw[hw] at hs;have hp:=x5 (n:=(n:Int)) (by omega);generalize pw (n:Int)=w at *;refine wnZ @hs ?_;exact aA rfl
theorem Hl(r:RndV)(h:kD r=0):pU 172 [j9 r] (.int .i64 0):=by
 refine pO LB ?_;simp only[K4,aw];obtain⟨h1,h5,hp⟩:=mY h;obtain⟨k,hk⟩:∃k:Nat,r.n=k:=⟨r.n.toNat,by omega⟩
 have hfu:=JN k (by omega);have hpw:=x5 (n:=r.n) (by omega);have hcell:=λq hq=>FJ r (q:=q) hq;unfold j9;rw[PC.2.1];rw[hk] at hp hpw h1 h5 |-;generalize pw (k:Int)=w at *;refine wnZ and_self ?_;refine fS (X:=Nat) (λq=>[(1,.ptr 0 6 0),(14,.agg [.int .i64 r.h0,.int .i64 r.h1,.int .i64 r.h2,.int .i64 r.h3,.int .i64 r.h4]),(15,.int .i64 q)]) (λq=>q<=5) (λq=>5-q) 0 (bz _) (by simp (disch:=omega) only[agr,ZG,reduceEqDiff,↓reduceIte,SL]) ?_;intro q hq;by_cases hq5:q<5
 rotate_left
 ·refine wnZ and_self ?_;exact aA rfl
 have hc:=hcell q hq5;obtain⟨p1,p2⟩:=hp q hq5;have hsh:=λtb tf=>qM tb tf (r.hs.getD q 0) q
 have hmax:0<=r.hs.getD q 0/\r.hs.getD q 0<=31:=by
  by_cases hle:(k:Int)<=q
  ·rw[p1 hle];omega
  ·have:=p2 (by omega);omega
 have hbit:=EK (f:=r.hs.getD q 0) (p:=q) hmax.1 (by omega)
 have hz:(q:Int)<k->decide (pK (j8 (r.hs.getD q 0) q)=0)=false:=λhlt=>by
  rw[(p2 hlt).2.2] at hbit;cases hd:decide (pK (j8 (r.hs.getD q 0) q)=0) with
  |false=>rfl
  |true=>rw[hd] at hbit;cases hbit
 have ha1:=λtb tf=>pB tb tf (j8 (r.hs.getD q 0) q);generalize j8 (r.hs.getD q 0) q=sn at *;generalize pK sn=an at *;generalize r.hs.getD q 0=x at *;by_cases hle:(k:Int)<=q
 ·have hx0:=p1 hle;refine wnZ (aI @IX @hc) ?_;exact⟨q+1,by omega,by omega,ag0,rfl,rfl⟩
 ·obtain⟨x0,x1,_⟩:=p2 (by omega);have hz:=hz (by omega);refine wnZ (zI5 @IX @hc @hsh @ha1 @hz) ?_;exact⟨q+1,by omega,by omega,ag0,rfl,rfl⟩
theorem Gk(n:Nat)(f:Int)(h1:1<=n)(h5:n<=5)(h0:0<=f)(hf:f<pw n):pU 173 [.int .i64 n,.int .i64 f] (.int .i64 0):=by
 refine pO N6 ?_;simp only[KY,aw];have hp:=GY n;rw[if_neg (by omega)] at hp;have hs:=λtb tf=>qM tb tf f n;rw[KF h0 hf (by omega)] at hs;have hpw:=x5 (n:=(n:Int)) (by omega);refine wnZ @hs ?_;exact aA rfl
theorem GU(r:RndV)(h:kJ r=0):pU 155 [fi r] (.int .i64 0):=by
 refine pO Oa ?_;simp only[Mj,aw];obtain⟨h1,h2,h3⟩:=jX h;obtain⟨n1,n5,-⟩:=mY h1;obtain⟨k,hk⟩:∃k:Nat,r.n=k:=⟨r.n.toNat,by omega⟩
 have hg:=Hl r h1;have hps:=Gk k r.f (by omega) (by omega) h2 (by rw[<-hk];exact h3);rw[<-hk] at hps;have hd:=jd r;unfold fi;unfold j9 at hg hd;rw[PC.2.1] at hg hd;rw[PC.1];refine wnZ and_self ?_;exact aA rfl
theorem yz(a:AdvV):pU 133 [d6 a] (.func 157 [.iptr [.int .i64 a.n,bh a.states] 0]):=by
 refine pO Mz ?_;simp only[Ns,aw];unfold d6;rw[PC.2.2.2.1];refine wnZ @PE ?_;exact fY (af (dF rfl rfl (af (.int _ _) (af (Dat.snap (fP _)) aj))) aj)
theorem uu(a:AdvV)(ha:ShA a){y:Nat}{H:Hp}{nx:Nat}(I:List (Nat×MvV)->Hp->Nat->Prop)
    (stab:∀D H H' n n',I D H n->n<=n'->(∀i,i<n->H' i=H i)->I D H' n')
    (rnd:∀D s m H n,I D H n->s<a.states.length->m∈a.st s->(∃R,D++(s,m)::R=vv a)->Yl Tryz.prog y [.int .i64 s,.agg m.cs] H n λr H' n'=>r=.bool true/\I (D++[(s,m)]) H' n')
    (h0:I [] H nx):
    Abs.Fn Tryz.prog 157 [.yld y,.iptr [.int .i64 a.n,bh a.states] 0] H nx λ_ H' nx'=>I (vv a) H' nx':=by
 refine fO Nu ?_;simp only[NQ,aw];obtain⟨h1,h2⟩:=ha;have hmA:vv a=lG a a.states.length:=rfl
 have hpre:∀s,s<a.states.length->∃R,lG a (s+1)++R=vv a:=λs hs=>by
  obtain⟨R,h⟩:=zc a (s+1) (a.states.length-(s+1));exact⟨R,by rw[h,hmA];congr 1;omega⟩
 refine wnY @PE ?_;refine bj (X:=Nat) (λs=>[(0,.yld y),(1,.iptr [.int .i64 a.n,bh a.states] 0),(8,bh a.states),(9,.int .i64 a.states.length),(10,.int .i64 s)]) (λs H n=>s<=a.states.length/\I (lG a s) H n) (λs=>a.states.length-s) 0 ⟨bz _,h0⟩ ag0 ?_;clear h0;rintro s H1 n1 ⟨s1,s2⟩;by_cases hs:s<a.states.length
 rotate_left
 ·obtain rfl:s=a.states.length:=by omega
  rw[hmA];refine wnY @PE ?_;exact s2
 have ix:=zu hs;have hl2:=h2 _ (au (l:=a.states) hs);have hms:=nU a s;have hr:=rnd (s:=s);have hps:=hpre s hs;rw[hms] at hps;rw[oM] at ix hl2;have hr:=λD m H n h1 h2 h3=>hr D m H n h1 hs h2 h3;generalize a.st s=l at *;refine wnY (aI @PE @ix) ?_;refine bj (X:=Nat) (λk=>[(0,.yld y),(1,.iptr [.int .i64 a.n,bh a.states] 0),(3,.int .i64 s),(8,bh a.states),(9,.int .i64 a.states.length),(10,.int .i64 s),(15,di l),(16,.int .i64 l.length),(17,.int .i64 k)]) (λk H n=>k<=l.length/\I (lG a s++(l.take k).map λm=>(s,m)) H n) (λk=>l.length-k) 0 ⟨bz _,by rw[List.take_zero,List.map_nil,gI];exact s2⟩ ag0 ?_;clear s2;rintro k H2 n2 ⟨k1,k2⟩;by_cases hk:k<l.length
 rotate_left
 ·rw[ji (by omega),<-hms] at k2;refine wnY @PE ?_;exact⟨s+1,by omega,⟨by omega,k2⟩,ag0⟩
 have ixm:=ixM hk;have hrm:=hr (lG a s++(l.take k).map λm=>(s,m)) (l.getD k default)
 have hnx:lG a s++(l.take (k+1)).map (λm=>(s,m))=(lG a s++(l.take k).map λm=>(s,m))++[(s,l.getD k default)]:=by
  rw[cu hk,dq,<-gM];rfl
 have hex:∃R,(lG a s++(l.take k).map λm=>(s,m))++(s,l.getD k default)::R=vv a:=by
  obtain⟨R,hR⟩:=hps;refine⟨(l.drop (k+1)).map (λm=>(s,m))++R,?_⟩;rw[<-hR,show(s,l.getD k default)::((l.drop (k+1)).map (λm=>(s,m))++R)=[(s,l.getD k default)]++((l.drop (k+1)).map (λm=>(s,m))++R) from rfl,<-gM,<-hnx,<-gM,gM (lG a s),<-dq,xC]
 have hmm:=au hk;have hrm:=λH n h=>hrm H n h hmm hex;rw[PC.2.2.1] at ixm hrm;rw[<-hnx] at hrm;generalize (lG a s++(l.take k).map λm=>(s,m))=D at *;generalize l.getD k default=m at *;refine wnY (aI @PE @ixm) ?_;refine qd ev0 ev0 (Yl.mono (hrm _ _ (stab D H2 _ n2 _ k2 (by omega) λi hi=>by rw[ab (by omega),ab (by omega)])) ?_);rintro r H3 n3 ⟨rfl,q⟩;refine wnY @PE ?_;exact⟨k+1,by omega,⟨by omega,q⟩,ag0⟩
theorem Ic(a:AdvV)(ha:ShA a)(ho:AdvOk a):pU 131 [d6 a] (.int .i64 0):=by
 refine pO NG ?_;simp only[MP,aw];have hm:=yz a;have hd:=dG a;have hY:=@uu a ha;have h1:=ho.s1;have h2:=ho.s256;have h3:=ho.m4096;have hlen:=Ep a;unfold d6 at hm hd |-;rw[PC.2.2.2.1] at hm hd |-;refine wnY @PE ?_;refine gV 2 3 rfl rfl ev0 (λc0 cj hy=>?_);refine Abs.Fn.mono (hY (y:=2) (nx:=3) (λD H n=>H 0=some [.int .i64 a.n,bh a.states]/\H 1=some [.int .i64 (D.length:Nat)]/\H 2=some [c0]/\3<=n) ?_ ?_ ?_) ?_
 ·rintro D H H' n n' ⟨q0,q1,q2,q3⟩ hn hh;exact⟨(hh 0 (by omega)).trans q0,(hh 1 (by omega)).trans q1,(hh 2 (by omega)).trans q2,by omega⟩
 ·rintro D s m H n ⟨q0,q1,q2,q3⟩ hs hm' ⟨R,hR⟩
  have hDl:D.length<=4096:=by
   have:=congrArg List.length hR;rw[cq] at this;omega
  refine hy _ _ _ _ q2 rfl ?_;clear hy;refine wnZ and_self ?_;refine⟨q2,?_⟩;have e0:cl H 2 0=some [.int .i64 a.n,bh a.states]:=by rw[ca (by omega)];exact q0
  have e1:cl H 2 1=some [.int .i64 (D.length:Nat)]:=by rw[ca (by omega)];exact q1
  generalize cl H 2=H1 at *;refine wnY @e1 ?_;refine⟨rfl,?_,?_,ac,q3⟩
  ·rw[ab (by omega),ab (by omega)];exact e0
  ·rw[ab (by omega),ac,cq,List.length_singleton];rfl
 ·refine⟨by simp (disch:=omega) only[ab,ac],?_,ac,by omega⟩;simp (disch:=omega) only[ab,ac];rfl
 rintro r H' n' ⟨q0,q1,q2,q3⟩;refine .inl ⟨q2,?_⟩;have e0:cl H' 2 0=some [.int .i64 a.n,bh a.states]:=by rw[ca (by omega)];exact q0
 have e1:cl H' 2 1=some [.int .i64 ((vv a).length:Nat)]:=by rw[ca (by omega)];exact q1
 generalize cl H' 2=H1 at *;refine wnY (zI3 @PE @e0 @e1) ?_
 all_goals first|exact aA rfl|(exfalso;omega)
theorem HF(a:AdvV)(l:List MvV)(h1:l≠[])(h2:∀m∈l,MvOk a m)(h3:∀i,0<i->i<l.length->bu (l.getD (i-1) default).r.ints (l.getD i default).r.ints<0)(hl:l.length<=4096)(ha:a.states.length<=256):pU 132 [d6 a,di l] (.int .i64 0):=by
 refine pO Nk ?_;simp only[NA,aw];have hl0:0<l.length:=vO.2 h1;unfold d6;rw[PC.2.2.2.1];refine wnY @PE ?_;refine bj (X:=Nat) (λk=>[(1,di l),(2,.ptr 0 2 0),(11,di l),(12,.int .i64 l.length),(13,.int .i64 k)]) (λk H n=>k<=l.length/\H 0=some [.int .i64 a.n,bh a.states]/\0<n) (λk=>l.length-k) 0 ⟨bz _,ac,g8⟩ (by simp (disch:=omega) only[agr,ZG,reduceEqDiff,↓reduceIte,SL]) ?_;rintro k H n ⟨k1,g0,hn⟩;by_cases hk:k<l.length
 rotate_left
 ·refine wnY @PE ?_;exact aA rfl
 have ix:=ixM hk;obtain⟨m1,m2,m3,m4⟩:=h2 _ (au hk);have hck:=GU (l.getD k default).r m1;have hdm:=np (l.getD k default).r;rw[PC.2.2.1] at ix;have hcm:=λp=>DK p (l.getD k default).r;have hord:=h3 k;unfold fi at hck hdm;rw[PC.1] at hck hdm;have hz:decide ((l.getD k default).r.n≠a.n)=false:=bK (λh=>h m2);cases k with
 |zero=>
  generalize l.getD 0 default=m at *;have z0:decide ((0:Int)<((0:Nat):Int))=false:=rfl;refine wkY (zI5 @PE @ix @g0 @hz @z0) ?_
  all_goals first|(exfalso;omega)|skip
  exact⟨0+1,by omega,⟨by omega,by rw[ab (by omega),ab (by omega)];exact g0,by omega⟩,ag0⟩
 |succ j=>
  have z0:decide ((0:Int)<((j+1:Nat):Int))=true:=bG (by omega)
  have ix2:cA 8 (di l) (.int .i64 (((j+1:Nat):Int)-1))=some (.iptr (l.getD j default).cs 0):=by
   rw[show((j+1:Nat):Int)-1=(j:Int) by omega];exact ixM (by omega)
  rw[PC.2.2.1] at ix2;have hcp:=hcm (l.getD j default).r;have hdp:=np (l.getD j default).r;unfold fi at hdp hcp;rw[PC.1] at hdp;rw[PC.1,PC.1] at hcp;have hord:=hord (by omega) hk;rw[show j+1-1=j from rfl] at hord;clear hcm;generalize l.getD (j+1) default=m at *;generalize l.getD j default=p at *;generalize bu p.r.ints m.r.ints=O at *;have zz:=aI @PE (aI @ix (aI @ix2 (aI @g0 (aI @hz @z0))));repeat' (first|refine zW ?_|refine zM ?_|apply a_n|refine zO ?_|refine vY ?_|refine cY ?_ (hp:=by first|exact hck|exact hcp)|refine alY ?_|refine stY ?_|refine gTY ?_|refine cFY ?_|(refine zGY ?_ ?_<;>(intro _hg;try (exfalso;omega)))|fail)
  all_goals first|(exfalso;omega)|skip
  exact⟨j+1+1,by omega,⟨by omega,by rw[ab (by omega),ab (by omega)];exact g0,by omega⟩,ag0⟩
theorem B3(a:AdvV)(ha:ShA a)(ho:AdvOk a):pU 107 [d6 a] (.int .i64 0):=by
 refine pO Mx ?_;simp only[MH,aw];have hsz:=Ic a ha ho;have hst:=λl hl=>HF a l (ho.ne l hl) (ho.mv l hl) (ho.asc l hl) (gf (pc hl) ho.m4096) ho.s256;have hm:=yz a;have hd:=dG a;have hY:=@uu a ha;have n1:=ho.n1;have n5:=ho.n5;have hl8:=ha.len
 have hgrow:∀l∈a.states,∀m∈l,∀k∈a.st m.to.toNat,Hb m.r.f k.r.f=0:=λl hl m hml k hk=>by
  have hg:=ee.1 (ee.1 ho.grow l hl) m hml;have hin:=ee.1 hg k hk;have ok1:=ho.mv l hl m hml;have ok2:=ho.mv _ (lR (a:=a) (s:=m.to.toNat) (by have:=ok1.to0;have:=ok1.to1;omega)) k hk;obtain⟨_,p0,p1⟩:=jX ok1.r;obtain⟨_,p2,p3⟩:=jX ok2.r;have hpw:=x5 (n:=a.n) n5;rw[ok1.n] at p1;rw[ok2.n] at p3;exact Jt ⟨p0,by omega⟩ ⟨p2,by omega⟩ hin
 unfold d6 at hsz hst hm hd |-;rw[PC.2.2.2.1] at hsz hst hm hd |-;refine wnY @PE ?_;refine bj (X:=Nat) (λk=>[(1,.ptr 0 2 0),(2,.ptr 1 1 0),(25,bh a.states),(26,.int .i64 a.states.length),(27,.int .i64 k)]) (λk H n=>k<=a.states.length/\H 0=some [.int .i64 a.n,bh a.states]/\H 1=some [.int .i64 0]/\n=2) (λk=>a.states.length-k) 0 ⟨bz _,by simp (disch:=omega) only[ab,ac],by simp (disch:=omega) only[ac],rfl⟩ (by simp (disch:=omega) only[agr,ZG,reduceEqDiff,↓reduceIte,SL]) ?_;rintro k H n ⟨k1,g0,g1,rfl⟩;by_cases hk:k<a.states.length
 ·have ix:=zu hk;have hs:=hst _ (au hk);have hdl:=jO (a.states.getD k default);generalize a.states.getD k default=l at *;refine wnY (zI3 @PE @ix @g0) ?_;exact⟨k+1,by omega,⟨by omega,g0,g1,rfl⟩,ag0⟩
 refine wnY (aI @PE @g0) ?_;refine gV 2 3 rfl rfl ev0 (λc0 cj hy=>?_);refine Abs.Fn.mono (hY (y:=2) (nx:=3) (λD H n=>H 0=some [.int .i64 a.n,bh a.states]/\H 1=some [.int .i64 0]/\H 2=some [c0]/\3<=n) ?_ ?_ ?_) ?_
 ·rintro D H H' n n' ⟨q0,q1,q2,q3⟩ hn hh;exact⟨(hh 0 (by omega)).trans q0,(hh 1 (by omega)).trans q1,(hh 2 (by omega)).trans q2,by omega⟩
 ·rintro D s m H n ⟨q0,q1,q2,q3⟩ hs hm'-;have ok:=ho.mv _ (lR hs) m hm';have t0:=ok.to0;have t1:=ok.to1;have hgm:=hgrow _ (lR hs) m hm';have ixs:=IJ (l:=a.states) ⟨t0,t1⟩;rw[oM] at ixs;have hll:=ha.each _ (lR (a:=a) (s:=m.to.toNat) (by omega));generalize a.st m.to.toNat=l at *;refine hy _ _ _ _ q2 rfl ?_;clear hy;rw[PC.2.2.1];refine wnY and_self ?_;refine⟨by simp (disch:=omega) only[ab];exact q2,?_⟩;generalize hX:cl (ar _ _ _) 2=H1;have e0:H1 0=some [.int .i64 a.n,bh a.states]:=by rw[<-hX];simp (disch:=omega) only[ca,ab];exact q0
  have e1:H1 1=some [.int .i64 0]:=by rw[<-hX];simp (disch:=omega) only[ca,ab];exact q1
  have em:H1 n=some [.int .i64 m.r.n,.int .i64 m.r.h0,.int .i64 m.r.h1,.int .i64 m.r.h2,.int .i64 m.r.h3,.int .i64 m.r.h4,.int .i64 m.r.f,.int .i64 m.to]:=by rw[<-hX];simp (disch:=omega) only[ca,ac];rfl
  clear hX q0 q1 q2;refine wnY (zI4 @PE @e0 @em @ixs) ?_;refine bj (X:=Nat) (λj=>[(1,.ptr 0 2 0),(2,.ptr 1 1 0),(8,.ptr n 8 0),(47,di l),(48,.int .i64 l.length),(49,.int .i64 j)]) (λj H' n'=>j<=l.length/\H' 0=some [.int .i64 a.n,bh a.states]/\H' 1=some [.int .i64 0]/\H' n=some [.int .i64 m.r.n,.int .i64 m.r.h0,.int .i64 m.r.h1,.int .i64 m.r.h2,.int .i64 m.r.h3,.int .i64 m.r.h4,.int .i64 m.r.f,.int .i64 m.to]/\n<n') (λj=>l.length-j) 0 ⟨bz _,e0,e1,em,by omega⟩ (by simp (disch:=omega) only[agr,ZG,reduceEqDiff,↓reduceIte,SL]) ?_;clear e0 e1 em;rintro j H2 n2 ⟨j1,e0,e1,em,hn2⟩;by_cases hj:j<l.length
  rotate_left
  ·refine wnY @PE ?_;exact⟨rfl,by rw[ab (by omega)];exact e0,by rw[ab (by omega)];exact e1,ac,by omega⟩
  have ixj:=ixM hj;have hg:=hgm _ (au hj);have hae:=λtb tf=>HL tb tf m.r.f (l.getD j default).r.f;rw[hg] at hae;rw[PC.2.2.1] at ixj;generalize l.getD j default=k at *;refine wnY (zI4 @PE @ixj @em @hae) ?_;exact⟨j+1,by omega,⟨by omega,by simp (disch:=omega) only[ab];exact e0,by simp (disch:=omega) only[ab];exact e1,by simp (disch:=omega) only[ab];exact em,by omega⟩,ag0⟩
 ·exact⟨by rw[ab (by omega)];exact g0,by rw[ab (by omega)];exact g1,ac,by omega⟩
 rintro r H' n' ⟨q0,q1,q2,q3⟩;refine .inl ⟨q2,?_⟩;have e1:cl H' 2 1=some [.int .i64 0]:=by rw[ca (by omega)];exact q1
 generalize cl H' 2=H1 at *;refine wnY (aI @PE @e1) ?_;exact aA rfl
theorem HQ(a b:Nat)(ha:a<65536)(hb:b<65536):pU 57 [.int .u64 a,.int .u64 b] (.tup [.int .u64 0,.int .u64 ((a*b:Nat):Int)]):=by
 refine pO Pq ?_;simp only[b57,aw];have hab:a*b<=65535*65535:=Nat.mul_le_mul (by omega) (by omega)
 have hA:∀(n:Nat)(tb tf:Bool),n<65536->bm .and tb tf (.int .u64 n) (.int .u64 4294967295)=some (.int .u64 n):=λn tb tf h=>by
  have:=HU (k:=.u64) (a:=n) (b:=4294967295) (tb:=tb) (tf:=tf) (by simp[IntKind.bits];omega) (by simp[IntKind.bits]);rw[show((4294967295:Nat):Int)=4294967295 from rfl] at this;rw[this,show(4294967295:Nat)=2^32-1 from rfl,FR,Nat.mod_eq_of_lt (by omega)]
 have hS:∀(n:Nat)(tb tf:Bool),n<4294967296->bm .shr tb tf (.int .u64 n) (.int .u64 32)=some (.int .u64 0):=λn tb tf h=>by
  have:=xA (k:=.u64) (k':=.u64) (a:=n) (b:=32) (tb:=tb) (tf:=tf) (by simp[IntKind.bits]);rw[show((32:Nat):Int)=32 from rfl] at this;rw[this,Nat.div_eq_of_lt (by omega)];rfl
 have hS0:∀(tb tf:Bool),bm .shr tb tf (.int .u64 0) (.int .u64 32)=some (.int .u64 0):=λtb tf=>hS 0 tb tf (by omega);have hA0:∀(tb tf:Bool),bm .and tb tf (.int .u64 0) (.int .u64 4294967295)=some (.int .u64 0):=λtb tf=>hA 0 tb tf (by omega)
 have hM:IntKind.wrap .u64 ((a:Int)*b)=((a*b:Nat):Int):=by
  rw[<-Int.natCast_mul];exact ig (by omega) (by omega)
 have w0:IntKind.wrap .u64 0=0:=by decide
 have qa:=λtb tf=>hA a tb tf ha;have qb:=λtb tf=>hA b tb tf hb;have sa:=λtb tf=>hS a tb tf (by omega);have sb:=λtb tf=>hS b tb tf (by omega);have sab:=λtb tf=>hS (a*b) tb tf (by omega);refine wnZ (aI @qa (aI @qb (aI @sa (fk @sb @hM @sab @Int.zero_mul @Int.mul_zero @Int.add_zero @Int.zero_add @w0 @hS0 @hA0)))) ?_;refine cQ (af (aA rfl) (af (aA rfl) aj))
theorem IY(a b:Nat)(ha:a<65536)(hb:b<65536):pU 30 [.int .u64 a,.int .u64 b] (.tup [.int .u64 0,.int .u64 ((a*b:Nat):Int)]):=by
 refine pO Pg ?_;simp only[b30,aw];have bfe:(false=true)=False:=by simp
 have zz:=@bfe;repeat' (first|refine zW ?_|apply a_n|refine zO ?_|refine vZ ?_|refine cZ ?_ (hp:=by exact HQ a b ha hb) (hs:=by(first|refine aC ?_ rfl|apply aQ);(repeat' (first|exact aj|apply bB|apply a8|exact Dat.int));first|done|fail)|refine cFZ ?_|refine bk rfl ?_|refine r2Z ?_|fail)
 refine cQ (af (aA rfl) (af (aA rfl) aj))
theorem GC(v:Int)(n:Nat)(h1:1<=n)(h2:n<=1000):PureF Tryz.prog 8 [aH [v],.int .i64 n] (aH (List.replicate n v)):=by
 refine qO is8 ?_;simp only[b8,aw];have e1:IntKind.wrap .u64 (([v].length:Nat):Int)=((1:Nat):Int):=ig (by simp) (by simp);have e2:IntKind.wrap .u64 (n:Int)=n:=ig (by omega) (by omega);have e3:IntKind.wrap .i64 ((1*n:Nat):Int)=n:=by rw[iU]<;>omega
 have zz:=aI @e1 @e2;repeat' (first|refine zW ?_|apply a_n|refine zO ?_|refine vZ ?_|refine cZ ?_ (hp:=by exact IY 1 n (by omega) (by omega)) (hs:=by(first|refine aC ?_ rfl|apply aQ);(repeat' (first|exact aj|apply bB|apply a8|exact Dat.int));first|done|fail)|refine gTZ ?_|(refine zGZ ?_ ?_<;>(intro _hg;try (exfalso;omega)))|fail)
 refine l8 rfl ev0 ev0 (by omega) (by omega) (by omega) (by omega) ?_;have e4:((1*n:Nat):Int).toNat=n:=by omega
 rw[e4,fh,Nat.mul_one];refine wnZ and_self ?_;refine zN (n:=1) (by((try simp only[bN,ZA,reduceEqDiff,↓reduceIte,reduceAdd,reduceLeDiff]);(try with_reducible rfl));exact nZ (m:=1) (new:=[.int .i64 v]) (k:=1) uE (by simp;omega) (by omega) ac (by simp) rfl (by omega) rfl) ?_;have hrow:∀k:Nat,1<=k->k<=n->(List.replicate k v++List.replicate (n-k) (0:Int)).length=n:=λk h1 h2=>by simp;omega
 have hst:bE ((List.replicate n (0:Int)).map (AV.int .i64)) 0 [.int .i64 v]=(List.replicate 1 v++List.replicate (n-1) (0:Int)).map (AV.int .i64):=by
  obtain⟨m,rfl⟩:∃m,n=m+1:=⟨n-1,by omega⟩
  simp[bE,List.replicate_succ]
 rw[hst];refine wnZ and_self ?_;refine bj (X:=Nat) (λk=>[(7,.msl 0 n 1 0 n),(8,.int .i64 k)]) (λk H nx=>1<=k/\k<=n/\H 0=some ((List.replicate k v++List.replicate (n-k) (0:Int)).map (AV.int .i64))) (λk=>n-k) 1 ⟨aZ _,h1,ac⟩ ag0 ?_;rintro k H nx ⟨k1,k2,hH⟩;by_cases hk:k<n
 ·have s1:kC 1 (.msl 0 n 1 0 n) (some (.int .i64 k)) none none=some (.msl 0 n 1 k (n-k)):=zU hk (by omega);have s2:kC 1 (.msl 0 n 1 0 n) none (some (.int .i64 k)) none=some (.msl 0 n 1 0 k):=zi (by omega) (by omega)
  have hcp:pF 1 (.msl 0 n 1 k (n-k)) (.msl 0 n 1 0 k) H=some (min k (n-k),ar H 0 (bE ((List.replicate k v++List.replicate (n-k) (0:Int)).map (AV.int .i64)) k ((List.replicate (min k (n-k)) v).map (AV.int .i64)))):=by
   refine nZ (m:=min k (n-k)) (ls:=k) (k:=min k (n-k)) rfl rfl (by omega) hH (by simp;omega) ?_ (by omega) lj;have h:=eY (H:=H) (sz:=1) (b:=0) (n:=n) (off:=0) (len:=min k (n-k)) hH (by simp;omega) (by omega);refine h.trans ?_
   congr 2
   simp only[List.drop_zero,Nat.mul_one,dq,List.map_replicate];rw[qU (by simp;omega),List.take_replicate]
   congr 1;omega
  refine wnZ (aI @s1 @s2) ?_;refine zN (by((try simp only[bN,ZA,reduceEqDiff,↓reduceIte,reduceAdd,reduceLeDiff]);(try with_reducible rfl));exact hcp) ?_
  have e5:bE ((List.replicate k v++List.replicate (n-k) (0:Int)).map (AV.int .i64)) k ((List.replicate (min k (n-k)) v).map (AV.int .i64))=(List.replicate (k+min k (n-k)) v++List.replicate (n-(k+min k (n-k))) (0:Int)).map (AV.int .i64):=by
   simp only[bE,dq,List.map_replicate,List.length_replicate];rw[qU (by simp),List.take_replicate,Nat.min_self,List.drop_append];simp only[List.drop_replicate,List.length_replicate];rw[show k-(k+min k (n-k))=0 by omega,show n-k-(k+min k (n-k)-k)=n-(k+min k (n-k)) by omega,List.replicate_zero,List.nil_append,List.replicate_append_replicate.symm]
   try simp
  rw[e5];simp only[gu,List.map_nil,List.getD_cons_succ,List.getD_cons_zero];refine wnZ and_self ?_;refine⟨k+min k (n-k),by omega,⟨by omega,by omega,ac⟩,ag0⟩
 ·have hkn:k=n:=by omega
  subst hkn;refine wnZ and_self ?_;rw[Nat.sub_self,List.replicate_zero,gI] at hH;exact re hH rfl (by simp)
theorem Fg(a:AdvV)(ha:ShA a)(ho:AdvOk a)(k:Nat)(hk:k<=6)(lim:Int)(hl:0<=lim)(hl2:lim<=1048576):pU 108 [d6 a,.int .i64 k,.int .i64 lim] (.int .i64 (kI a k lim)):=by
 refine pO Og ?_;simp only[Lp,aw];have h0:=ho.s1;have h8:=ha.len;have hm:=yz a;have hd:=dG a;have hY:=@uu a ha;have hrp:=GC 1 a.states.length h0 (by omega);have hcl:=tw (a:=a) (lim:=lim);have hcb:=sP (a:=a) (lim:=lim) hl;have hupc:=λj=>Ev (a:=a) (lim:=lim) (k:=j);have hok:=ho.mv;have e0:fF a lim 0=List.replicate a.states.length (1:Int):=by unfold fF;exact List.map_const' ..
 unfold d6 kI at *;rw[PC.2.2.2.1] at hm hd |-;refine wnY @PE ?_;refine n8 (ys:=[aH [1],.int .i64 a.states.length]) ev0 ev0 hrp ?_ ?_
 ·exact af (mN ac rfl (by decide) rfl (fun y hy=>by simp at hy; subst hy; rfl) (fun i x c hx hc=>by
    match i with
    |0=>simp at hx hc;subst hx hc;exact .int _ _)) (af (.int _ _) aj)
 rw[<-e0];refine wnY @PE ?_
 refine rQ (X:=Nat) (λj=>[(1,.int .i64 k),(3,.ptr 0 2 0),(5,.ptr 1 1 0),(7,.ptr 3 1 0),(16,.int .i64 k),(17,.int .i64 j)]) (λj H n=>j<=k/\H 0=some [.int .i64 a.n,bh a.states]/\H 1=some [.int .i64 lim]/\H 3=some [aH (fF a lim j)]/\3<n) (λj=>k-j) 0
  ⟨bM,_,Fz.none,⟨bz _,by simp (disch:=omega) only[ab,ac],by simp (disch:=omega) only[ab,ac],by rw[ac];rfl,by omega⟩,eN (by simp (disch:=omega) only[agr,ZG,reduceEqDiff,↓reduceIte,SL])⟩ ?_
 rintro j H nx ⟨j1,g0,g1,g3,hnx⟩;by_cases hj:j<k
 rotate_left
 ·obtain rfl:j=k:=by omega
  have ix:cA 1 (aH (fF a lim j)) (.int .i64 0)=some (.iptr [.int .i64 ((fF a lim j).getD 0 0)] 0):=mg (Int.le_refl _) (by rw[hcl];omega);refine wnY (aI @g3 @ix) ?_;exact aA rfl
 have hcj:=hcb j;have hlj:=hcl j;have hup:=hupc j;have hcn:=hcl (j+1);generalize hC1e:fF a lim (j+1)=C1 at *;generalize fF a lim j=C at *;refine wnY @g3 ?_;rw[hlj];refine l8 rfl ev0 ev0 (by omega) (by omega) (by omega) (by omega) ?_;rw[bQ,fh,Nat.mul_one];refine wnY (aI @PE @g0) ?_;generalize hX:ar (ar (ar H nx _) _ _) _ _=H1;have e0':H1 0=some [.int .i64 a.n,bh a.states]:=by rw[<-hX];simp (disch:=omega) only[ab];exact g0
 have e1:H1 1=some [.int .i64 lim]:=by rw[<-hX];simp (disch:=omega) only[ab];exact g1
 have e3:H1 3=some [aH C]:=by rw[<-hX];simp (disch:=omega) only[ab];exact g3
 have er:H1 nx=some ((oU lim C a.states.length []).map (AV.int .i64)):=by rw[<-hX];simp (disch:=omega) only[ab,ac];rfl
 have et:H1 (nx+1)=some [.msl nx a.states.length 1 0 a.states.length]:=by rw[<-hX];simp (disch:=omega) only[ac];rfl
 clear hX g0 g1 g3;refine gV (nx+2) (nx+3) (by omega) rfl ev0 (λc0 cj hy=>?_);refine Abs.Fn.mono (hY (y:=nx+2) (nx:=nx+3) (λD H n=>H 0=some [.int .i64 a.n,bh a.states]/\H 1=some [.int .i64 lim]/\H 3=some [aH C]/\H nx=some ((oU lim C a.states.length D).map (AV.int .i64))/\H (nx+1)=some [.msl nx a.states.length 1 0 a.states.length]/\H (nx+2)=some [c0]/\nx+3<=n) ?_ ?_ ?_) ?_
 ·rintro D H H' n n' ⟨q0,q1,q3,qr,qt,qy,q4⟩ hn hh;exact⟨(hh 0 (by omega)).trans q0,(hh 1 (by omega)).trans q1,(hh 3 (by omega)).trans q3,(hh nx (by omega)).trans qr,(hh (nx+1) (by omega)).trans qt,(hh (nx+2) (by omega)).trans qy,by omega⟩
 ·rintro D s m H n ⟨q0,q1,q3,qr,qt,qy,q4⟩ hs hm'-;have ok:=hok _ (lR hs) m hm';have t0:=ok.to0;have t1:=ok.to1;have hul:=F3 lim C a.states.length D;have hub:=Cf hl hcj a.states.length D (List.replicate a.states.length 0) λx hx=>by rw[(List.mem_replicate.1 hx).2];omega
  have hus:=DU lim C a.states.length D s m;change ∀x∈oU lim C a.states.length D,_ at hub;generalize oU lim C a.states.length (D++[(s,m)])=U' at *;generalize oU lim C a.states.length D=U at *;have hbu:=hub _ (iM (l:=U) (i:=s) (by omega));have hbc:=hcj _ (iM (l:=C) (i:=m.to.toNat) (by omega));have ixc:cA 1 (aH C) (.int .i64 m.to)=some (.iptr [.int .i64 (C.getD m.to.toNat 0)] 0):=mg t0 (by omega)
  have hgu:(U.map (AV.int .i64))[s]?=some (.int .i64 (U.getD s 0)):=by
   rw[jQ];simp[List.getD,show s<U.length by omega]
  have hlp:∀x:Int,bE (U.map (AV.int .i64)) s [.int .i64 x]=(U.set s x).map (AV.int .i64):=λx=>by
   rw[fK (by rw[bD];omega),ja]
  have hml:(U.map (AV.int .i64)).length=a.states.length:=by rw[bD,hul]
  generalize C.getD m.to.toNat 0=x at *;generalize U.getD s 0=u at *;have hsN:s<a.states.length:=hs;generalize hL:U.map (AV.int .i64)=L at *;refine hy _ _ _ _ qy rfl ?_;clear hy;rw[PC.2.2.1];refine wnY and_self ?_;refine⟨by simp (disch:=omega) only[ab];exact qy,?_⟩;generalize hX:cl (ar _ _ _) (nx+2)=H3;have w:∀y,y<n->y≠nx+2->H3 y=H y:=λy h1 h2=>by rw[<-hX];simp (disch:=omega) only[ca,ab]
  have w0:=(w 0 (by omega) (by omega)).trans q0;have w1:=(w 1 (by omega) (by omega)).trans q1;have w3:=(w 3 (by omega) (by omega)).trans q3;have wr:=(w nx (by omega) (by omega)).trans qr;have wt:=(w (nx+1) (by omega) (by omega)).trans qt;have wm:H3 n=some [.int .i64 m.r.n,.int .i64 m.r.h0,.int .i64 m.r.h1,.int .i64 m.r.h2,.int .i64 m.r.h3,.int .i64 m.r.h4,.int .i64 m.r.f,.int .i64 m.to]:=by rw[<-hX];simp (disch:=omega) only[ca,ac];rfl
  clear w hX q0 q1 q3 qr qt qy;refine wnY (zI9 @w0 @w1 @w3 @wr @wt @wm @hml @hgu @ixc) ?_;refine⟨rfl,?_,?_,?_,?_,?_,ac,by omega⟩
  ·simp (disch:=omega) only[ab];exact w0
  ·simp (disch:=omega) only[ab];exact w1
  ·simp (disch:=omega) only[ab];exact w3
  ·simp (disch:=omega) only[ab,ac];rw[hlp,hus]
  ·simp (disch:=omega) only[ab];exact wt
 ·exact⟨by rw[ab (by omega)];exact e0',by rw[ab (by omega)];exact e1,by rw[ab (by omega)];exact e3,by rw[ab (by omega)];exact er,by rw[ab (by omega)];exact et,ac,by omega⟩
 rintro r H' n' ⟨q0,q1,q3,qr,qt,qy,q4⟩;refine .inl ⟨qy,?_⟩;have hdl:∀y,y≠nx+2->cl H' (nx+2) y=H' y:=λy hy=>ca hy;have f0:=(hdl 0 (by omega)).trans q0;have f1:=(hdl 1 (by omega)).trans q1;have f3:=(hdl 3 (by omega)).trans q3;have fr:=(hdl nx (by omega)).trans qr;have ft:=(hdl (nx+1) (by omega)).trans qt;generalize cl H' (nx+2)=H2 at *;rw[hup] at fr;refine wnY (aI @f3 @ft) ?_;refine⟨j+1,by omega,_,_,CD (b:=nx) (c:=3) (cs':=[aH C1]) (by rw[ab (by omega)];exact fr) ac (by omega) ⟨rfl,λi x x' h1 h2=>?_⟩,⟨by omega,?_,?_,by rw[ac,hC1e],by omega⟩,eN ag0⟩
 ·match i with
  |0=>
   change some (AV.msl nx a.states.length 1 0 a.states.length)=some x at h1;change some (aH C1)=some x' at h2;cases h1;cases h2;exact .inr (Row.snapI (Row.box1 eO (by rw[bD,hcn])))
  |i+1=>simp at h2
 ·simp (disch:=omega) only[ab,ca];exact f0
 ·simp (disch:=omega) only[ab,ca];exact f1
theorem wB(a:AdvV)(ha:ShA a)(ho:AdvOk a)(k:Nat)(hk:k<=6)(lim:Int)(hl:0<=lim)(hl2:lim<=1048576)(hn:kI a k lim<=lim):pU 75 [d6 a,.int .i64 k,.int .i64 lim] (.tup [.int .i64 (kI a k lim),.int .i64 0]):=by
 refine pO Oy ?_;simp only[b75,aw];have h1:=B3 a ha ho;have h2:=Fg a ha ho k hk lim hl hl2;have hd:=dG a;unfold d6 at h1 h2 hd |-;rw[PC.2.2.2.1] at h1 h2 hd |-;generalize kI a k lim=M at *;refine wnZ @PE ?_;exact cQ (af (.int _ _) (af (.int _ _) aj))
theorem Hn(a:AdvV)(ha:ShA a)(ho:AdvOk a)(k:Nat)(hk:k<=6)(hn:kI a k 1048576<=1048576):pU 74 [d6 a,.int .i64 k] (.tup [.int .i64 (kI a k 1048576),.int .i64 0]):=by
 refine pO Ow ?_;simp only[b74,aw];have h2:=wB a ha ho k hk 1048576 (by omega) (by omega) hn;have hd:=dG a;unfold d6 at h2 hd |-;rw[PC.2.2.2.1] at h2 hd |-;generalize kI a k 1048576=M at *;refine wnZ @PE ?_;exact cQ (af (.int _ _) (af (.int _ _) aj))
end
end Go.Proofs.YtmpcledaoigkaaaGreat
namespace Go.Proofs.YtmpcledaoigkaaaGreat
open Go Go.Abs
open Nat (reduceEqDiff reduceAdd reduceLeDiff)
theorem DG{L:List Spx}{h:Nat}{x:Spx}(hh:h<L.length):(L.set h x).take (h+1)=L.take h++[x]:=by
 rw[cu (by simpa using hh),List.take_set_of_le (aZ h)];simp[List.getD,hh]
theorem tu{B n len k:Nat}(h:k<len)(hn:n≠0):kC 1 (.msl B n 1 0 len) (some (.int .i64 k)) none none=some (.msl B n 1 k (len-k)):=by
 simp only[kC,bP,Int.natCast_nonneg,if_true,bQ];rw[if_pos ⟨trivial,by omega,aZ _,hn⟩,if_pos (.inr h),cp,Nat.mul_one]
theorem Bo{B n len k:Nat}(h:k<=len)(hn:n≠0):kC 1 (.msl B n 1 0 len) none (some (.int .i64 k)) none=some (.msl B n 1 0 k):=by
 simp only[kC,bP,Int.natCast_nonneg,if_true,bQ];rw[if_pos ⟨trivial,by omega,h,hn⟩,if_pos (.inl trivial),ou,Nat.sub_zero]
theorem vW{H:Hp}{sz:Nat}{s:AV}{elems:List AV}(h:Row H sz s (elems.flatMap AV.cells))(hc:∀y∈elems,y.cells.length=sz)(hz:0<sz)(hd:∀y∈elems,∀c∈y.cells,SnapF H c c):SnapF H s (.sl sz elems):=by
 obtain⟨f1,f2⟩:=fw elems hc;generalize he:elems.flatMap AV.cells=cs at h;cases h with
 |nil=>
  have:elems.length*sz=0:=by rw[<-f1,he];rfl
  have:elems=[]:=eI.1 (by
   rcases Nat.mul_eq_zero.1 this with h|h
   ·exact h
   ·omega)
  subst this;exact .eslsl sz
 |box b len cs hb hl=>
  have hlen:elems.length=len:=Nat.eq_of_mul_eq_mul_right hz (by rw[<-f1,he,hl]);refine .msl b (len*sz) sz 0 len cs elems hb hl (by omega) hlen hc (λi j y a c hy hc' ha=>?_);have hj:j<sz:=by rw[<-hc y (iC hy)];exact(bU.1 hc').1
  have key:∀(l:List AV)(i j:Nat)(y c:AV),(∀z∈l,z.cells.length=sz)->l[i]?=some y->y.cells[j]?=some c->j<sz->(l.flatMap AV.cells)[i*sz+j]?=some c:=by
   intro l
   induction l with
   |nil=>intro i j y c _ h;simp at h
   |cons x l ih=>
    intro i j y c hl hy hc hj;rw[lJ];cases i with
    |zero=>
     simp at hy;subst hy;rw[ou,cp,gy (by rw[hl x (by simp)];exact hj)];exact hc
    |succ i=>
     rw[ie (by rw[hl x (by simp),ez];omega),hl x (by simp)];have:=ih i j y c (λz hz=>hl z (by simp[hz])) (by simpa using hy) hc hj;rw[<-this];congr 1;rw[ez];omega
  have:=key elems i j y c hc hy hc' hj;rw[he,<-cp (i*sz)] at this;rw[this] at ha;cases ha;exact hd y (iC hy) a (iC hc')
theorem BX{H:Hp}{s:AV}{l:Spx}(h:Row H 2 s (cX l)):SnapF H s (aG l):=by
 refine vW (elems:=l.map dL) (by rw[BK];exact h) (λy hy=>?_) (by omega) (λy hy c hx=>?_)
 ·obtain⟨n,_,rfl⟩:=dK.1 hy;rfl
 ·obtain⟨n,_,rfl⟩:=dK.1 hy;simp only[dL,AV.cells,gg,List.not_mem_nil,or_false] at hx;rcases hx with rfl|rfl<;>exact .int _ _
section
attribute [local irreducible] aE ai be aP aJ aK ay aL aR bn Go.Abs.Fn aO Go.Abs.Pure ak aD Yl
theorem zn(l:List Spx)(hl:Shn l)(hls:∀s∈l,Shn s)(h0:l≠[])(H:Hp)(B nx:Nat)(hH:H B=some (l.map aG))(hB:B<nx):
    Abs.Fn Tryz.prog 122 [.msl B l.length 1 0 l.length,.func 123 []] H nx λr H' nx'=>r=.msl B l.length 1 0 (d9 l l.length)/\(∃C,H'=ar H B C/\C.length=l.length/\C.take (d9 l l.length)=(gX l l.length).map aG)/\nx'=nx:=by
 refine fO IT ?_;simp only[JB,aw];have hl':l.length<=17592186044416:=hl;have hpos:=vO.2 h0;have hid:H=ar H B (l.map aG):=l6 hH
 repeat' (first|refine zW ?_|apply a_n|apply a_r|refine zO ?_|refine vZ ?_|(refine zGZ ?_ ?_<;>(intro _hg;try (exfalso;omega)))|refine bk rfl ?_|refine r1Z ?_|fail)
 ·have e1:l.length=1:=by omega
  have e2:gX l l.length=l:=by
   match l,e1 with
   |[a],_=>rfl
  refine⟨?_,⟨_,hid,by simp,?_⟩,rfl⟩
  ·rw[show d9 l l.length=l.length by rw[e1];rfl]
  ·rw[e2,show d9 l l.length=l.length by rw[e1];rfl,ji (by simp)]
 refine bj (X:=Nat) (λk=>[(0,.msl B l.length 1 0 l.length),(1,.func 123 []),(5,.int .i64 k)]) (λk H' nx'=>H'=H/\nx'=nx/\1<=k/\k<=l.length/\d9 l k=k/\gX l k=l.take k) (λk=>l.length-k) 1 ⟨rfl,rfl,aZ _,hpos,rfl,by match l,h0 with|a::r,_=>rfl⟩ ag0 ?_;rintro k H' nx' ⟨rfl,rfl,k1,k2,k3,k4⟩;by_cases hk:k<l.length
 ·have tk:(k:Int)-1=(k-1:Nat):=by omega
  have heq:=zL (l.getD k default) (l.getD (k-1) default) (hls _ (cP hk)) (hls _ (cP (by omega)));by_cases he:l.getD k default=l.getD (k-1) default
  ·have hs:=tu (B:=B) (n:=l.length) hk (Nat.ne_of_gt hpos);rw[bG he] at heq;refine wkZ (zI6 @tk @hH @bQ @hs @bO @bH) ?_
   refine bj (X:=Nat×List Spx) (λx=>[(0,.msl B l.length 1 0 l.length),(1,.func 123 []),(5,.int .i64 (d9 l (k+x.1):Nat)),(6,.msl B l.length 1 k (l.length-k)),(7,.int .i64 x.1)]) (λx H2 nx2=>x.2.length=l.length/\1<=x.1/\k+x.1<=l.length/\d9 l (k+x.1)+1<=k+x.1/\H2=ar H' B (x.2.map aG)/\nx2=nx'/\(∀p,k+x.1<=p+1->x.2.getD p default=l.getD p default)/\x.2.take (d9 l (k+x.1))=gX l (k+x.1)) (λx=>l.length-x.1) (1,l)
    ⟨rfl,aZ _,hk,by dsimp only;rw[lN (by omega) he];omega,hid,rfl,λ_ _=>rfl,by dsimp only;rw[lN (by omega) he,uH (by omega) he,k3,k4]⟩ (by simp (disch:=omega) only[agr,ZG,reduceEqDiff,↓reduceIte,lN (show k≠0 by omega) he,k3]) ?_
   rintro⟨j,L⟩ H2 nx2 ⟨a1,a2,a3,a4,rfl,rfl,a5,a6⟩;dsimp only at a1 a2 a3 a4 a5 a6 |-;by_cases hj:k+j<l.length
   ·have tj:(j:Int)-1=(j-1:Nat):=by omega
    have r1:=a5 (k+j) (by omega);have r2:=a5 (k+(j-1)) (by omega);have heq2:=zL (l.getD (k+j) default) (l.getD (k+(j-1)) default) (hls _ (cP hj)) (hls _ (cP (by omega)));by_cases hd:l.getD (k+j) default=l.getD (k+(j-1)) default
    ·have hq:d9 l (k+(j+1))=d9 l (k+j):=lN (l:=l) (k:=k+j) (by omega) (by rw[hd,show k+j-1=k+(j-1) by omega]);rw[bG hd] at heq2;refine wkZ (zI6 @tj @bQ @r1 @r2 @bO @bH) ?_;refine⟨(j+1,L),by dsimp only;omega,⟨a1,by dsimp only;omega,by dsimp only;omega,?_,rfl,rfl,λp hp=>a5 p (by dsimp only at hp;omega),by dsimp only;rw[hq,show k+(j+1)=k+j+1 from rfl,uH (by omega) (by rw[hd,show k+j-1=k+(j-1) by omega])];exact a6⟩,(have zz:=@hq;agZ)⟩;dsimp only;rw[hq];omega
    ·have hq:d9 l (k+(j+1))=d9 l (k+j)+1:=ud (l:=l) (k:=k+j) (by rw[show k+j-1=k+(j-1) by omega];exact hd);have hlm:=kO (f:=aG) (l:=L) (k:=d9 l (k+j)) (x:=l.getD (k+j) default) (by omega);rw[bK hd] at heq2;refine wkZ (zI6 @tj @bQ @r1 @r2 @bO @bH) ?_;refine⟨(j+1,L.set (d9 l (k+j)) (l.getD (k+j) default)),by dsimp only;omega,⟨by simp[a1],by dsimp only;omega,by dsimp only;omega,?_,?_,rfl,λp hp=>?_,by dsimp only;rw[hq,DG (by omega),a6,show k+(j+1)=k+j+1 from rfl,vu (by rw[show k+j-1=k+(j-1) by omega];exact hd)]⟩,(have zz:=@hq;agZ)⟩
     ·dsimp only;rw[hq];omega
     ·dsimp only;rw[bf,hlm]
     ·dsimp only at hp |-;rw[ml,List.getElem?_set_ne (by omega),<-ml];exact a5 p (by omega)
   ·have hn:k+j=l.length:=by omega
    have hl1:=tu (B:=B) (n:=l.length) (show d9 l (k+j)<l.length by omega) (Nat.ne_of_gt hpos);have hl2:=Bo (B:=B) (n:=l.length) (show d9 l (k+j)<=l.length by omega) (Nat.ne_of_gt hpos);refine wnZ (aI @hl1 @hl2) ?_;refine MG (H':=ar (ar H' B (L.map aG)) B (bE (L.map aG) (d9 l (k+j)) (bt .esl (l.length-d9 l (k+j))))) ?_ ?_
    ·((try simp only[bN,ZA,reduceEqDiff,↓reduceIte,reduceAdd,reduceLeDiff]);(try with_reducible rfl))
     simp only[vt];rw[if_neg (by omega),ac];dsimp only;rw[if_pos ⟨by simp[a1],trivial,rfl,rfl,by omega⟩];rfl
    ·refine wnZ @hl2 ?_;refine⟨by rw[hn],⟨_,bf _ _ _ _,?_,?_⟩,rfl⟩
     ·have hz:(bt AV.esl (l.length-d9 l (k+j))).length=l.length-d9 l (k+j):=by simp[bt,show AV.esl.cells.length=1 from rfl]
      simp[bE,hz];omega
     ·rw[<-hn,<-a6,List.map_take];simp only[bE];rw[gM,qU (by simp;omega),ji (by simp;omega)]
  ·rw[bK he] at heq;refine wkZ (zI5 @tk @hH @bQ @bO @bH) ?_;exact⟨k+1,by omega,⟨rfl,rfl,by omega,by omega,by rw[ud he,k3],by rw[vu he,k4,cu hk]⟩,ag0⟩
 ·refine wnZ and_self ?_;have e:l.length=k:=by omega
  refine⟨by rw[e,k3],⟨_,hid,by simp,?_⟩,rfl⟩;rw[e,k3,k4,<-List.map_take]
theorem D5(l:Spx)(hl:l.length<=1000000):PureF Tryz.prog 124 [aG l] (aG l):=by
 refine qO IE ?_;simp only[J1,aw];refine wnY and_self ?_;have hn:fv (aG l)=some l.length:=by unfold aG gq;simp[fv]
 refine mC (k:=l.length) (by((try simp only[bN,ZA,reduceEqDiff,↓reduceIte,reduceAdd,reduceLeDiff]);(try with_reducible rfl));exact hn) (λh=>?_) (λh=>?_) (λh=>?_)
 ·refine wnY and_self ?_;refine iq rfl ev0 ev0 Fb (sN _) (by omega) (by omega) ?_;refine wnY and_self ?_;exact BX (Row.box _ l.length (cX l) ac (lV l))
 ·refine wnY and_self ?_;obtain rfl:=eI.1 h;exact .eslsl 2
 ·refine wnY and_self ?_;refine iq rfl ev0 ev0 Fb (sN _) (by omega) (by omega) ?_;refine wnY and_self ?_;exact BX (Row.box _ l.length (cX l) ac (lV l))
theorem Dj(s:AV)(l:List Spx)(hl:l.length<=1000000)(H:Hp)(nx:Nat)(hn:fv s=some l.length)(hs:∀H',(∀x,x<nx->H' x=H x)->eU 1 H' s=some (l.length,l.map aG)):Abs.Fn Tryz.prog 121 [s] H nx λr H' nx'=>nx'<=nx+1/\nx<=nx'/\(∀x,x<nx->H' x=H x)/\if l=[] then dl r=some (.int .i64 0)/\∀H'',Snap H'' r (bo []) else r=.msl nx l.length 1 0 l.length/\H'=ar H nx (l.map aG)/\nx'=nx+1:=by
 refine fO N3 ?_;simp only[My,aw]
 have hones:AV.ones (l.map aG)=true:=by
  unfold AV.ones;rw[ee];intro x hx;obtain⟨y,_,rfl⟩:=dK.1 hx;rfl
 refine wnY and_self ?_;refine mC (k:=l.length) (by((try simp only[bN,ZA,reduceEqDiff,↓reduceIte,reduceAdd,reduceLeDiff]);(try with_reducible rfl));exact hn) (λh=>?_) (λh=>?_) (λh=>?_)
 ·refine wnY and_self ?_;refine iq rfl ev0 ev0 (hs _ λx _=>rfl) hones (by omega) (by omega) ?_;refine wnY and_self ?_;refine⟨aZ _,by omega,λx hx=>ab (by omega),?_⟩;rw[if_neg (by rintro rfl;exact absurd h (by simp))];exact⟨rfl,rfl,rfl⟩
 ·refine wnY and_self ?_;refine⟨by omega,aZ _,λx hx=>rfl,?_⟩;rw[if_pos (eI.1 h)];exact⟨rfl,λ_=>.eslsl 1⟩
 ·refine wnY and_self ?_;refine iq rfl ev0 ev0 (hs _ λx _=>rfl) hones (by omega) (by omega) ?_;refine wnY and_self ?_;refine⟨aZ _,by omega,λx hx=>ab (by omega),?_⟩;obtain rfl:=eI.1 h;rw[if_pos rfl];exact⟨rfl,λ_=>.mslnil _ _ _ _ _⟩
section
variable{g:Nat}{caps:List AV}{s:AV}
theorem KD(hs:dl s=some (.int .i64 0)){H:Hp}{nx:Nat}:Abs.Fn Tryz.prog 136 [s,.int .i64 0,.int .i64 0,.func g caps] H nx λr H' nx'=>nx'=nx/\H'=H:=by
 refine fO IV ?_;simp only[Kj,aw];refine wnZ and_self ?_;refine bj (X:=Unit) (λx=>[(0,s),(1,.int .i64 0),(2,.int .i64 0),(3,.func g caps),(8,.int .i64 1)]) (λx H' nx'=>H'=H/\nx'=nx) (λx=>0) () ⟨rfl,rfl⟩ (by simp (disch:=omega) only[agr,ZG,reduceEqDiff,↓reduceIte,Int.zero_add,true_and]) ?_;rintro _ _ _ ⟨rfl,rfl⟩;refine wnZ and_self ?_;exact⟨rfl,rfl⟩
theorem J5(hs:dl s=some (.int .i64 0)){H:Hp}{nx:Nat}:Abs.Fn Tryz.prog 110 [s,.int .i64 0,.int .i64 0,.int .i64 0,.func g caps] H nx λr H' nx'=>nx'=nx/\H'=H:=by
 refine fO IL ?_;simp only[Jn,aw];refine wnZ and_self ?_;refine bj (X:=Unit) (λx=>[(0,s),(1,.int .i64 0),(2,.int .i64 0),(3,.int .i64 0),(4,.func g caps)]) (λx H' nx'=>H'=H/\nx'=nx) (λx=>0) () ⟨rfl,rfl⟩ ag0 ?_;rintro _ _ _ ⟨rfl,rfl⟩;refine wnZ and_self ?_;refine a7 ev0 ev0 (KD hs) ?_;rintro _ _ _ ⟨rfl,rfl⟩;refine wnZ and_self ?_;exact⟨rfl,rfl⟩
theorem uM(hs:dl s=some (.int .i64 0)){H:Hp}{nx:Nat}:Abs.Fn Tryz.prog 87 [s,.func g caps] H nx λr H' nx'=>nx'=nx/\H'=H:=by
 refine fO ME ?_;simp only[b87,aw];have w8:IntKind.wrap .u64 0=0:=by decide
 refine wnZ (aI @w8 @hs) ?_;refine a7 ev0 (have zz:=@w8;evZ) K3 ?_;rintro _ _ _ ⟨rfl,rfl,rfl⟩;refine wnZ and_self ?_;refine a7 ev0 ev0 (J5 hs) ?_;rintro _ _ _ ⟨rfl,rfl⟩;refine wnZ and_self ?_;exact⟨rfl,rfl⟩
theorem Bh(hs:dl s=some (.int .i64 0)){H:Hp}{nx:Nat}:Abs.Fn Tryz.prog 122 [s,.func g caps] H nx λr H' nx'=>r=s/\nx'=nx/\H'=H:=by
 refine fO IT ?_;simp only[JB,aw];refine wnZ @hs ?_;exact⟨rfl,rfl,rfl⟩
end
end
end Go.Proofs.YtmpcledaoigkaaaGreat
namespace Go.Proofs.YtmpcledaoigkaaaGreat
open Go Go.Abs Tk
open Nat (reduceEqDiff reduceAdd reduceLeDiff)
theorem kQ{b:Nat}{c:List AV}{H:Hp}(h:H b=some c):Sub (only b c) H:=λx cs hx=>by
 unfold only at hx;split at hx
 ·rename_i e;rw[e,h];exact hx
 ·cases hx
theorem xl(b1 b2:Nat)(c1 c2:List AV)(hne:b2≠b1):∃S:Hp,S b1=some c1/\S b2=some c2/\∀H:Hp,H b1=some c1->H b2=some c2->Sub S H:=by
 refine⟨λx=>if x=b1 then some c1 else if x=b2 then some c2 else none,?_,?_,λH h1 h2 x cs hx=>?_⟩
 ·dsimp only;rw[if_pos rfl]
 ·dsimp only;rw[if_neg hne,if_pos rfl]
 ·dsimp only at hx;split at hx
  ·rename_i e;rw[e,h1];exact hx
  ·split at hx
   ·rename_i e;rw[e,h2];exact hx
   ·cases hx
theorem sY{α:Type}{f:α->AV}{sz:Nat}(l:List α):fv (gq sz f l)=some l.length:=Bm
theorem ww{cs new:List AV}{k:Nat}{pre:List AV}(h1:cs.take k=pre)(h2:k+new.length<=cs.length):(bE cs k new).length=cs.length/\(bE cs k new).take (k+new.length)=pre++new:=by
 subst h1;unfold bE;have hl:(cs.take k).length=k:=by rw[jt];omega
 refine⟨by rw[cq,cq,sH,hl];omega,?_⟩;rw[qU (by rw[cq,hl];omega),ji (by rw[cq,hl];omega)]
theorem A2(a:AdvV)(d s:Nat)(w:List RndV):(bq a (d+1) s).map (w++ ·)=(a.st s).flatMap λm=>(bq a d m.to.toNat).map ((w++[m.r])++ ·):=by
 rw[bq,List.map_flatMap]
 congr 1
 funext m
 rw[List.map_map];refine vP λv _=>?_;simp
theorem Iy{H:Hp}(l:List RndV):eU 7 H (bS l)=some (l.length,cL fi l):=ug
theorem GW{H:Hp}{s:AV}{l:List RndV}(h:Row H 7 s (cL fi l)):SnapF H s (bS l):=by
 refine vW (elems:=l.map fi) (by rw[BF];exact h) (λy hy=>?_) (by omega) (λy hy c hx=>?_)
 ·obtain⟨n,_,rfl⟩:=dK.1 hy;rfl
 ·obtain⟨n,_,rfl⟩:=dK.1 hy;rw[PE.2.2.2.2.2.2.2.2.2.2.2.2.2.2.2.2.2.2.2.2.2.1,PC.1] at hx;simp only[gg,List.not_mem_nil,or_false] at hx;rcases hx with rfl|rfl|rfl|rfl|rfl|rfl|rfl<;>exact .int _ _
theorem pA{α:Type}[Inhabited α]{f:α->AV}{l:List α}{i:Nat}(h:i<l.length):cL f l=cL f (l.take i)++((f (l.getD i default)).cells++cL f (l.drop (i+1))):=by
 have e:l=l.take i++(l.getD i default::l.drop (i+1)):=by
  rw[<-du h,xC]
 conv=>lhs;rw[e]
 rw[iX];rfl
theorem Kz{α:Type}[Inhabited α]{f:α->AV}{sz:Nat}(hc:∀x,(f x).cells.length=sz){l:List α}{i:Nat}(h:i<l.length):((cL f l).drop (i*sz)).take sz=(f (l.getD i default)).cells:=by
 have hl:(cL f (l.take i)).length=i*sz:=by rw[pe hc,jt,Nat.min_eq_left (by omega)]
 rw[pA h,List.drop_append,hl,Nat.sub_self,List.drop_zero,nC (by omega),List.nil_append,qU (by rw[hc];exact aZ _),ji (by rw[hc];exact aZ _)]
theorem KN{α:Type}[Inhabited α]{f:α->AV}{sz:Nat}(hc:∀x,(f x).cells.length=sz){l:List α}{i:Nat}(h:i<l.length):bE (cL f l) (i*sz) (f (l.getD i default)).cells=cL f l:=by
 have hl:(cL f (l.take i)).length=i*sz:=by rw[pe hc,jt,Nat.min_eq_left (by omega)]
 unfold bE
 have h1:(cL f l).take (i*sz)=cL f (l.take i):=by
  rw[pA h,qU (by omega),ji (by omega)]
 have h2:(cL f l).drop (i*sz+(f (l.getD i default)).cells.length)=cL f (l.drop (i+1)):=by
  rw[pA h,<-gM,List.drop_append,nC (by rw[cq,hl];omega),List.nil_append,cq,hl,Nat.sub_self,List.drop_zero]
 rw[h1,h2,gM,<-pA h]
theorem pn(c:CaseV):(ke c).cells.length=3:=rfl
theorem GX(c:CaseV):∀x∈(ke c).cells,Dat x:=DatL.cons (eV _) (DatL.cons (dZ _) (DatL.cons (dZ _) DatL.nil))
theorem KA(l:List CaseV):(cL ke l).length=l.length*3:=pe pn l
theorem GP(l:List CaseV):AV.ones (cL ke l)=true:=sM (f:=ke) (λ_=>rfl) l
theorem Ls{H:Hp}(l:List CaseV):eU 3 H (cC l)=some (l.length,cL ke l):=ug
theorem GZ{H:Hp}(l:List (List MvV)):eU 1 H (bh l)=some (l.length,l.map di):=v7 (λ_=>rfl)
theorem Fe{H:Hp}(l:List MvV):eU 8 H (di l)=some (l.length,cL iA l):=ug
theorem KK(l:List MvV):(cL iA l).length=l.length*8:=pe (f:=iA) (λ_=>rfl) l
theorem Ca(l:List MvV):AV.ones (cL iA l)=true:=sM (f:=iA) (λ_=>rfl) l
theorem KC{H:Hp}{s:AV}{l:List MvV}(h:Row H 8 s (cL iA l)):Snap H s (di l):=qD (f:=iA) (by omega) (λ_=>rfl) (λx=>x8 x) h
theorem Kb{H:Hp}{s:AV}{l:List CaseV}(h:Row H 3 s (cL ke l)):Snap H s (cC l):=qD (f:=ke) (by omega) pn GX h
theorem Hd{H:Hp}{s:AV}{l:List (List MvV)}(h:Row H 1 s (l.map di)):Snap H s (bh l):=h.snapL' (λ_=>rfl) (λx _=>jO x)
def vD(n:Nat):List AV:=(List.range n).map λ(k:Nat)=>.int .i64 (k:Int)
structure Bd(H:Hp)(bb mb:Nat)(n:Int)(vs:List VwV)(VS:AV):Prop where
 b:H bb=some [.int .i64 n,VS,.mp mb]
 r:Row H 8 VS (cL dx vs)
 m:H mb=some [.omap (vs.map dx) (vD vs.length)]
theorem Jv(v w:VwV):nf (.st [.int,.int,.int,.int,.int,.int,.int,.int]) (dx v) (dx w)=some (decide (v=w)):=by
 have h:=rb [v.proc,v.round,v.input,v.h0,v.h1,v.h2,v.h3,v.h4] [w.proc,w.round,w.input,w.h0,w.h1,w.h2,w.h3,w.h4] rfl;show cT _ v.cs w.cs=_;rw[PC.2.2.2.2.2.1];refine h.trans ?_
 congr 1
 exact decide_eq_decide.2 EF
theorem Kq(v:VwV)(ks:List VwV):eF (.st [.int,.int,.int,.int,.int,.int,.int,.int]) (dx v) (ks.map dx)=some (if v∈ks then some (ks.idxOf v) else none):=k9 _ dx Jv v ks
theorem FU{n k:Nat}(h:k<n):(vD n).getD k .undef=.int .i64 (k:Int):=by
 unfold vD;simp[List.getD,h]
theorem DJ(n:Nat):vD (n+1)=vD n++[.int .i64 (n:Int)]:=by
 unfold vD;rw[List.range_succ,dq];rfl
theorem Af{f:Int}{p:Nat}(h0:0<=f)(hp:p<=60):decide (pK (j8 f p)=1)=hasFl f p:=by
 obtain⟨m,rfl⟩:∃m:Nat,f=m:=⟨f.toNat,by omega⟩
 rw[qg hp,nJ];unfold hasFl;rw[show(m:Int)/((2^p:Nat):Int)=((m/2^p:Nat):Int) from rfl];generalize m/2^p=x;exact decide_eq_decide.2 (by omega)
def kL(n:Nat)(W:List (List RndV)):List (Nat×List RndV):=(List.range n).flatMap λc=>W.map λw=>(c,w)
theorem m8(n:Nat)(W:List (List RndV)):kL (n+1) W=kL n W++W.map λw=>(n,w):=by
 unfold kL;rw[List.range_succ,List.flatMap_append,lJ,List.flatMap_nil,gI]
theorem Cu(W:List (List RndV))(s:Nat):∀d,∃R,kL s W++R=kL (s+d) W
 |0=>⟨[],gI _⟩
 |d+1=>by
  obtain⟨R,h⟩:=Cu W s d;exact⟨R++W.map λw=>(s+d,w),by rw[<-gM,h,<-m8];rfl⟩
def hm(G:Nat->Int)(q:Nat):List Int:=(List.range 5).map λi=>if i<q then G i else-1
theorem Gw(G:Nat->Int)(q:Nat):(hm G q).length=5:=by simp[hm]
theorem KO{G:Nat->Int}{k:Nat}(h:k<5):(hm G k).set k (G k)=hm G (k+1):=by
 rcases(by omega:k=0\/k=1\/k=2\/k=3\/k=4) with rfl|rfl|rfl|rfl|rfl<;>rfl
theorem GQ{G:Nat->Int}{k:Nat}(h:G k=-1):hm G (k+1)=hm G k:=by
 unfold hm;refine vP λi _=>?_;by_cases e:i<k
 ·rw[if_pos e,if_pos (by omega)]
 ·rw[if_neg e];split
  ·rw[show i=k by omega,h]
  ·rfl
theorem J4{G:Nat->Int}{n:Nat}(h:∀i,n<=i->G i=-1):hm G n=hk G 5:=by
 unfold hm hk;refine vP λi hi=>?_;rw[if_pos (gG.1 hi)];split
 ·rfl
 ·rw[h i (by omega)]
theorem Ai(f:Nat->VwV)(vs:List VwV)(q N:Nat)(h:q<N)(x:Int):bE ((eL f q vs++List.replicate (N-q) (0:Int)).map (AV.int .i64)) q [.int .i64 x]=(eL f q vs++[x]++List.replicate (N-(q+1)) (0:Int)).map (AV.int .i64):=by
 have hl:=iu f q vs;rw[fK (by rw[bD,cq,hl,List.length_replicate];omega),ja,List.set_append_right _ _ (by omega),hl,Nat.sub_self,show N-q=(N-(q+1))+1 by omega,List.replicate_succ,gM];rfl
theorem FO(r:RndV){q:Nat}(h:q<5):([.int .i64 r.n,.int .i64 r.h0,.int .i64 r.h1,.int .i64 r.h2,.int .i64 r.h3,.int .i64 r.h4,.int .i64 r.f]:List AV)[1+q]?=some (.int .i64 (r.hs.getD q 0)):=by
 rcases(by omega:q=0\/q=1\/q=2\/q=3\/q=4) with rfl|rfl|rfl|rfl|rfl<;>rfl
def Fr(H0 H:Hp)(nx bb mb:Nat)(VS0:AV):Prop:=∀y,y<nx->y≠bb->y≠mb->bd VS0≠some y->H y=H0 y
def VB(nx n' bb mb:Nat)(VS0 VS:AV):Prop:=∀b,bd VS=some b->b<n'/\b≠bb/\b≠mb/\(bd VS0=some b\/nx<=b)
def stD(p:PrbV)(D:List (Nat×List RndV)):BldS:=D.foldl (λs x=>sw p x.1 s x.2) ⟨[],[]⟩
theorem AB(p:PrbV)(D:List (Nat×List RndV))(c:Nat)(w:List RndV):stD p (D++[(c,w)])=sw p c (stD p D) w:=by unfold stD;rw[List.foldl_append];rfl
theorem yh(p:PrbV):∀n,stD p (kL n (eT p))=bldS p n
 |0=>rfl
 |n+1=>by
  rw[m8,qV,<-yh p n];unfold stD B5 eT;rw[List.foldl_append,List.foldl_map]
theorem yA{p:PrbV}(hn:p.task.n<=5)(hr:p.rounds<=6):∀D:List (Nat×List RndV),(stD p D).execs.length=D.length/\(stD p D).views.length<=35*D.length:=λD=>by
 suffices h:∀(D:List (Nat×List RndV))(s:BldS),(D.foldl (λs x=>sw p x.1 s x.2) s).execs.length=s.execs.length+D.length/\(D.foldl (λs x=>sw p x.1 s x.2) s).views.length<=s.views.length+35*D.length by
  have:=h D ⟨[],[]⟩;unfold stD;simpa using this
 intro D
 induction D with
 |nil=>intro s;exact⟨rfl,aZ _⟩
 |cons x D ih=>
  intro s;rw[List.foldl_cons,dJ];have h1:=ih (sw p x.1 s x.2);have h2:=Cj hn hr x.1 s x.2;omega
theorem Cs(n:Nat)(W:List (List RndV)):(kL n W).length=n*W.length:=by
 induction n with
 |zero=>rw[ou];rfl
 |succ n ih=>rw[m8,cq,ih,bD,ez,Nat.one_mul]
theorem Hv{t:TaskV}(h:BJ t=true):∀c∈t.cases,c.out.length<=1000000/\c.calm.length<=1000000:=λc hc=>by
 have hf:=ee.1 (Bool.and_eq_true_iff.1 (show(decide (t.cases.length<=30)&&t.cases.all vG)=true from h)).2 c hc;unfold vG pk at hf;simp only[ed,gr] at hf;omega
theorem OW(v:VwV):gP .neq [.int,.int,.int,.int,.int,.int,.int,.int] [.int .i64 v.proc,.int .i64 v.round,.int .i64 v.input,.int .i64 v.h0,.int .i64 v.h1,.int .i64 v.h2,.int .i64 v.h3,.int .i64 v.h4] [.int .i64 v.proc,.int .i64 v.round,.int .i64 v.input,.int .i64 v.h0,.int .i64 v.h1,.int .i64 v.h2,.int .i64 v.h3,.int .i64 v.h4]=some (.bool false):=by
 rw[EQ.2.2.2.2.2,bG rfl];rfl
theorem O7(r:RndV):gP .neq [.int,.int,.int,.int,.int,.int,.int] [.int .i64 r.n,.int .i64 r.h0,.int .i64 r.h1,.int .i64 r.h2,.int .i64 r.h3,.int .i64 r.h4,.int .i64 r.f] [.int .i64 r.n,.int .i64 r.h0,.int .i64 r.h1,.int .i64 r.h2,.int .i64 r.h3,.int .i64 r.h4,.int .i64 r.f]=some (.bool false):=by
 rw[EQ.2.2.2.1,bG rfl];rfl
def ShE(x:ExV):Prop:=x.word.length<=1000000/\x.views.length<=1000000/\∀v∈x.views,v.length<=1000000
theorem Cx{α:Type}{P:List α->Prop}(nil:P [])(snoc:∀l x,P l->P (l++[x]))(l:List α):P l:=by
 suffices h:∀n,∀l:List α,l.length=n->P l from h _ l rfl
 intro n
 induction n with
 |zero=>intro l hl;rw[eI.1 hl];exact nil
 |succ n ih=>
  intro l hl;have hne:l≠[]:=λe=>by subst e;cases hl
  rw[<-List.dropLast_concat_getLast hne];exact snoc _ _ (ih _ (by rw[List.length_dropLast];omega))
structure XOk(n R:Nat)(x:ExV):Prop where
 wl:x.word.length=R
 wf:∀r∈x.word,0<=r.f/\r.f<32
 vl:x.views.length=R+1
 vr:∀l∈x.views,l.length=n/\∀z∈l,0<=z/\z<=5000
theorem Co(f:Nat->VwV):∀(q:Nat)(vs:List VwV),∀z∈eL f q vs,0<=z/\z<=(vs.length+q:Nat)
 |0,_,z,h=>(by cases h)
 |q+1,vs,z,h=>by
  rw[eL] at h;rcases iG.1 h with h|h
  ·have:=Co f q vs z h;omega
  ·rw[eM] at h;have h1:=List.idxOf_le_length (a:=f q) (l:=fu f (q+1) vs);have h2:=lg f (q+1) vs;omega
theorem Gz(n:Nat)(inp:List Int)(w:List RndV)(vs:List VwV):∀k,∀l∈(plV n inp w vs k).2,∀z∈l,0<=z/\z<=(vs.length+k*n:Nat)
 |0,l,h=>(by cases h)
 |k+1,l,h=>by
  rw[plV] at h;have e:(k+1)*n=k*n+n:=by rw[ez,Nat.one_mul]
  rw[e];rcases iG.1 h with h|h
  ·intro z hz;have:=Gz n inp w vs k l h z hz;omega
  ·rw[eM] at h;subst h;intro z hz;have h1:=Co _ n (plV n inp w vs k).1 z hz;have h2:=(lO n inp w vs k).2.2;omega
theorem Hh{p:PrbV}(hn:p.task.n<=5)(hr:p.rounds<=6):∀{D:List (Nat×List RndV)}{x:ExV},D.length<=100->x∈(stD p D).execs->∃c w,(c,w)∈D/\x.case=(c:Nat)/\x.word=w/\x.views.length=p.rounds.toNat+1/\∀l∈x.views,l.length=p.task.n.toNat/\∀z∈l,0<=z/\z<=5000:=by
 intro D
 induction D using Cx with
 |nil=>intro x _ h;cases h
 |snoc D d ih=>
  intro x hl h;obtain⟨c,w⟩:=d;rw[cq,List.length_singleton] at hl;rw[AB,xQ] at h;rcases iG.1 h with h|h
  ·obtain⟨c',w',h1,h2⟩:=ih (by omega) h;exact⟨c',w',pS _ h1,h2⟩
  ·rw[eM] at h;subst h;have hv:=(yA hn hr D).2;obtain⟨p1,p2,-⟩:=lO p.task.n.toNat (p.task.cases.getD c default).inp w (stD p D).views (p.rounds.toNat+1);refine⟨c,w,sd _ (eM.2 rfl),rfl,rfl,p1,λl hl'=>⟨p2 l hl',λz hz=>?_⟩⟩;have:=Gz _ _ _ _ _ l hl' z hz;have h3:(p.rounds.toNat+1)*p.task.n.toNat<=7*5:=Nat.mul_le_mul (by omega) (by omega);omega
theorem G2{n:Nat}{W:List (List RndV)}{c:Nat}{w:List RndV}(h:(c,w)∈kL n W):c<n/\w∈W:=by
 induction n with
 |zero=>cases h
 |succ n ih=>
  rw[m8] at h;rcases iG.1 h with h|h
  ·have:=ih h;exact⟨by omega,this.2⟩
  ·obtain⟨w',h1,h2⟩:=dK.1 h;cases h2;exact⟨by omega,h1⟩
theorem jv(p:PrbV)(h:OkP p):1<=(bw p).execs.length/\(bw p).execs.length<=60/\(bw p).views.length<=2100/\∀x∈(bw p).execs,XOk p.task.n.toNat p.rounds.toNat x:=by
 obtain⟨hck,ho,hn,r0,r6⟩:=eJ h.e0;obtain⟨n1,n5,c1,c2⟩:=dg hck;obtain⟨f1,f2,f3,f4⟩:=nP h.e0 h.num;have e:bldS p p.task.cases.length=stD p (kL p.task.cases.length (eT p)):=(yh p _).symm;have hl:=Cs p.task.cases.length (eT p);obtain⟨s1,s2⟩:=yA (p:=p) n5 r6 (kL p.task.cases.length (eT p));have hpos:1*1<=p.task.cases.length*(eT p).length:=Nat.mul_le_mul f3 f4;refine⟨?_,?_,?_,λx hx=>?_⟩
 ·show 1<=(bldS p p.task.cases.length).execs.length;rw[e];omega
 ·show(bldS p p.task.cases.length).execs.length<=60;rw[e];omega
 ·show(bldS p p.task.cases.length).views.length<=2100;rw[e];omega
 ·have hx':x∈(bldS p p.task.cases.length).execs:=hx;rw[e] at hx';obtain⟨c,w,g1,g2,g3,g4,g5⟩:=Hh n5 r6 (by omega) hx';have hw:=(G2 g1).2;refine⟨by rw[g3];exact nr hw,λr hr=>?_,g4,g5⟩;rw[g3] at hr;obtain⟨l,hl,m,hm,rfl⟩:=pY hw r hr;have ok:=ho.mv l hl m hm;obtain⟨q1,q2,q3⟩:=jX ok.r;have:=x5 (n:=m.r.n) (by rw[ok.n];exact ho.n5);omega
theorem Jg(p:PrbV)(h:OkP p):(bldS p p.task.cases.length).views.length<=1000000/\(bldS p p.task.cases.length).execs.length<=1000000/\∀x∈(bldS p p.task.cases.length).execs,ShE x:=by
 obtain⟨h1,h2,h3,h4⟩:=jv p h;obtain⟨hck,ho,hn,r0,r6⟩:=eJ h.e0;obtain⟨n1,n5,c1,c2⟩:=dg hck;exact⟨gf h3 (by omega),gf h2 (by omega),λx hx=>⟨by have:=(h4 x hx).wl;omega,by have:=(h4 x hx).vl;omega,λv hv=>by have:=((h4 x hx).vr v hv).1;omega⟩⟩
def dY(x:ExV):List Int:=x.views.getD (x.views.length-1) []
def iE(x:ExV):Int:=if x.word.length=0 then 0 else(x.word.getD (x.word.length-1) default).f
def og(x:ExV)(q:Nat):List Int:=(List.range (dY x).length).map λi=>if i<q/\hasFl (iE x) i=true then-1 else(dY x).getD i 0
def gH(x:ExV):List Int:=og x (dY x).length
theorem ng(x:ExV)(q:Nat):(og x q).length=(dY x).length:=by simp[og]
theorem JD(x:ExV):og x 0=dY x:=by
 refine List.ext_getElem (ng x 0) λi h1 h2=>?_;simp[og,List.getD,h2]
theorem FM{x:ExV}{q i:Nat}(h:i<(dY x).length):(og x q).getD i 0=if i<q/\hasFl (iE x) i=true then-1 else(dY x).getD i 0:=by
 simp[og,List.getD,h]
theorem C5{x:ExV}{q:Nat}(hq:q<(dY x).length):og x (q+1)=if hasFl (iE x) q=true then(og x q).set q (-1) else og x q:=by
 have hc:∀i,i≠q->((i<q+1/\hasFl (iE x) i=true)↔(i<q/\hasFl (iE x) i=true)):=λi hi=>⟨λh=>⟨by omega,h.2⟩,λh=>⟨by omega,h.2⟩⟩
 cases hf:hasFl (iE x) q with
 |true=>
  rw[if_pos rfl];refine List.ext_getElem (by simp[ng]) λi h1 h2=>?_;by_cases e:i=q
  ·subst e;simp[og,hf]
  ·rw[List.getElem_set_ne (by omega)];simp[og,hc i e]
 |false=>
  rw[if_neg (by decide)];refine List.ext_getElem (by simp[ng]) λi h1 h2=>?_;by_cases e:i=q
  ·subst e;simp[og,hf]
  ·simp[og,hc i e]
theorem XOk.last{n R:Nat}{x:ExV}(h:XOk n R x):(dY x).length=n/\∀z∈dY x,0<=z/\z<=5000:=h.vr _ (au (by have:=h.vl;omega))
theorem XOk.flt{n R:Nat}{x:ExV}(h:XOk n R x):0<=iE x/\iE x<32:=by
 unfold iE;split
 ·omega
 ·exact h.wf _ (au (by omega))
theorem IG(l:List (List Int))(h:l.length≠0):cA 1 (bi l) (.int .i64 ((l.length:Int)-1))=some (.iptr [aH (l.getD (l.length-1) [])] 0):=by
 rw[show((l.length:Int)-1)=((l.length-1:Nat):Int) by omega,pd,if_pos ⟨by omega,by omega⟩,bQ];rfl
def sE(x:ExV)(q:Nat):Spx:=(List.range q).filterMap λi=>if hasFl (iE x) i=true then none else some ⟨(i:Nat),(dY x).getD i 0⟩
def fG(x:ExV):Spx:=sE x (dY x).length
theorem nX(x:ExV)(q:Nat):sE x (q+1)=if hasFl (iE x) q=true then sE x q else sE x q++[⟨(q:Nat),(dY x).getD q 0⟩]:=by
 unfold sE;rw[List.range_succ,List.filterMap_append];cases h:hasFl (iE x) q with
 |true=>simp[h]
 |false=>simp[h]
theorem qs(x:ExV):∀q,(sE x q).length<=q
 |0=>aZ _
 |q+1=>by
  have:=qs x q;rw[nX];split
  ·omega
  ·rw[cq];simp;omega
theorem uL{x:ExV}{v:Vtx}:v∈fG x↔ ∃i,i<(dY x).length/\hasFl (iE x) i=false/\v=⟨(i:Nat),(dY x).getD i 0⟩:=by
 unfold fG sE;rw[List.mem_filterMap];constructor
 ·rintro⟨i,h1,h2⟩;rw[gG] at h1;cases h:hasFl (iE x) i with
  |true=>rw[h] at h2;cases h2
  |false=>rw[h] at h2;cases h2;exact⟨i,h1,h,rfl⟩
 ·rintro⟨i,h1,h2,rfl⟩;exact⟨i,gG.2 h1,by rw[h2];rfl⟩
theorem EE{f:Int}{p:Nat}(h0:0<=f)(hp:p<=60):decide (pK (j8 f p)=0)=!hasFl f p:=by
 obtain⟨m,rfl⟩:∃m:Nat,f=m:=⟨f.toNat,by omega⟩
 rw[qg hp,nJ];unfold hasFl;rw[show(m:Int)/((2^p:Nat):Int)=((m/2^p:Nat):Int) from rfl];generalize m/2^p=x;rw[<-decide_not];exact decide_eq_decide.2 (by omega)
def jU(p:PrbV):List Spx:=(bw p).execs.map fG
section
attribute [local irreducible] aE ai be aP aJ aK ay aL aR bn Go.Abs.Fn aO Go.Abs.Pure ak aD Yl
theorem uP(l:List RndV)(hl:l.length<=100000):PureF Tryz.prog 47 [bS l] (bS l):=by
 refine qO PN ?_;simp only[b47,aw];refine wnY and_self ?_;have hfin:∀H b,H b=some (cL fi l)->SnapF H (.msl b (l.length*7) 7 0 l.length) (bS l):=λH b hb=>GW (Row.box b l.length _ hb (xF l));refine mC (k:=l.length) (by((try simp only[bN,ZA,reduceEqDiff,↓reduceIte,reduceAdd,reduceLeDiff]);(try with_reducible rfl));exact sY l) (λh=>?_) (λh=>?_) (λh=>?_)
 ·refine wnY and_self ?_;refine iq rfl ev0 ev0 (Iy l) (xo l) (by omega) (by omega) ?_;refine wnY and_self ?_;exact hfin _ _ ac
 ·refine wnY and_self ?_;obtain rfl:=eI.1 h;exact .eslsl 7
 ·refine wnY and_self ?_;refine iq rfl ev0 ev0 (Iy l) (xo l) (by omega) (by omega) ?_;refine wnY and_self ?_;exact hfin _ _ ac
theorem EZ(a:AdvV)(ha:ShA a)(ho:AdvOk a)(R n:Nat)(hn:n<=5000)(hR:R<=6):∀(d s len:Nat)(w:List RndV)(D:List (List RndV))(cs C:List AV)(H:Hp)(nx:Nat),len+d=R->w.length=len->s<a.states.length->D.length+(bq a d s).length<=n->
    H 0=some [.int .i64 a.n,bh a.states]->H 1=some [.int .i64 R]->H 2=some cs->cs.length=n->cs.take D.length=D.map bS->H 3=some [.msl 2 n 1 0 D.length]->H 4=some [.func 76 [.ptr 1 1 0,.ptr 3 1 0,.ptr 0 2 0,.ptr 4 1 0]]->H 5=some C->C.length=R*7->C.take (len*7)=cL fi w->6<=nx->
    Abs.Fn Tryz.prog 76 [.int .i64 s,.msl 5 (R*7) 7 0 len,.ptr 1 1 0,.ptr 3 1 0,.ptr 0 2 0,.ptr 4 1 0] H nx λr H' nx'=>r=.tup []/\nx<=nx'/\H' 0=H 0/\H' 1=H 1/\H' 4=H 4/\H' 3=some [.msl 2 n 1 0 (D.length+(bq a d s).length)]/\
     (∃cs',H' 2=some cs'/\cs'.length=n/\cs'.take (D.length+(bq a d s).length)=(D++(bq a d s).map (w++ ·)).map bS)/\∃C',H' 5=some C'/\C'.length=R*7/\C'.take (len*7)=cL fi w:=by
 intro d
 induction d with
 |zero=>
  intro s len w D cs C H nx hd hw hs hDn h0 h1 h2 hcl hct h3 h4 h5 hCl hCt hnx;refine fO MC ?_;simp only[b76,aw];obtain rfl:len=R:=by omega
  have hCw:C=cL fi w:=by rw[<-hCt,ji (by omega)]
  have hlw:(bq a 0 s)=[[]]:=rfl;rw[hlw] at hDn |-;have hDn:D.length+1<=n:=hDn;have hcl1:=uP w (by omega);have z:decide ((len:Int)=(len:Int))=true:=bG rfl;refine wnY (zI5 @h0 @h1 @h3 @h4 @z) ?_;refine ir (only 3 [.msl 2 n 1 0 D.length]) rfl (kQ h3) ?_;have s3:only 3 [.msl 2 n 1 0 D.length] 3=some [.msl 2 n 1 0 D.length]:=eO;refine wnY @s3 ?_;refine eh ?_;refine n8 (ys:=[bS w]) ev0 ev0 hcl1 (af (EY (by have:=Row.box (H:=H) (sz:=7) 5 len C h5 (by omega);rwa [hCw] at this)) aj) ?_;refine jg ⟨kQ h3,?_⟩;refine eh ?_;refine wnY @PE ?_;refine⟨kQ (by rw[ab (by omega)];exact h3),?_⟩;refine ga ?_;refine Bk (b:=2) (m:=n) (off:=0) (len:=D.length) (n:=1) (new:=[bS w]) rfl ev0 (by rw[ab (by omega)];exact h2) ev0 (co rfl) rfl hcl (λ_=>by omega) (by omega) (by omega) ?_;have hlp:=ww (cs:=cs) (new:=[bS w]) (k:=0+D.length*1) (pre:=D.map bS) (by rw[cp,Nat.mul_one];exact hct) (by simp;omega);have hlp1:(bE cs (0+D.length*1) [bS w]).length=n:=hlp.1.trans hcl
  have hlp2:(bE cs (0+D.length*1) [bS w]).take (D.length+1)=(D++[w]).map bS:=by
   have:=hlp.2;rw[List.length_singleton,cp,Nat.mul_one] at this;rw[cp,Nat.mul_one,this,dq];rfl
  generalize bE cs (0+D.length*1) [bS w]=cs' at *;have k3:ar (ar H nx [bS w]) 2 cs' 3=some [.msl 2 n 1 0 D.length]:=by simp (disch:=omega) only[ab];exact h3
  have zz:=@h3;repeat' (first|apply a_n|apply a_r|refine zO ?_|apply ga|refine stY ?_|refine bk rfl ?_|fail)
  refine⟨rfl,by omega,by simp (disch:=omega) only[ab],by simp (disch:=omega) only[ab],by simp (disch:=omega) only[ab],ac,⟨cs',by simp (disch:=omega) only[ab,ac],hlp1,?_⟩,C,by simp (disch:=omega) only[ab];exact h5,hCl,hCt⟩;rw[gu,List.map_nil,gI];exact hlp2
 |succ d ih=>
  intro s len w D cs C H nx hd hw hs hDn h0 h1 h2 hcl hct h3 h4 h5 hCl hCt hnx;refine fO MC ?_;simp only[b76,aw];have z:decide ((len:Int)=(R:Int))=false:=bK (by omega);have ix:=zu hs;have hWs:=A2 a d s w;have hWl:(bq a (d+1) s).length=((bq a (d+1) s).map (w++ ·)).length:=by rw[bD]
  rw[hWl,hWs] at hDn |-;have hok:=ho.mv _ (lR hs);rw[oM] at ix;have hll:=ha.each _ (lR hs);clear hWl hWs;generalize a.st s=l at *;refine wnY (zI7 @PE @h0 @h1 @h3 @h4 @z @ix) ?_
  refine bj (X:=Nat × List (List RndV)) (fun x=>[(1,.msl 5 (R * 7) 7 0 len),(5,.ptr 4 1 0),(23,di l),(24,.int .i64 l.length),(25,.int .i64 x.1)]) (fun x H' n'=>x.1 ≤ l.length∧nx ≤ n'∧H' 0=H 0∧H' 1=H 1∧H' 4=H 4∧H' 3=some [.msl 2 n 1 0 x.2.length] ∧
   (∃cs',H' 2=some cs'/\cs'.length=n/\cs'.take x.2.length=x.2.map bS)/\(∃C',H' 5=some C'/\C'.length=R*7/\C'.take (len*7)=cL fi w)/\
   x.2++((l.drop x.1).flatMap λm=>(bq a d m.to.toNat).map ((w++[m.r])++ ·))=D++l.flatMap λm=>(bq a d m.to.toNat).map ((w++[m.r])++ ·)) (λx=>l.length-x.1) (0,D) ⟨bz _,aZ _,rfl,rfl,rfl,h3,⟨cs,h2,hcl,hct⟩,⟨C,h5,hCl,hCt⟩,by rw[List.drop_zero]⟩ ag0 ?_
  generalize hTot:D++l.flatMap (λm=>(bq a d m.to.toNat).map ((w++[m.r])++ ·))=Tot at *;have hTl:Tot.length<=n:=by rw[<-hTot,cq];exact hDn
  have hTl2:D.length+(l.flatMap λm=>(bq a d m.to.toNat).map ((w++[m.r])++ ·)).length=Tot.length:=by rw[<-hTot,cq]
  rw[hTl2];clear hcl hct h2 h3 h5 hCl hCt hDn hTl2 hTot;rintro⟨i,D1⟩ H1 n1 ⟨i1,i2,e0,e1,e4,e3,⟨cs1,e2,c1,c2⟩,⟨C1,e5,d1,d2⟩,htot⟩;dsimp only at i1 e3 c2 htot |-;by_cases hi:i<l.length
  rotate_left
  ·rw[nC (by omega),List.flatMap_nil,gI] at htot;subst htot;refine wnY @PE ?_;exact⟨rfl,i2,e0,e1,e4,e3,⟨cs1,e2,c1,c2⟩,C1,e5,d1,d2⟩
  have ixm:=ixM hi;obtain⟨m1,m2,m3,m4⟩:=hok _ (au hi);rw[List.drop_eq_getElem_cons hi,show l[i]=l.getD i default by simp[List.getD,hi],lJ,<-gM] at htot;rw[PC.2.2.1] at ixm;generalize l.getD i default=m at *;refine wnY (aI @PE @ixm) ?_;have f4:=e4.trans h4;obtain⟨S,s4,sm,hsub⟩:=xl 4 n1 [.func 76 [.ptr 1 1 0,.ptr 3 1 0,.ptr 0 2 0,.ptr 4 1 0]] [.int .i64 m.r.n,.int .i64 m.r.h0,.int .i64 m.r.h1,.int .i64 m.r.h2,.int .i64 m.r.h3,.int .i64 m.r.h4,.int .i64 m.r.f,.int .i64 m.to] (by omega);generalize hX:ar (ar H1 n1 _) n1 _=H2;have w2:∀y,y<n1->H2 y=H1 y:=λy hy=>by rw[<-hX];simp (disch:=omega) only[ab]
  have wm:H2 n1=some [.int .i64 m.r.n,.int .i64 m.r.h0,.int .i64 m.r.h1,.int .i64 m.r.h2,.int .i64 m.r.h3,.int .i64 m.r.h4,.int .i64 m.r.f,.int .i64 m.to]:=by rw[<-hX,ac];rfl
  clear hX;have w4:=(w2 4 (by omega)).trans f4;refine ir S rfl (hsub _ w4 wm) ?_;refine wnY (zI3 @PE @s4 @sm) ?_;refine eh ?_;refine wnY @PE ?_;refine⟨hsub _ (by rw[ab (by omega)];exact w4) (by rw[ab (by omega)];exact wm),?_⟩;refine eh ?_;refine Bk (b:=5) (m:=R*7) (off:=0) (len:=len) (n:=1) (new:=[.int .i64 m.r.n,.int .i64 m.r.h0,.int .i64 m.r.h1,.int .i64 m.r.h2,.int .i64 m.r.h3,.int .i64 m.r.h4,.int .i64 m.r.f]) rfl ev0 (by rw[ab (by omega),w2 5 (by omega)];exact e5) ev0 (co rfl) rfl d1 (λ_=>by omega) (by omega) (by omega) ?_;refine jg ⟨hsub _ (by rw[ab (by omega),ab (by omega)];exact w4) (by rw[ab (by omega),ab (by omega)];exact wm),?_⟩;refine ga ?_;have hlp:=ww (cs:=C1) (new:=[AV.int .i64 m.r.n,.int .i64 m.r.h0,.int .i64 m.r.h1,.int .i64 m.r.h2,.int .i64 m.r.h3,.int .i64 m.r.h4,.int .i64 m.r.f]) (k:=0+len*7) (pre:=cL fi w) (by rw[cp];exact d2) (by rw[d1,cp];show len*7+7<=R*7;omega);have hlp1:(bE C1 (0+len*7) [AV.int .i64 m.r.n,.int .i64 m.r.h0,.int .i64 m.r.h1,.int .i64 m.r.h2,.int .i64 m.r.h3,.int .i64 m.r.h4,.int .i64 m.r.f]).length=R*7:=hlp.1.trans d1
  have hlp2:(bE C1 (0+len*7) [AV.int .i64 m.r.n,.int .i64 m.r.h0,.int .i64 m.r.h1,.int .i64 m.r.h2,.int .i64 m.r.h3,.int .i64 m.r.h4,.int .i64 m.r.f]).take ((len+1)*7)=cL fi (w++[m.r]):=by
   have:=hlp.2;rw[show 0+len*7+[AV.int .i64 m.r.n,.int .i64 m.r.h0,.int .i64 m.r.h1,.int .i64 m.r.h2,.int .i64 m.r.h3,.int .i64 m.r.h4,.int .i64 m.r.f].length=(len+1)*7 by show 0+len*7+7=_;omega] at this;rw[this,iX,tV];rfl
  generalize bE C1 (0+len*7) [AV.int .i64 m.r.n,.int .i64 m.r.h0,.int .i64 m.r.h1,.int .i64 m.r.h2,.int .i64 m.r.h3,.int .i64 m.r.h4,.int .i64 m.r.f]=C2 at *
  have hDl:D1.length+(bq a d m.to.toNat).length<=n:=by
   have:=congrArg List.length htot;rw[cq,cq,bD] at this;omega
  have hih:=ih m.to.toNat (len+1) (w++[m.r]) D1 cs1 C2 (ar (ar H2 n1.succ [.int .i64 m.r.n,.int .i64 m.r.h0,.int .i64 m.r.h1,.int .i64 m.r.h2,.int .i64 m.r.h3,.int .i64 m.r.h4,.int .i64 m.r.f]) 5 C2) (n1+1+1) (by omega) (by rw[cq,hw];rfl) (by omega) hDl
   (by simp (disch:=omega) only[ab];rw[w2 0 (by omega),e0];exact h0) (by simp (disch:=omega) only[ab];rw[w2 1 (by omega),e1];exact h1) (by simp (disch:=omega) only[ab];rw[w2 2 (by omega)];exact e2) c1 c2 (by simp (disch:=omega) only[ab];rw[w2 3 (by omega)];exact e3) (by simp (disch:=omega) only[ab];exact w4) ac hlp1 hlp2 (by omega)
  rw[show((m.to.toNat:Nat):Int)=m.to by omega] at hih;refine a7 ev0 ev0 hih ?_;rintro r H4 n4 ⟨rfl,p1,p2,p3,p4,p5,⟨cs4,p6,p7,p8⟩,C4,p9,p10,p11⟩;refine wnY and_self ?_;refine⟨(i+1,D1++(bq a d m.to.toNat).map ((w++[m.r])++ ·)),by dsimp only;omega,⟨by dsimp only;omega,by omega,?_,?_,?_,?_,⟨cs4,p6,p7,?_⟩,⟨C4,p9,p10,?_⟩,htot⟩,ag0⟩
  ·rw[p2];simp (disch:=omega) only[ab];rw[w2 0 (by omega),e0]
  ·rw[p3];simp (disch:=omega) only[ab];rw[w2 1 (by omega),e1]
  ·rw[p4];simp (disch:=omega) only[ab];rw[w2 4 (by omega),e4]
  ·rw[p5];dsimp only;rw[cq,bD]
  ·dsimp only;rw[cq,bD];exact p8
  ·have:=congrArg (List.take (len*7)) p11;rw[List.take_take,Nat.min_eq_left (by omega),iX,qU (by rw[xF];omega),ji (l:=cL fi w) (by rw[xF];omega)] at this;exact this
theorem Hy(a:AdvV)(ha:ShA a)(ho:AdvOk a)(R:Nat)(hR:R<=6)(hn:kI a R 4096<=4096):pU 44 [d6 a,.int .i64 R] (.tup [dP (bq a R 0),.int .i64 0]):=by
 refine pO OG ?_;simp only[b44,aw];have hct:=wB a ha ho R hR 4096 (by omega) (by omega) hn;have hd:=dG a;have hto:BO a:=λl hl m hm=>⟨(ho.mv l hl m hm).to0,(ho.mv l hl m hm).to1⟩
 have h1:=ho.s1;have hnum:=sS hto (by omega) (lim:=4096) (by omega) R;have hlen:(bq a R 0).length<=4096:=by omega
 have hnb:kI a R 4096=((bq a R 0).length:Nat):=by omega
 have hpos:=rf hto ho.ne R 0 (by omega);have hwp:0<(bq a R 0).length:=vO.2 hpos;rw[hnb] at hct;have hF:=EZ a ha ho R (bq a R 0).length (by omega) hR R 0 0 [] [] (bt (.agg [.esl]) (bq a R 0).length) (bt (AV.agg [.int .i64 0,.int .i64 0,.int .i64 0,.int .i64 0,.int .i64 0,.int .i64 0,.int .i64 0]) R);unfold d6 at hct hd |-;rw[PC.2.2.2.1] at hct hd |-;generalize bq a R 0=W at *;refine wnY @PE ?_;refine l8 rfl ev0 ev0 (Int.le_refl _) (by omega) (by omega) (by omega) ?_;rw[bQ,Int.toNat_zero];refine wnY @PE ?_;obtain⟨S,s4,s1,hsub⟩:=xl 4 1 [.func 76 [.ptr 1 1 0,.ptr 3 1 0,.ptr 0 2 0,.ptr 4 1 0]] [.int .i64 R] (by omega);generalize hX:ar (ar _ _ [AV.nilf]) _ _=H2;have k4:H2 4=some [.func 76 [.ptr 1 1 0,.ptr 3 1 0,.ptr 0 2 0,.ptr 4 1 0]]:=by rw[<-hX];simp (disch:=omega) only[ac];rfl
 have k0:H2 0=some [.int .i64 a.n,bh a.states]:=by rw[<-hX];simp (disch:=omega) only[ab,ac]
 have k1:H2 1=some [.int .i64 R]:=by rw[<-hX];simp (disch:=omega) only[ab,ac]
 have k2:H2 2=some (bt (.agg [.esl]) W.length):=by rw[<-hX];simp (disch:=omega) only[ab,ac]
 have k3:H2 3=some [.msl 2 W.length 1 0 0]:=by
  rw[<-hX];simp (disch:=omega) only[ab,ac,Nat.mul_one];rfl
 clear hX;refine ir S rfl (hsub _ k4 k1) ?_;refine wnY (zI3 @PE @s4 @s1) ?_;refine eh ?_;refine l8 (k1:=.i64) (k2:=.i64) (n:=0) (m:=R) rfl ev0 ev0 (Int.le_refl _) (by omega) (by omega) (by omega) ?_;rw[bQ,Int.toNat_zero];refine jg ⟨hsub _ (by rw[ab (by omega)];exact k4) (by rw[ab (by omega)];exact k1),?_⟩;refine ga ?_;have z1:(bt (.agg [.esl]) W.length).length=W.length:=by simp[bt,AV.cells]
 have z2:(bt (AV.agg [.int .i64 0,.int .i64 0,.int .i64 0,.int .i64 0,.int .i64 0,.int .i64 0,.int .i64 0]) R).length=R*7:=by simp[bt,AV.cells]
 have hFF:=hF (ar H2 5 (bt (AV.agg [.int .i64 0,.int .i64 0,.int .i64 0,.int .i64 0,.int .i64 0,.int .i64 0,.int .i64 0]) R)) 6 (by omega) rfl (by omega) (by simp) (by rw[ab (by omega)];exact k0) (by rw[ab (by omega)];exact k1) (by rw[ab (by omega)];exact k2) z1 (by simp) (by rw[ab (by omega)];exact k3) (by rw[ab (by omega)];exact k4) ac z2 (by simp[cL]) (aZ _);rw[show((0:Nat):Int)=(0:Int) from rfl] at hFF;refine a7 ev0 ev0 hFF ?_;rintro r H3 n3 ⟨rfl,p1,p2,p3,p4,p5,⟨cs4,p6,p7,p8⟩,-⟩;rw[hZ,cp] at p5 p8;refine wnY @p5 ?_;rw[ji (by omega),List.nil_append,show(λx:List RndV=>([]:List RndV)++x)=id from rfl,List.map_id] at p8;subst p8;exact cQ (af (Cd (Row.box1 p6 (by rw[bD]))) (af (.int _ _) aj))
theorem Ie(p:PrbV)(h:OkP p):pU 73 [cI p] (.int .i64 0):=by
 refine pO O3 ?_;simp only[b73,aw];obtain⟨hck,ho,hn,r0,r6⟩:=eJ h.e0;have h1:=Tk.check_c p.task h.sh.c h.sh.t;rw[hck] at h1;have h2:=B3 p.adv h.sa ho;have d1:=mP p.task;have d2:=dG p.adv;unfold cI;unfold pJ at h1 d1;unfold d6 at h2 d2;rw[PC.2.2.2.1] at h2 d2;rw[PC.2.2.2.2.1];refine wnZ @PE ?_;exact aA rfl
theorem Iu(p:PrbV)(h:OkP p):pU 43 [cI p] (.tup [.int .i64 (((eT p).length:Nat)*(p.task.cases.length:Nat):Int),.int .i64 0]):=by
 refine pO OA ?_;simp only[b43,aw];obtain⟨hck,ho,hn,r0,r6⟩:=eJ h.e0;obtain⟨q1,q2,q3,q4⟩:=nP h.e0 h.num;have hto:BO p.adv:=λl hl m hm=>⟨(ho.mv l hl m hm).to0,(ho.mv l hl m hm).to1⟩
 have hs1:=ho.s1;have hnum:=sS hto (by omega) (lim:=1048576) (by omega) p.rounds.toNat;change kI p.adv p.rounds.toNat 1048576=min ((eT p).length:Int) (1048576+1) at hnum;have h1:=Ie p h;have h2:=Hn p.adv h.sa ho p.rounds.toNat (by omega) (by omega);rw[show kI p.adv p.rounds.toNat 1048576=((eT p).length:Nat) by omega,show((p.rounds.toNat:Nat):Int)=p.rounds by omega] at h2;have d1:=eZ p;have d2:=dG p.adv;generalize (eT p).length=L at *;have hm1:(L:Int)*(p.task.cases.length:Nat)=((p.task.cases.length*L:Nat):Int):=by rw[Int.natCast_mul,Int.mul_comm]
 have hw:IntKind.wrap .i64 ((L:Int)*(p.task.cases.length:Nat))=(L:Int)*(p.task.cases.length:Nat):=iU (by omega) (by omega);have hz:decide (1048576<(L:Int)*(p.task.cases.length:Nat))=false:=bK (by omega);unfold cI at h1 d1 |-;unfold d6 at h2 d2;rw[PC.2.2.2.1] at h2 d2;rw[PC.2.2.2.2.1] at h1 d1 |-;refine wnZ (zI3 @PE @hw @hz) ?_;exact cQ (af (.int _ _) (af (.int _ _) aj))
theorem v9(l:List (List Int))(hl:l.length<=1000000)(hs:∀x∈l,Tk.Sh x):pU 79 [bi l] (bi l):=by
 refine pO OE ?_;simp only[b79,aw];refine wnY and_self ?_;refine bj (X:=Nat×AV) (λx=>[(3,x.2),(6,bi l),(7,.int .i64 l.length),(8,.int .i64 x.1)]) (λx H nx=>x.1<=l.length/\Row H 1 x.2 ((l.take x.1).map aH)/\∀b,bd x.2=some b->b<nx) (λx=>l.length-x.1) (0,.esl) ⟨bz _,.nil,λb h=>(by cases h)⟩ ag0 ?_;rintro⟨i,sv⟩ H nx ⟨i1,hrow,hb⟩;dsimp only at i1 hrow hb |-;by_cases hi:i<l.length
 rotate_left
 ·rw[ji (by omega)] at hrow;refine wnY and_self ?_;exact hrow.snapV
 have hcl:=Tk.cloneF_c (l.getD i default) (hs _ (au hi));have htk:(l.take (i+1)).map aH=(l.take i).map aH++[aH (l.getD i default)]:=by rw[cu hi,dq];rfl
 generalize hv:l.getD i default=v at *;refine wnY @hv ?_;refine n8 (ys:=[aH v]) ev0 ev0 hcl (af (Dat.snap (eV _)) aj) ?_;refine wnY and_self ?_;refine d7 (k:=1) (new:=[aH v]) rfl ev0 (hrow.same λb h=>ab (by have:=hb b h;omega)) ev0 (co rfl) rfl rfl g8 (by simp;omega) (by simp;omega) ?_;rintro s' H' nx' r1 r2 r3 r4 r5;refine wnY and_self ?_;refine⟨(i+1,s'),by dsimp only;omega,⟨by dsimp only;omega,by dsimp only;rw[htk];exact r1,λb h=>?_⟩,ag0⟩;rcases r5 b h with h|h
 ·have:=hb b h;omega
 ·omega
theorem Gj(l:List MvV)(hl:l.length<=1000000):pU 81 [di l] (di l):=by
 refine pO Ox ?_;simp only[b81,aw];refine wnY and_self ?_;have hfin:∀H b,H b=some (cL iA l)->Snap H (.msl b (l.length*8) 8 0 l.length) (di l):=λH b hb=>KC (Row.box b l.length _ hb (KK l));refine mC (k:=l.length) (by((try simp only[bN,ZA,reduceEqDiff,↓reduceIte,reduceAdd,reduceLeDiff]);(try with_reducible rfl));exact sY l) (λh=>?_) (λh=>?_) (λh=>?_)
 ·refine wnY and_self ?_;refine iq rfl ev0 ev0 (Fe l) (Ca l) (by omega) (by omega) ?_;refine wnY and_self ?_;exact hfin _ _ ac
 ·refine wnY and_self ?_;obtain rfl:=eI.1 h;exact .eslsl 8
 ·refine wnY and_self ?_;refine iq rfl ev0 ev0 (Fe l) (Ca l) (by omega) (by omega) ?_;refine wnY and_self ?_;exact hfin _ _ ac
theorem Fk(l:List CaseV)(hl:l.length<=1000000)(h0:l≠[])(H:Hp)(nx:Nat):Abs.Fn Tryz.prog 77 [cC l] H nx λr H' nx'=>r=.msl nx (l.length*3) 3 0 l.length/\H'=ar H nx (cL ke l)/\nx'=nx+1:=by
 refine fO Pd ?_;simp only[b77,aw];have hl0:0<l.length:=vO.2 h0;refine wnY and_self ?_;refine mC (k:=l.length) (by((try simp only[bN,ZA,reduceEqDiff,↓reduceIte,reduceAdd,reduceLeDiff]);(try with_reducible rfl));exact sY l) (λh=>?_) (λh=>absurd h (by omega)) (λh=>absurd h (by omega));refine wnY and_self ?_;refine iq rfl ev0 ev0 (Ls l) (GP l) (by omega) (by omega) ?_;refine wnY and_self ?_;exact⟨rfl,rfl,rfl⟩
theorem Ei(l:List (List MvV))(hl:l.length<=1000000)(h0:l≠[])(H:Hp)(nx:Nat):Abs.Fn Tryz.prog 80 [bh l] H nx λr H' nx'=>r=.msl nx l.length 1 0 l.length/\H'=ar H nx (l.map di)/\nx'=nx+1:=by
 refine fO Pb ?_;simp only[b80,aw];have hl0:0<l.length:=vO.2 h0;have hones:AV.ones (l.map di)=true:=Gr (λ_=>rfl);refine wnY and_self ?_;refine mC (k:=l.length) (by((try simp only[bN,ZA,reduceEqDiff,↓reduceIte,reduceAdd,reduceLeDiff]);(try with_reducible rfl));exact sY l) (λh=>?_) (λh=>absurd h (by omega)) (λh=>absurd h (by omega));refine wnY and_self ?_;refine iq rfl ev0 ev0 (GZ l) hones (by omega) (by omega) ?_;refine wnY and_self ?_;exact⟨rfl,rfl,rfl⟩
theorem Ew(p:PrbV)(h:ShP p)(hc0:p.task.cases≠[])(hs0:p.adv.states≠[])(hcl:p.task.cases.length<=1024)(hco:∀c∈p.task.cases,c.out.length<=1000000/\c.calm.length<=1000000)(hsl:p.adv.states.length<=256)(hml:∀l∈p.adv.states,l.length<=4096):pU 45 [cI p] (cI p):=by
 refine pO Ot ?_;simp only[b45,aw];have hC0:=vO.2 hc0;have hS0:=vO.2 hs0;have hclC:=Fk p.task.cases (by omega) hc0;have hclM:=Ei p.adv.states (by omega) hs0;have hsh:=h.c;unfold cI;rw[PC.2.2.2.2.1];generalize p.task.cases=L at *;generalize p.adv.states=M at *;refine wnY @PE ?_;refine a7 ev0 ev0 (hclC _ _) ?_;rintro r H' nx' ⟨rfl,rfl,rfl⟩;refine wnY @PE ?_;refine bj (X:=Nat) (λi=>[(1,.ptr 0 7 0),(2,.ptr 1 7 0),(15,.msl 2 (L.length*3) 3 0 L.length),(16,.int .i64 L.length),(17,.int .i64 i)]) (λi H n=>i<=L.length/\3<=n/\H 0=some [.int .i64 p.task.n,.int .i64 p.task.ins,.int .i64 p.task.outs,.msl 2 (L.length*3) 3 0 L.length,.int .i64 p.adv.n,bh M,.int .i64 p.rounds]/\H 1=some [.int .i64 0,.int .i64 0,.int .i64 0,.esl,.int .i64 0,.esl,.int .i64 0]/\H 2=some (cL ke L)) (λi=>L.length-i) 0 ⟨bz _,by omega,by simp (disch:=omega) only[ab,ac];rfl,by simp (disch:=omega) only[ab,ac],by simp (disch:=omega) only[ab,ac]⟩ (by simp (disch:=omega) only[agr,ZG,reduceEqDiff,↓reduceIte,SL]) ?_;rintro i H n ⟨i1,hn,g0,g1,g2⟩;have hcC:=KA L;by_cases hi:i<L.length
 ·have hget:((cL ke L).drop (i*3)).take 3=[aH (L.getD i default).inp,bi (L.getD i default).out,bi (L.getD i default).calm]:=Kz pn hi;have hput:bE (cL ke L) (i*3) [aH (L.getD i default).inp,bi (L.getD i default).out,bi (L.getD i default).calm]=cL ke L:=KN pn hi
  have hix:cA 3 (.msl 2 (L.length*3) 3 0 L.length) (.int .i64 (i:Int))=some (.ptr 2 (L.length*3) (i*3)):=by
   rw[fT,if_pos ⟨by omega,by omega⟩,bQ,cp]
  obtain⟨s1,s2,s3,s4,s5⟩:=hsh _ (au hi);obtain⟨o1,o2⟩:=hco _ (au hi);have q1:=Tk.cloneF_c _ s1;have q2:=v9 _ o1 s3;have q3:=v9 _ o2 s5
  have hrd:∀H':Hp,H' 2=some (cL ke L)->rd H' 3 (.ptr 2 (L.length*3) (i*3))=some [aH (L.getD i default).inp,bi (L.getD i default).out,bi (L.getD i default).calm]:=λH' h'=>by
   rw[J2 h' hcC (by omega),hget]
  have hr0:=hrd H g2;generalize L.getD i default=c at *;refine wnY (zI4 @PE @g0 @hix @hr0) ?_;obtain⟨S,z0,zm,hsub⟩:=xl 0 n [.int .i64 p.task.n,.int .i64 p.task.ins,.int .i64 p.task.outs,.msl 2 (L.length*3) 3 0 L.length,.int .i64 p.adv.n,bh M,.int .i64 p.rounds] [aH c.inp,bi c.out,bi c.calm] (by omega);generalize hX:ar (ar H n _) n _=H2;have w2:∀y,y<n->H2 y=H y:=λy hy=>by rw[<-hX];simp (disch:=omega) only[ab]
  have wm:H2 n=some [aH c.inp,bi c.out,bi c.calm]:=by rw[<-hX,ac];rfl
  clear hX;have w0:=(w2 0 (by omega)).trans g0;have w22:=(w2 2 (by omega)).trans g2;refine ir S rfl (hsub _ w0 wm) ?_;refine wnY (zI3 @PE @z0 @zm) ?_;refine eh ?_;refine n8 (ys:=[aH c.inp]) ev0 ev0 q1 (af (Dat.snap (eV _)) aj) ?_;refine jg ⟨hsub _ w0 wm,?_⟩;refine eh ?_;refine ec ev0 ev0 q2 (aQ (af (Dat.snap (dZ _)) aj)) ?_;refine jg ⟨hsub _ w0 wm,?_⟩;refine eh ?_;refine ec ev0 ev0 q3 (aQ (af (Dat.snap (dZ _)) aj)) ?_;refine jg ⟨hsub _ w0 wm,?_⟩;have zz:=aI @PE @hix;repeat' (first|apply a_n|refine zO ?_|refine nvY ?_|apply ga|fail)
  refine lm (b:=2) (n:=L.length*3) (off:=i*3) (cs:=cL ke L) (vs:=[aH c.inp,bi c.out,bi c.calm]) rfl ev0 ev0 w22 rfl (by simp only[SO,e7,d5,Bool.and_self]) hcC rfl (by omega) ?_;rw[hput];refine wnY and_self ?_;exact⟨i+1,by omega,⟨by omega,by omega,by simp (disch:=omega) only[ab];exact w0,by simp (disch:=omega) only[ab];exact(w2 1 (by omega)).trans g1,ac⟩,ag0⟩
 refine wnY (aI @PE @g0) ?_;refine a7 ev0 ev0 (hclM _ _) ?_;rintro r H' nx' ⟨rfl,rfl,rfl⟩;refine wnY (aI @PE @g0) ?_;refine bj (X:=Nat) (λi=>[(1,.ptr 0 7 0),(2,.ptr 1 7 0),(46,.msl n M.length 1 0 M.length),(47,.int .i64 M.length),(48,.int .i64 i)]) (λi H n'=>i<=M.length/\n<n'/\H 0=some [.int .i64 p.task.n,.int .i64 p.task.ins,.int .i64 p.task.outs,.msl 2 (L.length*3) 3 0 L.length,.int .i64 p.adv.n,.msl n M.length 1 0 M.length,.int .i64 p.rounds]/\H 1=some [.int .i64 0,.int .i64 0,.int .i64 0,.esl,.int .i64 0,.esl,.int .i64 0]/\H 2=some (cL ke L)/\H n=some (M.map di)) (λi=>M.length-i) 0 ⟨bz _,by omega,by simp (disch:=omega) only[ab,ac];rfl,by simp (disch:=omega) only[ab];exact g1,by simp (disch:=omega) only[ab];exact g2,by simp (disch:=omega) only[ab,ac]⟩ (by simp (disch:=omega) only[agr,ZG,reduceEqDiff,↓reduceIte,SL]) ?_;clear g0 g1 g2;rintro j H1 n1 ⟨j1,hn1,g0,g1,g2,g3⟩;have hMl:(M.map di).length=M.length:=bD _;by_cases hj:j<M.length
 ·have hgm:(M.map di)[j]?=some (di (M.getD j default)):=by
    rw[jQ];simp[List.getD,hj]
  have hix:cA 1 (.msl n M.length 1 0 M.length) (.int .i64 (j:Int))=some (.ptr n M.length j):=by
   rw[fT,if_pos ⟨by omega,by omega⟩,bQ,cp,Nat.mul_one]
  have hr0:rd1 H1 (.ptr n M.length j)=some (di (M.getD j default)):=by rw[xw g3 hMl,hgm]
  have hput:bE (M.map di) j [di (M.getD j default)]=M.map di:=by
   rw[fK (by omega)];refine List.ext_getElem? λk=>?_;rw[List.getElem?_set];split
   ·rename_i e;subst e;rw[if_pos (by omega),hgm]
   ·rfl
  have q1:=Gj _ (gf (hml _ (au hj)) (by omega));generalize M.getD j default=l at *;refine wnY (zI4 @PE @g0 @hix @hr0) ?_;refine ir (only 0 [.int .i64 p.task.n,.int .i64 p.task.ins,.int .i64 p.task.outs,.msl 2 (L.length*3) 3 0 L.length,.int .i64 p.adv.n,.msl n M.length 1 0 M.length,.int .i64 p.rounds]) rfl (kQ g0) ?_;have z0:∀c,only 0 c 0=some c:=λc=>eO;refine wnY (aI @PE @z0) ?_;refine eh ?_;refine ec ev0 ev0 q1 (aQ (af (Dat.snap (jO _)) aj)) ?_;refine jg ⟨kQ g0,?_⟩;have zz:=aI @PE @hix;repeat' (first|apply a_n|refine zO ?_|refine nvY ?_|apply ga|fail)
  refine lm (b:=n) (n:=M.length) (off:=j) (cs:=M.map di) (vs:=[di l]) rfl ev0 ev0 g3 rfl rfl hMl rfl (by omega) ?_;rw[hput];refine wnY and_self ?_;exact⟨j+1,by omega,⟨by omega,by omega,by simp (disch:=omega) only[ab];exact g0,by simp (disch:=omega) only[ab];exact g1,by simp (disch:=omega) only[ab];exact g2,ac⟩,ag0⟩
 refine wnY (zI3 @PE @g0 @g1) ?_;refine fV (af (.int _ _) (af (.int _ _) (af (.int _ _) (af (Kb ?_) (af (.int _ _) (af (Hd ?_) (af (.int _ _) aj)))))))
 ·exact Row.box 2 L.length _ (by rw[ab (by omega)];exact g2) hcC
 ·exact Row.box1 (by rw[ab (by omega)];exact g3) hMl
theorem Gb(n:Int)(vs:List VwV)(v:VwV)(hl:vs.length<=100000)(H:Hp)(nx bb mb:Nat)(VS:AV)(hB:Bd H bb mb n vs VS)(hbb:bb<nx)(hmb:mb<nx)(hne:mb≠bb)(hr:∀b,bd VS=some b->b<nx/\b≠bb/\b≠mb):
    Abs.Fn Tryz.prog 83 [.ptr bb 3 0,dx v] H nx λr H' nx'=>r=.int .i64 ((jY vs v).idxOf v:Nat)/\nx<nx'/\∃VS',Bd H' bb mb n (jY vs v) VS'/\(∀b,bd VS'=some b->bd VS=some b\/(nx<=b/\b<nx'))/\∀y,y<nx->y≠bb->y≠mb->bd VS≠some y->H' y=H y:=by
 refine fO Pi ?_;simp only[b83,aw];obtain⟨hb,hrow,hm⟩:=hB;obtain⟨o1,o2⟩:=hrow.one;have hmf:=Kq v vs;have hlen:=hrow.lenS (t8 vs) (by omega);have hkf:oq (.st [.int,.int,.int,.int,.int,.int,.int,.int]) (dx v)=true:=rfl;have hcl:=t8 vs;unfold dx at hmf hkf |-;rw[PC.2.2.2.2.2.1] at hmf hkf |-;refine wnY @PE ?_;have w:∀cs y,y<nx->ar H nx cs y=H y:=λcs y hy=>ab (by omega);refine ir _ rfl (λ_ _ h=>h) ?_;have zz:=aI @PE (aI @SV3 @hb);repeat' (first|apply a_n|refine zO ?_|refine nvY ?_|apply ga|fail)
 by_cases hv:v∈vs
 ·rw[if_pos hv] at hmf;have hi:=List.idxOf_lt_length_of_mem hv;have hav:jY vs v=vs:=by unfold jY;rw[if_pos hv]
  rw[hav];refine il (b:=mb) ev0 ((w _ mb hmb).trans hm) ev0 hkf hmf ?_;rw[show mget (AV.int .i64 0) true (some (vs.idxOf v)) (vD vs.length)=.tup [(vD vs.length).getD (vs.idxOf v) .undef,.bool true] from rfl,FU hi];refine wnY @PE ?_;exact⟨rfl,by omega,VS,⟨(w _ bb hbb).trans hb,hrow.same λb h=>w _ b (hr b h).1,(w _ mb hmb).trans hm⟩,λb h=>.inl h,λy hy _ _ _=>w _ y hy⟩
 ·rw[if_neg hv] at hmf;have hav:jY vs v=vs++[v]:=by unfold jY;rw[if_neg hv]
  have hio:(vs++[v]).idxOf v=vs.length:=by rw[List.idxOf_append,if_neg hv];simp
  rw[hav,hio];refine il (b:=mb) ev0 ((w _ mb hmb).trans hm) ev0 hkf hmf ?_;rw[show mget (AV.int .i64 0) true none (vD vs.length)=.tup [.int .i64 0,.bool false] from rfl];refine wnY (zI6 @PE @SV3 @hb @hlen @o1 @o2) ?_;refine ir _ rfl (λ_ _ h=>h) ?_;clear zz;have zz:=aI @PE (aI @SV3 @hb);repeat' (first|apply a_n|refine zO ?_|refine nvY ?_|apply ga|fail)
  refine oL (b:=mb) ev0 ((w _ mb hmb).trans hm) ev0 ev0 hkf hmf ?_;refine wnY (zI5 @PE @SV3 @hb @o1 @o2) ?_;refine d7 (k:=1) (xv:=.msl (nx+1) 8 8 0 1) (new:=[.int .i64 v.proc,.int .i64 v.round,.int .i64 v.input,.int .i64 v.h0,.int .i64 v.h1,.int .i64 v.h2,.int .i64 v.h3,.int .i64 v.h4]) rfl ev0 (hrow.same λb h=>by have:=hr b h;simp (disch:=omega) only[ab]) ev0 (co rfl) rfl rfl (by omega) (by omega) (by omega) ?_;rintro VS' H' nx' r1 r2 r3 r4 r5;obtain⟨p1,p2⟩:=r1.one;have nbb:bd VS≠some bb:=λh=>(hr bb h).2.1 rfl;have nmb:bd VS≠some mb:=λh=>(hr mb h).2.2 rfl
  have hb':H' bb=some [.int .i64 n,VS,.mp mb]:=by
   rw[r4 bb (by omega) nbb];simp (disch:=omega) only[ab];exact hb
  have hm':H' mb=some [.omap ((vs++[v]).map dx) (vD (vs++[v]).length)]:=by
   rw[r4 mb (by omega) nmb];simp (disch:=omega) only[ab,ac];rw[dq,cq,List.length_singleton,DJ];rfl
  refine wnY (zI5 @PE @SV3 @hb' @p1 @p2) ?_
  have hVS:∀b,bd VS'=some b->bd VS=some b\/(nx<=b/\b<nx'):=λb h=>by
   rcases r5 b h with h|h
   ·exact .inl h
   ·omega
  have hVb:∀b,bd VS'=some b->b≠bb:=λb h=>by
   rcases hVS b h with h|h
   ·exact(hr b h).2.1
   ·omega
  refine⟨rfl,by omega,VS',⟨ac,?_,by rw[ab hne];exact hm'⟩,hVS,λy hy h1 h2 h3=>?_⟩
  ·rw[iX,tV];exact r1.same λb h=>ab (hVb b h)
  ·rw[ab h1,r4 y (by omega) h3];simp (disch:=omega) only[ab]
theorem wq:pU 84 [] (.agg [.int .i64 (-1),.int .i64 (-1),.int .i64 (-1),.int .i64 (-1),.int .i64 (-1)]):=by
 refine pO OZ ?_;simp only[b84,aw];refine wnZ and_self ?_;refine bj (X:=Nat) (λk=>[(0,.ptr 0 5 0),(1,.ptr 1 5 0),(3,.int .i64 k)]) (λk H nx=>k<=5/\H 0=some [.int .i64 0,.int .i64 0,.int .i64 0,.int .i64 0,.int .i64 0]/\H 1=some ((hk (λ_=>-1) k).map (AV.int .i64))) (λk=>5-k) 0 ⟨bz _,rfl,rfl⟩ (by simp (disch:=omega) only[agr,ZG,reduceEqDiff,↓reduceIte,SL]) ?_;rintro k H nx ⟨k1,g0,g1⟩;by_cases hk5:k<5
 rotate_left
 ·obtain rfl:k=5:=by omega
  rw[show(hk (λ_=>-1) 5).map (AV.int .i64)=[.int .i64 (-1),.int .i64 (-1),.int .i64 (-1),.int .i64 (-1),.int .i64 (-1)] from rfl] at g1;refine wnZ (aI @g0 @g1) ?_;exact(Dat.agg (DatL.cons .int (DatL.cons .int (DatL.cons .int (DatL.cons .int (DatL.cons .int DatL.nil)))))) _
 have hl:((hk (λ_=>-1) k).map (AV.int .i64)).length=5:=by rw[bD,oO]
 have hp:bE ((hk (λ_=>-1) k).map (AV.int .i64)) k [.int .i64 (-1)]=(hk (λ_=>-1) (k+1)).map (AV.int .i64):=by
  rw[fK (by omega),ja,<-yn hk5]
 generalize (hk (λ_=>-1) k).map (AV.int .i64)=L at *;refine wnZ (zI3 @IX @g0 @g1) ?_;exact⟨k+1,by omega,⟨by omega,g0,by rw[ac,hp]⟩,ag0⟩
theorem xm(p:PrbV)(W:List (List RndV)):pU 46 [cI p,dP W] (.func 82 [.iptr [.int .i64 p.task.n,.int .i64 p.task.ins,.int .i64 p.task.outs,cC p.task.cases,.int .i64 p.adv.n,bh p.adv.states,.int .i64 p.rounds] 0,.iptr [dP W] 0]):=by
 refine pO Ou ?_;simp only[b46,aw];unfold cI;rw[PC.2.2.2.2.1];refine wnZ @PE ?_;exact fY (af (dF rfl rfl (af (.int _ _) (af (.int _ _) (af (.int _ _) (af (Dat.snap (iL _)) (af (.int _ _) (af (Dat.snap (fP _)) (af (.int _ _) aj)))))))) (af (dF rfl rfl (af (Dat.snap (uS _)) aj)) aj))
theorem Kd(p:PrbV)(W:List (List RndV))(hW:W.length<=100000)(hC:p.task.cases.length<=100000){y:Nat}{H:Hp}{nx:Nat}(I:List (Nat×List RndV)->Hp->Nat->Prop)
    (rnd:∀D c w H n,I D H n->c<p.task.cases.length->w∈W->(∃R,D++(c,w)::R=kL p.task.cases.length W)->Yl Tryz.prog y [.int .i64 c,bS w] H n λr H' n'=>r=.bool true/\I (D++[(c,w)]) H' n')
    (h0:I [] H nx):
    Abs.Fn Tryz.prog 82 [.yld y,.iptr [.int .i64 p.task.n,.int .i64 p.task.ins,.int .i64 p.task.outs,cC p.task.cases,.int .i64 p.adv.n,bh p.adv.states,.int .i64 p.rounds] 0,.iptr [dP W] 0] H nx λ_ H' nx'=>I (kL p.task.cases.length W) H' nx':=by
 refine fO Pm ?_;simp only[b82,aw];generalize p.task.cases=L at *;refine wnY @PE ?_;refine bj (X:=Nat) (λc=>[(0,.yld y),(2,.iptr [dP W] 0),(10,.int .i64 L.length),(11,.int .i64 c)]) (λc H n=>c<=L.length/\I (kL c W) H n) (λc=>L.length-c) 0 ⟨bz _,h0⟩ ag0 ?_;clear h0;rintro c H1 n1 ⟨c1,c2⟩;by_cases hc:c<L.length
 rotate_left
 ·obtain rfl:c=L.length:=by omega
  refine wnY @PE ?_;exact c2
 have hs:=m8 c W
 have hpre:∃R,kL (c+1) W++R=kL L.length W:=by
  obtain⟨R,h⟩:=Cu W (c+1) (L.length-(c+1));exact⟨R,by rw[h];congr 1;omega⟩
 rw[hs] at hpre;refine wnY @PE ?_;refine bj (X:=Nat) (λk=>[(0,.yld y),(2,.iptr [dP W] 0),(4,.int .i64 c),(10,.int .i64 L.length),(11,.int .i64 c),(14,dP W),(15,.int .i64 W.length),(16,.int .i64 k)]) (λk H n=>k<=W.length/\I (kL c W++(W.take k).map λw=>(c,w)) H n) (λk=>W.length-k) 0 ⟨bz _,by rw[List.take_zero,List.map_nil,gI];exact c2⟩ ag0 ?_;clear c2;rintro k H2 n2 ⟨k1,k2⟩;by_cases hk:k<W.length
 rotate_left
 ·rw[ji (by omega),<-hs] at k2;refine wnY @PE ?_;exact⟨c+1,by omega,⟨by omega,k2⟩,ag0⟩
 have ix:=JZ hk
 have hnx:kL c W++(W.take (k+1)).map (λw=>(c,w))=(kL c W++(W.take k).map λw=>(c,w))++[(c,W.getD k default)]:=by
  rw[cu hk,dq,<-gM];rfl
 have hex:∃R,(kL c W++(W.take k).map λw=>(c,w))++(c,W.getD k default)::R=kL L.length W:=by
  obtain⟨R,hR⟩:=hpre;refine⟨(W.drop (k+1)).map (λw=>(c,w))++R,?_⟩;rw[<-hR,show(c,W.getD k default)::((W.drop (k+1)).map (λw=>(c,w))++R)=[(c,W.getD k default)]++((W.drop (k+1)).map (λw=>(c,w))++R) from rfl,<-gM,<-hnx,<-gM,gM (kL c W),<-dq,xC]
 have hr:=rnd _ c (W.getD k default) H2 n2 k2 hc (au hk) hex;rw[<-hnx] at hr;generalize W.getD k default=w at *;refine wnY (aI @PE @ix) ?_;refine qd ev0 ev0 (Yl.mono hr ?_);rintro r H3 n3 ⟨rfl,q⟩;refine wnY @PE ?_;exact⟨k+1,by omega,⟨by omega,q⟩,ag0⟩
theorem G5(N:Nat)(hN:N<=5)(inp:List Int)(w:List RndV)(vs:List VwV)(hinp:inp.length=N)(hw:w.length<=6)(hwr:∀r∈w,r.n=N/\∀q,q<5->0<=r.hs.getD q 0/\r.hs.getD q 0<=9223372036854775807)(hl:vs.length<=90000)(H0:Hp)(nx bb mb:Nat)(VS0:AV)(hB:Bd H0 bb mb N vs VS0)(hbb:bb<nx)(hmb:mb<nx)(hne:mb≠bb)(hr:∀b,bd VS0=some b->b<nx/\b≠bb/\b≠mb):
    Abs.Fn Tryz.prog 48 [.ptr bb 3 0,aH inp,bS w] H0 nx λr H' nx'=>Row H' 1 r ((plV N inp w vs (w.length+1)).2.map aH)/\nx<nx'/\∃VS',Bd H' bb mb N (plV N inp w vs (w.length+1)).1 VS'/\VB nx nx' bb mb VS0 VS'/\(∀b,bd r=some b->nx<=b/\b<nx'/\bd VS'≠some b)/\Fr H0 H' nx bb mb VS0:=by
 refine fO PW ?_;simp only[b48,aw];have g0:=hB.b;have hpl:=lO N inp w vs;have hp1:plV N inp w vs 1=(fu (oV inp) N vs,[eL (oV inp) N vs]):=rfl;have hpk:∀k,plV N inp w vs (k+2)=(fu (l9 (w.getD k default) (k+1) ((plV N inp w vs (k+1)).2.getD k [])) N (plV N inp w vs (k+1)).1,(plV N inp w vs (k+1)).2++[eL (l9 (w.getD k default) (k+1) ((plV N inp w vs (k+1)).2.getD k [])) N (plV N inp w vs (k+1)).1]):=λ_=>rfl;have hf1:∀q:Nat,oV inp q=⟨q,0,inp.getD q 0,-1,-1,-1,-1,-1⟩:=λ_=>rfl;generalize plV N inp w vs=PL at *;generalize oV inp=f at *;refine wnY (aI @SV3 @g0) ?_;refine l8 rfl ev0 ev0 (by omega) (by omega) (by omega) (by omega) ?_;rw[bQ,fh,Nat.mul_one];refine wnY and_self ?_
 refine bj (X:=Nat×AV) (λx=>[(0,.ptr bb 3 0),(1,aH inp),(2,bS w),(7,.msl nx N 1 0 N),(23,.int .i64 N),(24,.int .i64 x.1)]) (λx H n'=>x.1<=N/\nx<n'/\Bd H bb mb N (fu f x.1 vs) x.2/\VB nx n' bb mb VS0 x.2/\bd x.2≠some nx/\H nx=some ((eL f x.1 vs++List.replicate (N-x.1) (0:Int)).map (AV.int .i64))/\Fr H0 H nx bb mb VS0) (λx=>N-x.1) (0,VS0)
  ⟨bz _,by omega,⟨by rw[ab (by omega)];exact hB.b,hB.r.same λb h=>ab (by have:=hr b h;omega),by rw[ab (by omega)];exact hB.m⟩,λb h=>by have:=hr b h;exact⟨by omega,this.2.1,this.2.2,.inl h⟩,λh=>by have:=hr _ h;omega,ac,λy hy _ _ _=>ab (by omega)⟩ ag0 ?_
 rintro⟨q,VS⟩ H n1 ⟨q1,hn1,hBd,hVB,hVn,hA,hFr⟩;dsimp only at q1 hBd hVB hVn hA |-;by_cases hq:q<N
 ·have ixq:cA 1 (aH inp) (.int .i64 (q:Int))=some (.iptr [.int .i64 (inp.getD q 0)] 0):=by
    have:=mg (l:=inp) (n:=(q:Int)) (by omega) (by omega)
    rwa [bQ] at this
  have hVl:(fu f q vs).length<=100000:=by have:=lg f q vs;omega
  have hnI:eL f (q+1) vs=eL f q vs++[(((jY (fu f q vs) (f q)).idxOf (f q):Nat):Int)]:=rfl;have hnV:fu f (q+1) vs=jY (fu f q vs) (f q):=rfl;have hadd:=Gb N (fu f q vs) (f q) hVl H n1 bb mb VS hBd (by omega) (by omega) hne λb h=>⟨(hVB b h).1,(hVB b h).2.1,(hVB b h).2.2.1⟩
  have hpt:=Ai f vs q N hq (((jY (fu f q vs) (f q)).idxOf (f q):Nat):Int);rw[<-hnI] at hpt;rw[<-hnV] at hadd hpt
  have hix:cA 1 (.msl nx N 1 0 N) (.int .i64 (q:Int))=some (.ptr nx N q):=by
   rw[fT,if_pos ⟨by omega,by omega⟩,bQ,cp,Nat.mul_one]
  have hAl:((eL f q vs++List.replicate (N-q) (0:Int)).map (AV.int .i64)).length=N:=by rw[bD,cq,iu,List.length_replicate];omega
  rw[hf1 q] at hadd hpt;unfold dx at hadd;rw[PC.2.2.2.2.2.1] at hadd;generalize inp.getD q 0=x at *;refine wnY and_self ?_;refine ir bM rfl (λy cs h=>by cases h) ?_;refine wnY @ixq ?_;refine eh ?_
  repeat' (first|apply a_n|refine zO ?_|refine cY ?_ (hp:=wq)|fail)
  refine⟨λy cs h=>(by cases h),?_⟩
  repeat' (first|apply a_n|refine zO ?_|refine nvY ?_|apply ga|fail)
  refine a7 ev0 ev0 hadd ?_;rintro r H2 n2 ⟨rfl,k1,VS2,hBd2,hV2,hF2⟩;have zz:=@hix;repeat' (first|apply a_n|refine zO ?_|refine nvY ?_|apply ga|fail)
  have hA2:=(hF2 nx (by omega) (by omega) (by omega) hVn).trans hA;refine lm (b:=nx) (n:=N) (off:=q) (vs:=[.int .i64 _]) rfl ev0 ev0 hA2 rfl rfl hAl rfl (by omega) ?_;rw[hpt];refine wnY and_self ?_
  have hVB2:VB nx n2 bb mb VS0 VS2:=λb h=>by
   rcases hV2 b h with h|h
   ·have:=hVB b h;exact⟨by omega,this.2.1,this.2.2.1,this.2.2.2⟩
   ·exact⟨by omega,by omega,by omega,.inr (by omega)⟩
  have hVn2:bd VS2≠some nx:=λh=>by
   rcases hV2 nx h with h|h
   ·exact hVn h
   ·omega
  refine⟨(q+1,VS2),by dsimp only;omega,⟨by dsimp only;omega,by omega,⟨by rw[ab (by omega)];exact hBd2.b,hBd2.r.same λb h=>ab λe=>hVn2 (e▸h),by rw[ab (by omega)];exact hBd2.m⟩,hVB2,hVn2,ac,λy hy h1 h2 h3=>?_⟩,ag0⟩
  rw [ab (by omega),hF2 y (by omega) h1 h2 (fun h=>by
   have:=hVB y h;rcases this.2.2.2 with h|h
   ·exact h3 h
   ·omega)]
  exact hFr y hy h1 h2 h3
 obtain rfl:q=N:=by omega
 rw[Nat.sub_self,List.replicate_zero,gI] at hA;refine wnY @PE ?_;have hrA:(eL f q vs).length=q:=iu f q vs;have hAs:Snap (only nx ((eL f q vs).map (AV.int .i64))) (.msl nx q 1 0 q) (aH (eL f q vs)):=Row.snapI (Row.box1 eO (by rw[bD,hrA]));obtain⟨H5,hfz,hr5,hs5⟩:=fe (H:=ar H n1 [.msl nx q 1 0 q]) (sz:=1) (t:=.msl n1 1 1 0 1) (cs:=[]) (x:=.msl nx q 1 0 q) (x':=aH (eL f q vs)) (nb:=nx) (Row.box1 ac rfl) (by rw[ab (by omega)];exact hA) hAs (λe=>by cases e;omega)
 have h5:∀y,y≠nx->y<n1->H5 y=H y:=λy h1 h2=>by
  rw[hs5 y h1 (λe=>by cases e;omega),ab (by omega)]
 refine rQ (nx:=n1+1) (X:=Nat×AV×AV) (λx=>[(0,.ptr bb 3 0),(7,aH ((PL (x.1+1)).2.getD x.1 [])),(9,x.2.2),(42,bS w),(43,.int .i64 w.length),(44,.int .i64 x.1)]) (λx H n'=>x.1<=w.length/\nx<n'/\Bd H bb mb q (PL (x.1+1)).1 x.2.1/\VB nx n' bb mb VS0 x.2.1/\Row H 1 x.2.2 ((PL (x.1+1)).2.map aH)/\(∀b,bd x.2.2=some b->nx<=b/\b<n'/\bd x.2.1≠some b)/\Fr H0 H nx bb mb VS0) (λx=>w.length-x.1) (0,VS,.msl n1 1 1 0 1)
  ⟨_,H5,hfz,⟨bz _,by omega,?_,fun b h=>by have:=hVB b h; exact ⟨by omega,this.2.1,this.2.2.1,this.2.2.2⟩,by rw [hp1]; exact hr5,fun b h=>by
   have e:b=n1:=by cases h;rfl
   refine⟨by omega,by omega,λh'=>?_⟩;have:=(hVB b h').1;omega,λy hy h1 h2 h3=>by rw[h5 y (by omega) (by omega)];exact hFr y hy h1 h2 h3⟩,?_⟩ ?_
 ·dsimp only;rw[hp1];exact⟨by rw[h5 bb (by omega) (by omega)];exact hBd.b,hBd.r.same λb h=>h5 b (λe=>hVn (e▸h)) (hVB b h).1,by rw[h5 mb (by omega) (by omega)];exact hBd.m⟩
 ·dsimp only;rw[hp1]
  exact ⟨.inl ev0,.inr (by
   have e:∀v,v=.msl nx q 1 0 q->Snap (only nx ((eL f q vs).map (AV.int .i64))) v (aH (eL f q vs)):=λv h=>h▸hAs;exact e _ ev0),.inl ev0,.inl ev0,.inl ev0,.inl (have zz:=@Int.natCast_zero;evZ),trivial⟩
 clear hA hFr hVn hVB hBd hfz hr5 hs5 h5 hAs;rintro⟨k,VS,out⟩ H n1 ⟨k1,hn1,hBd,hVB,hrow,hrb,hFr⟩;dsimp only at k1 hBd hVB hrow hrb |-;by_cases hk:k<w.length
 rotate_left
 ·obtain rfl:k=w.length:=by omega
  refine wnY @PE ?_;exact⟨hrow,hn1,VS,hBd,hVB,hrb,hFr⟩
 have ixw:=ixR hk;obtain⟨hrn,hrh⟩:=hwr _ (au hk);obtain⟨pl1,pl2,pl3⟩:=hpl (k+1);have hPk:=hpk k;have hnl:((PL (k+1)).2.getD k []).length=q:=pl2 _ (gW (by omega));have hsn:∀p,l9 (w.getD k default) (k+1) ((PL (k+1)).2.getD k []) p=⟨p,(k+1:Nat),0,hrd ((w.getD k default).hs.getD p 0) ((PL (k+1)).2.getD k []) 0,hrd ((w.getD k default).hs.getD p 0) ((PL (k+1)).2.getD k []) 1,hrd ((w.getD k default).hs.getD p 0) ((PL (k+1)).2.getD k []) 2,hrd ((w.getD k default).hs.getD p 0) ((PL (k+1)).2.getD k []) 3,hrd ((w.getD k default).hs.getD p 0) ((PL (k+1)).2.getD k []) 4⟩:=λ_=>rfl;have hcell:=λp hp=>FO (w.getD k default) (q:=p) hp
 have hVl0:(PL (k+1)).1.length<=99000:=by
  have:(k+1)*q<=7*5:=Nat.mul_le_mul (by omega) hN;omega
 generalize hg:l9 (w.getD k default) (k+1) ((PL (k+1)).2.getD k [])=g at *;generalize hnow:(PL (k+1)).2.getD k []=now at *;generalize (PL (k+1)).2=rows at *;generalize (PL (k+1)).1=V at *;rw[PC.1] at ixw;generalize w.getD k default=r at *;obtain⟨o1,o2⟩:=hrow.one;have gB:=hBd.b;refine wnY (zI4 @PE @ixw @SV3 @gB) ?_;refine l8 rfl ev0 ev0 (by omega) (by omega) (by omega) (by omega) ?_;rw[bQ,fh,Nat.mul_one];refine wnY and_self ?_;generalize hX:ar (ar (ar H n1 _) n1 _) (n1+1) _=H1;have w1:∀y,y<n1->H1 y=H y:=λy hy=>by rw[<-hX];simp (disch:=omega) only[ab]
 have wC:H1 n1=some [.int .i64 r.n,.int .i64 r.h0,.int .i64 r.h1,.int .i64 r.h2,.int .i64 r.h3,.int .i64 r.h4,.int .i64 r.f]:=by rw[<-hX];simp (disch:=omega) only[ab,ac];rfl
 have wD:H1 (n1+1)=some ((List.replicate q (0:Int)).map (AV.int .i64)):=by rw[<-hX,ac]
 clear hX;have nO:∀b,bd out=some b->b<n1:=λb h=>(hrb b h).2.1
 refine bj (X:=Nat×AV) (λx=>[(0,.ptr bb 3 0),(7,aH now),(9,out),(10,.int .i64 k),(11,.ptr n1 7 0),(12,.msl (n1+1) q 1 0 q),(42,bS w),(43,.int .i64 w.length),(44,.int .i64 k),(55,.int .i64 q),(56,.int .i64 x.1)]) (λx H' n'=>x.1<=q/\n1+1<n'/\Bd H' bb mb q (fu g x.1 V) x.2/\VB nx n' bb mb VS0 x.2/\(∀b,bd x.2=some b->b≠n1/\b≠n1+1/\bd out≠some b)/\H' n1=some [.int .i64 r.n,.int .i64 r.h0,.int .i64 r.h1,.int .i64 r.h2,.int .i64 r.h3,.int .i64 r.h4,.int .i64 r.f]/\H' (n1+1)=some ((eL g x.1 V++List.replicate (q-x.1) (0:Int)).map (AV.int .i64))/\(∀b,bd out=some b->H' b=H b)/\Fr H0 H' nx bb mb VS0) (λx=>q-x.1) (0,VS)
  ⟨bz _,by omega,⟨(w1 bb (by omega)).trans hBd.b,hBd.r.same λb h=>w1 b (hVB b h).1,(w1 mb (by omega)).trans hBd.m⟩,λb h=>by have:=hVB b h;exact⟨by omega,this.2.1,this.2.2.1,this.2.2.2⟩,λb h=>by have:=hVB b h;exact⟨by omega,by omega,λh'=>(hrb b h').2.2 h⟩,wC,wD,λb h=>w1 b (nO b h),λy hy h1 h2 h3=>by rw[w1 y (by omega)];exact hFr y hy h1 h2 h3⟩ (by simp (disch:=omega) only[agr,ZG,reduceEqDiff,↓reduceIte,SL]) ?_
 clear wC wD w1 hFr hVB hBd gB;rintro⟨p,VS⟩ H1 n2 ⟨p1,hn2,hBd,hVB,hVx,wC,wD,hO,hFr⟩;dsimp only at p1 hBd hVB hVx wD |-;by_cases hp:p<q
 rotate_left
 ·obtain rfl:p=q:=by omega
  rw[Nat.sub_self,List.replicate_zero,gI] at wD;have hrl:(rows.map aH).length<=7:=by rw[bD];omega
  have hrowH:Row H1 1 out (rows.map aH):=hrow.same λb h=>hO b h;refine wnY (zI3 @PE @o1 @o2) ?_;refine d7 (k:=1) (sv:=out) (cs:=rows.map aH) (new:=[.msl (n1+1) p 1 0 p]) rfl ev0 (hrowH.same λb h=>ab (by have:=nO b h;omega)) ev0 (co rfl) rfl rfl g8 (by omega) (by omega) ?_;rintro out2 H3 n3 r1 r2 r3 r4 r5;have fx:∀y,y<n2->bd out≠some y->H3 y=H1 y:=λy h1 h2=>by rw[r4 y (by omega) h2,ab (by omega)]
  have hrI:(eL g p V).length=p:=iu g p V;have hDs:Snap (only (n1+1) ((eL g p V).map (AV.int .i64))) (.msl (n1+1) p 1 0 p) (aH (eL g p V)):=Row.snapI (Row.box1 eO (by rw[bD,hrI]));have nOD:bd out≠some (n1+1):=λh=>by have:=nO _ h;omega
  have ho2:∀b,bd out2=some b->bd out=some b\/(n2<=b/\b<n3):=λb h=>by
   rcases r5 b h with h|h
   ·exact .inl h
   ·omega
  have nO2:bd out2≠some (n1+1):=λh=>by
   rcases ho2 _ h with h|h
   ·exact nOD h
   ·omega
  obtain⟨H5,hfz,hr5,hs5⟩:=fe (x':=aH (eL g p V)) r1 ((fx (n1+1) (by omega) nOD).trans wD) hDs nO2;have hkp:H5=H5:=rfl
  have h5:∀y,y<n2->y≠n1+1->bd out≠some y->H5 y=H1 y:=λy h1 h2 h3=>by
   rw [hs5 y h2 (fun h=>by
    rcases ho2 _ h with h|h
    ·exact h3 h
    ·omega)]
   exact fx y h1 h3
  refine wnY and_self ?_
  have hgl:((rows++[eL g p V]).getD (k+1) [])=eL g p V:=by
   rw[ml,ie (by omega),pl1,Nat.sub_self];rfl
  have nbo:bd out≠some bb:=λh=>by have:=(hrb _ h).1;omega
  have nmo:bd out≠some mb:=λh=>by have:=(hrb _ h).1;omega
  refine⟨(k+1,VS,out2),by dsimp only;omega,_,H5,hfz,⟨by dsimp only;omega,by omega,?_,λb h=>by have:=hVB b h;exact⟨by omega,this.2.1,this.2.2.1,this.2.2.2⟩,?_,λb h=>?_,λy hy h1 h2 h3=>?_⟩,?_⟩
  ·dsimp only;rw[hPk];exact⟨by rw[h5 bb (by omega) (by omega) nbo];exact hBd.b,hBd.r.same λb h=>h5 b (hVB b h).1 (hVx b h).2.1 (hVx b h).2.2,by rw[h5 mb (by omega) (by omega) nmo];exact hBd.m⟩
  ·dsimp only;rw[hPk,dq];exact hr5
  ·rcases ho2 b h with h|h
   ·have:=hrb b h;exact⟨this.1,by omega,λh'=>(hVx b h').2.2 h⟩
   ·exact⟨by omega,by omega,λh'=>by have:=(hVB b h').1;omega⟩
  ·rw[h5 y (by omega) (by omega) (λh=>by have:=(hrb _ h).1;omega)];exact hFr y hy h1 h2 h3
  ·dsimp only;rw[hPk];dsimp only;rw[hgl]
   exact ⟨.inl ev0,.inr (by
    have e:∀v,v=.msl (n1+1) p 1 0 p->Snap (only (n1+1) ((eL g p V).map (AV.int .i64))) v (aH (eL g p V)):=λv h=>h▸hDs;exact e _ ev0),.inl ev0,.inl ev0,.inl ev0,.inl (have zz:=aI @Int.natCast_add @Int.natCast_one;evZ),trivial⟩
 have hVl:(fu g p V).length<=100000:=by have:=lg g p V;omega
 have hnI:eL g (p+1) V=eL g p V++[(((jY (fu g p V) (g p)).idxOf (g p):Nat):Int)]:=rfl;have hnV:fu g (p+1) V=jY (fu g p V) (g p):=rfl;have hpt:=Ai g V p q hp (((jY (fu g p V) (g p)).idxOf (g p):Nat):Int);rw[<-hnI] at hpt;have hDl:((eL g p V++List.replicate (q-p) (0:Int)).map (AV.int .i64)).length=q:=by rw[bD,cq,iu,List.length_replicate];omega
 have hix:cA 1 (.msl (n1+1) q 1 0 q) (.int .i64 (p:Int))=some (.ptr (n1+1) q p):=by
  rw[fT,if_pos ⟨by omega,by omega⟩,bQ,cp,Nat.mul_one]
 have hcp:=hcell p (by omega);obtain⟨x0,x1⟩:=hrh p (by omega);have hsp:=hsn p;generalize r.hs.getD p 0=x at *;generalize hG:hrd x now=G at *;have hG1:∀i,G i=if i<now.length/\hasFl x i=true then now.getD i 0 else-1:=λi=>by rw[<-hG];rfl
 have hGz:∀i,q<=i->G i=-1:=λi hi=>by rw[hG1,if_neg λh=>by omega]
 have hma:=J4 hGz;have hgc:(g p).cs=vwc p (k+1:Nat) 0 (hm G q):=by rw[hma,Fl,hsp];rfl
 have zz:=@PE;repeat' (first|refine zW ?_|apply a_n|refine zO ?_|refine vY ?_|refine cY ?_ (hp:=wq)|refine alY ?_|refine stY ?_|(refine zGY ?_ ?_<;>(intro _hg;try (exfalso;omega)))|fail)
 generalize hX:ar (ar H1 n2 _) n2 _=H2;have w2:∀y,y≠n2->H2 y=H1 y:=λy hy=>by rw[<-hX];simp (disch:=omega) only[ab]
 have wE:H2 n2=some (vwc p (k+1:Nat) 0 (hm G 0)):=by rw[<-hX,ac];rfl
 clear zz;clear hX;refine bj (X:=Nat) (λi=>[(0,.ptr bb 3 0),(7,aH now),(9,out),(10,.int .i64 k),(11,.ptr n1 7 0),(12,.msl (n1+1) q 1 0 q),(13,.int .i64 p),(14,.ptr n2 8 0),(42,bS w),(43,.int .i64 w.length),(44,.int .i64 k),(55,.int .i64 q),(56,.int .i64 p),(64,aH now),(65,.int .i64 now.length),(66,.int .i64 i)]) (λi H' n'=>i<=now.length/\n'=n2+1/\H' n2=some (vwc p (k+1:Nat) 0 (hm G i))/\∀y,y≠n2->H' y=H1 y) (λi=>now.length-i) 0 ⟨bz _,rfl,wE,w2⟩ (by simp (disch:=omega) only[agr,ZG,reduceEqDiff,↓reduceIte,SL]) ?_;clear wE w2;rintro i H2 n3 ⟨i1,rfl,wE,w2⟩;by_cases hi:i<now.length
 ·have ixn:cA 1 (aH now) (.int .i64 (i:Int))=some (.iptr [.int .i64 (now.getD i 0)] 0):=by
    have:=mg (l:=now) (n:=(i:Int)) (by omega) (by omega)
    rwa [bQ] at this
  have gC:=(w2 n1 (by omega)).trans wC;have hsh:=λtb tf=>qM tb tf x i;have ha1:=λtb tf=>pB tb tf (j8 x i);have hbit:=Af (f:=x) (p:=i) x0 (by omega);have hGi:=hG1 i;have hlv:=pm p (k+1:Nat) 0 (Gw G i);have hpv:=sW (a:=p) (b:=(k+1:Nat)) (c:=0) (Gw G i) (show i<5 by omega) (G i);rw[KO (by omega)] at hpv;generalize j8 x i=sn at *;generalize pK sn=an at *;cases hb:hasFl x i with
  |false=>
   rw[hb] at hGi hbit;rw[if_neg λh=>by cases h.2] at hGi;rw[<-GQ hGi] at wE;refine wnY (zI7 @IX @ixn @gC @hcp @hsh @ha1 @hbit) ?_;exact⟨i+1,by omega,⟨by omega,rfl,wE,w2⟩,ag0⟩
  |true=>
   rw[hb] at hGi hbit;rw[if_pos ⟨hi,rfl⟩] at hGi;rw[<-hGi] at ixn;generalize vwc p (k+1:Nat) 0 (hm G i)=L at *;refine wnY (zI7 @IX @ixn @gC @hcp @hsh @ha1 @hbit) ?_;refine lm (b:=n2) (n:=8) (off:=3+i) (cs:=L) (vs:=[.int .i64 (G i)]) rfl ev0 ev0 wE rfl rfl hlv rfl (by omega) ?_;rw[hpv];refine wnY and_self ?_;exact⟨i+1,by omega,⟨by omega,rfl,ac,λy hy=>by rw[ab hy];exact w2 y hy⟩,ag0⟩
 obtain rfl:i=now.length:=by omega
 rw[hnl,<-hgc] at wE;have hBd2:Bd H2 bb mb q (fu g p V) VS:=⟨by rw[w2 bb (by omega)];exact hBd.b,hBd.r.same λb h=>w2 b (by have:=(hVB b h).1;omega),by rw[w2 mb (by omega)];exact hBd.m⟩
 have hadd:=Gb q (fu g p V) (g p) hVl H2 (n2+1) bb mb VS hBd2 (by omega) (by omega) hne λb h=>by have:=hVB b h;exact⟨by omega,this.2.1,this.2.2.1⟩
 rw[<-hnV] at hadd hpt;unfold dx at hadd;rw[PC.2.2.2.2.2.1] at hadd wE;generalize g p=v at *;refine wnY @wE ?_;refine a7 ev0 ev0 hadd ?_;rintro _ H3 n3 ⟨rfl,k1,VS2,hBd3,hV2,hF2⟩;refine wnY @hix ?_;have nVD:bd VS≠some (n1+1):=λh=>(hVx _ h).2.1 rfl;have nVC:bd VS≠some n1:=λh=>(hVx _ h).1 rfl;have wD3:=(hF2 (n1+1) (by omega) (by omega) (by omega) nVD).trans ((w2 (n1+1) (by omega)).trans wD);refine lm (b:=n1+1) (n:=q) (off:=p) (vs:=[.int .i64 _]) rfl ev0 ev0 wD3 rfl rfl hDl rfl (by omega) ?_;rw[hpt];refine wnY and_self ?_
 have hVx2:∀b,bd VS2=some b->b≠n1/\b≠n1+1/\bd out≠some b:=λb h=>by
  rcases hV2 b h with h|h
  ·exact hVx b h
  ·exact⟨by omega,by omega,λh'=>by have:=nO b h';omega⟩
 refine⟨(p+1,VS2),by dsimp only;omega,⟨by dsimp only;omega,by omega,⟨by rw[ab (by omega)];exact hBd3.b,hBd3.r.same λb h=>ab (hVx2 b h).2.1,by rw[ab (by omega)];exact hBd3.m⟩,λb h=>?_,hVx2,?_,ac,λb h=>?_,λy hy h1 h2 h3=>?_⟩,ag0⟩
 ·rcases hV2 b h with h|h
  ·have:=hVB b h;exact⟨by omega,this.2.1,this.2.2.1,this.2.2.2⟩
  ·exact⟨by omega,by omega,by omega,.inr (by omega)⟩
 ·rw[ab (by omega),hF2 n1 (by omega) (by omega) (by omega) nVC,w2 n1 (by omega)];exact wC
 ·have hb1:=hrb b h;rw[ab (by omega),hF2 b (by omega) (by omega) (by omega) (λh'=>(hVx b h').2.2 h),w2 b (by omega)];exact hO b h
 ·rw [ab (by omega),hF2 y (by omega) h1 h2 (fun h=>by
    rcases(hVB y h).2.2.2 with h|h
    ·exact h3 h
    ·omega),w2 y (by omega)]
  exact hFr y hy h1 h2 h3
theorem yC(p:PrbV)(h:OkP p):pU 20 [cI p] (.tup [fq (bw p),.int .i64 0]):=by
 refine pO Px ?_;simp only[b20,aw];obtain⟨hck,ho,hn,r0,r6⟩:=eJ h.e0;obtain⟨n1,n5,c1,c2⟩:=dg hck;obtain⟨f1,f2,f3,f4⟩:=nP h.e0 h.num;have hcnt:=Iu p h;have hto:BO p.adv:=λl hl m hm=>⟨(ho.mv l hl m hm).to0,(ho.mv l hl m hm).to1⟩
 have hnum:=sS hto (by have:=ho.s1;omega) (lim:=4096) (by omega) p.rounds.toNat
 have hnb:kI p.adv p.rounds.toNat 4096<=4096:=by
  have:(bq p.adv p.rounds.toNat 0).length<=60:=f2;omega
 have hwo:=Hy p.adv h.sa ho p.rounds.toNat (by omega) hnb;have hcp:=Ew p h.sh (λe=>by rw[e] at c1;simp at c1) (λe=>by have:=ho.s1;rw[e] at this;simp at this) c2 (Hv h.few) ho.s256 (λl hl=>gf (pc hl) ho.m4096);have hex:=xm p (eT p);have hY:=@Kd p (eT p) (by omega) (by omega)
 have hwl:∀w∈eT p,w.length=p.rounds.toNat/\∀r∈w,r.n=p.task.n/\∀q,q<5->0<=r.hs.getD q 0/\r.hs.getD q 0<=9223372036854775807:=λw hw=>by
  refine⟨nr hw,λr hr=>?_⟩;obtain⟨l,hl,m,hm,rfl⟩:=pY hw r hr;have ok:=ho.mv l hl m hm;obtain⟨g1,_,_⟩:=jX ok.r;obtain⟨_,_,g2⟩:=mY g1;refine⟨by rw[ok.n,hn],λq hq=>?_⟩;obtain⟨g3,g4⟩:=g2 q hq;by_cases hqn:m.r.n<=q
  ·rw[g3 hqn];omega
  ·have:=g4 (by omega);have:=x5 (n:=m.r.n) (by rw[ok.n];exact ho.n5);omega
 have hN:((p.task.n.toNat:Nat):Int)=p.task.n:=by omega
 have hRn:((p.rounds.toNat:Nat):Int)=p.rounds:=by omega
 rw[hRn] at hwo;change pU 44 [d6 p.adv,.int .i64 p.rounds] (.tup [dP (eT p),.int .i64 0]) at hwo;have hal:=Cs p.task.cases.length (eT p);have hsl:=yA (p:=p) n5 r6;have hss:=AB p;have hxe:=λc s w=>xQ p c s w;have hall:=yh p p.task.cases.length;have hinp:=λc hc=>ui hck (c:=c) hc;have hs00:stD p []=⟨[],[]⟩:=rfl;have hsys:(bw p).cs=[.int .i64 p.task.n,.int .i64 p.task.ins,.int .i64 p.task.outs,cC p.task.cases,.int .i64 p.adv.n,bh p.adv.states,.int .i64 p.rounds,.int .i64 p.task.n,dE (bldS p p.task.cases.length).views,ef (bldS p p.task.cases.length).execs]:=rfl;have d1:=eZ p;have d2:=dG p.adv
 have hz:decide (4096 < ((eT p).length:Int) * (p.task.cases.length:Nat))=false:=bK (by
  have e:((eT p).length:Int)*(p.task.cases.length:Nat)=((p.task.cases.length*(eT p).length:Nat):Int):=by rw[Int.natCast_mul,Int.mul_comm]
  omega)
 rw[show fq (bw p)=.agg (bw p).cs from rfl,hsys];unfold cI at hcnt hcp hex d1 |-;unfold d6 at hwo d2;rw[PC.2.2.2.1] at hwo d2;rw[PC.2.2.2.2.1] at hcnt hcp hex d1 |-;generalize eT p=W at *;refine wnY (aI @PE @hz) ?_;refine tY ?_;refine wnY @PE ?_;refine gV 7 8 rfl rfl ev0 (λc0 cj hy=>?_);refine Abs.Fn.mono (hY (I:=λD H n=>∃VS EX,8<=n/\H 0=some [.int .i64 p.task.n,.int .i64 p.task.ins,.int .i64 p.task.outs,cC p.task.cases,.int .i64 p.adv.n,bh p.adv.states,.int .i64 p.rounds]/\H 1=some [.int .i64 0,.int .i64 0,.int .i64 0,.esl,.int .i64 0,.esl,.int .i64 0,.int .i64 0,.esl,.esl]/\H 2=some [.int .i64 0]/\H 3=some [.int .i64 p.task.n,.int .i64 p.task.ins,.int .i64 p.task.outs,cC p.task.cases,.int .i64 p.adv.n,bh p.adv.states,.int .i64 p.rounds,.int .i64 0,.esl,EX]/\H 6=some [.ptr 5 3 0]/\H 7=some [c0]/\Bd H 5 4 p.task.n (stD p D).views VS/\Row H 3 EX (cL gJ (stD p D).execs)/\(∀b,bd EX=some b->8<=b/\b<n)/\∀b,bd VS=some b->8<=b/\b<n/\bd EX≠some b) ?_ ?_) ?_
 rotate_left
 ·rw[hs00];exact⟨.esl,.esl,by omega,by simp (disch:=omega) only[ab,ac],by simp (disch:=omega) only[ab,ac],by simp (disch:=omega) only[ab,ac],by simp (disch:=omega) only[ab,ac];rfl,by simp (disch:=omega) only[ab,ac];rfl,by simp (disch:=omega) only[ab,ac],⟨by simp (disch:=omega) only[ab,ac],.nil,by simp (disch:=omega) only[ab,ac];rfl⟩,.nil,λb h=>(by cases h),λb h=>(by cases h)⟩
 ·rintro _ H1 n1 ⟨VS,EX,i1,g0,g1,g2,g3,g6,g7,hBd,hrow,hE,hV⟩;refine .inl ⟨g7,?_⟩;clear hy;rw[hall] at hBd hrow;have w:∀x,x≠7->cl H1 7 x=H1 x:=λx b=>ca b;have gB:=hBd.b;generalize hH2:cl H1 7=H2 at *;have k0:=(w 0 (by omega)).trans g0;have k1:=(w 1 (by omega)).trans g1;have k2:=(w 2 (by omega)).trans g2;have k3:=(w 3 (by omega)).trans g3;have k5:=(w 5 (by omega)).trans gB;have k6:=(w 6 (by omega)).trans g6;obtain⟨o1,o2⟩:=hBd.r.one;obtain⟨o3,o4⟩:=hrow.one;refine wnY (aI @PE (aI @SV3 (fk @k0 @k1 @k2 @k3 @k5 @k6 @o1 @o2 @o3 @o4))) ?_;refine cQ (af (fV (af (.int _ _) (af (.int _ _) (af (.int _ _) (af (Dat.snap (iL _)) (af (.int _ _) (af (Dat.snap (fP _)) (af (.int _ _) (af (.int _ _) (af (F7 (hBd.r.same λb h=>?_)) (af (EW (hrow.same λb h=>?_)) aj))))))))))) (af (.int _ _) aj))
  ·have:=hV b h;simp (disch:=omega) only[ab];exact w b (by omega)
  ·have:=hE b h;simp (disch:=omega) only[ab];exact w b (by omega)
 ·rintro D c w H1 n1 ⟨VS,EX,i1,g0,g1,g2,g3,g6,g7,hBd,hrow,hE,hV⟩ hcl hwW ⟨R,hR⟩;refine hy _ _ _ _ g7 rfl ?_;clear hy;have w0:∀x,x≠7->cl H1 7 x=H1 x:=λx b=>ca b;obtain⟨hwl1,hwr⟩:=hwl w hwW;have hcl2:=uP w (by omega)
  have hDl:D.length<p.task.cases.length*W.length:=by
   have:=congrArg List.length hR;rw[cq,dJ,hal] at this;omega
  obtain⟨hs1,hs2⟩:=hsl D;have hsD:=hss D c w;rw[hxe] at hsD;have ixc:=Tk.aixS_encCs hcl;have hin:=hinp c hcl;generalize (p.task.cases.getD c default).inp=inp at *;generalize stD p D=B at *;have hpc:=λH0 nx=>G5 p.task.n.toNat (by omega) inp w B.views (by omega) (by omega) (λr hr=>by rw[hN];exact hwr r hr) (by omega) H0 nx 5 4 VS;rw[hwl1] at hpc;have hPl:=lO p.task.n.toNat inp w B.views (p.rounds.toNat+1);generalize plV p.task.n.toNat inp w B.views (p.rounds.toNat+1)=PL at *;obtain⟨V2,rows⟩:=PL;rw[hN] at hpc;dsimp only at hpc hsD hPl;have hBd2:Bd (cl H1 7) 5 4 p.task.n B.views VS:=⟨(w0 5 (by omega)).trans hBd.b,hBd.r.same λb h=>w0 b (by have:=hV b h;omega),(w0 4 (by omega)).trans hBd.m⟩
  have hrow2:Row (cl H1 7) 3 EX (cL gJ B.execs):=hrow.same λb h=>w0 b (by have:=hE b h;omega);refine wnY @PE ?_;generalize hH2:cl H1 7=H2 at *;have k0:=(w0 0 (by omega)).trans g0;have k1:=(w0 1 (by omega)).trans g1;have k2:=(w0 2 (by omega)).trans g2;have k3:=(w0 3 (by omega)).trans g3;have k6:=(w0 6 (by omega)).trans g6;refine⟨g7,?_⟩;refine wnY @PE ?_;refine ir (λy=>if y=0\/y=3\/y=6 then H2 y else none) rfl (λy cs h=>by dsimp only at h;split at h;exact h;cases h) ?_;have S0:(λy=>if y=0\/y=3\/y=6 then H2 y else none) 0=_:=k0;have S3:(λy=>if y=0\/y=3\/y=6 then H2 y else none) 3=_:=k3;have S6:(λy=>if y=0\/y=3\/y=6 then H2 y else none) 6=_:=k6
  have hSub:∀H',H' 0=H2 0->H' 3=H2 3->H' 6=H2 6->Sub (λy=>if y=0\/y=3\/y=6 then H2 y else none) H':=λH' e0 e3 e6 y cs h=>by
   dsimp only at h;split at h
   ·rename_i e;rcases e with rfl|rfl|rfl
    ·rwa [e0]
    ·rwa [e3]
    ·rwa [e6]
   ·cases h
  generalize (λy=>if y=0\/y=3\/y=6 then H2 y else none)=S at *;refine wnY (zI6 @PE @SV3 @S0 @S3 @S6 @ixc) ?_;refine eh ?_;refine n8 ev0 ev0 hcl2 (af (Dat.snap (kW _)) aj) ?_;refine jg ?_;refine⟨hSub _ rfl rfl rfl,?_⟩
  skip
  refine eh ?_;refine a7 ev0 ev0 (hpc _ _ hBd2 (by omega) (by omega) (by omega) (λb h=>by have:=hV b h;omega)) ?_;rintro r H3 n3 ⟨hrP,hn3,VS2,hBd3,hVB,hrb,hFr⟩;refine jg ?_;have nV:∀y,y<8->bd VS≠some y:=λy hy h=>by have:=hV y h;omega
  have f3:∀y,y<n1->y≠5->y≠4->bd VS≠some y->H3 y=H2 y:=λy a b c d=>hFr y a b c d;refine⟨hSub _ (f3 0 (by omega) (by omega) (by omega) (nV 0 (by omega))) (f3 3 (by omega) (by omega) (by omega) (nV 3 (by omega))) (f3 6 (by omega) (by omega) (by omega) (nV 6 (by omega))),?_⟩;obtain⟨o1,o2⟩:=hrP.one;refine wnY (zI8 @PE @SV3 @S0 @S3 @S6 @ixc @o1 @o2) ?_;refine eh ?_;refine wnY (zI8 @PE @SV3 @S0 @S3 @S6 @ixc @o1 @o2) ?_
  have hrow3:Row H3 3 EX (cL gJ B.execs):=hrow2.same λb h=>by
   have:=hE b h;exact f3 b (by omega) (by omega) (by omega) (λh'=>(hV b h').2.2 h)
  refine⟨hSub _ (by rw[ab (by omega)];exact f3 0 (by omega) (by omega) (by omega) (nV 0 (by omega))) (by rw[ab (by omega)];exact f3 3 (by omega) (by omega) (by omega) (nV 3 (by omega))) (by rw[ab (by omega)];exact f3 6 (by omega) (by omega) (by omega) (nV 6 (by omega))),?_⟩;have zz:=aI @PE (aI @SV3 (aI @S0 (aI @S3 (aI @S6 (aI @ixc (aI @o1 @o2))))));repeat' (first|apply a_n|refine zO ?_|apply ga|fail)
  have hcl3:=Ey B.execs;refine d7 (k:=1) (sv:=EX) (xv:=.msl n3 3 3 0 1) (cs:=cL gJ B.execs) (new:=[.int .i64 c,bS w,r]) rfl ev0 (hrow3.same λb h=>ab (by have:=hE b h;omega)) ev0 (co rfl) (by simp only[SO,PE,o1,Bool.and_self]) rfl (by omega) (by omega) (by omega) ?_;rintro s4 H4 n4 r1 r2 r3 r4 r5;have nE:∀y,y<8->bd EX≠some y:=λy hy h=>by have:=hE y h;omega
  have fx:∀y,y<n3->bd EX≠some y->H4 y=H3 y:=λy h1 h2=>by rw[r4 y (by omega) h2,ab (by omega)]
  have fy:∀y,y<8->y≠5->y≠4->H4 y=H2 y:=λy a b c=>(fx y (by omega) (nE y a)).trans (f3 y (by omega) b c (nV y a));have q3:=(fy 3 (by omega) (by omega) (by omega)).trans k3;obtain⟨o5,o6⟩:=r1.one;clear zz;have zz:=aI @PE (aI @SV3 (aI @S0 (aI @S3 (aI @S6 (aI @q3 (aI @o5 @o6))))));repeat' (first|apply a_n|refine zO ?_|refine nvY ?_|apply ga|refine stY ?_|fail)
  have hPl2:rows.length=p.rounds.toNat+1/\V2.length<=8000:=by
   have h1:=hPl.1;have h2:=hPl.2.2;have h3:(p.rounds.toNat+1)*p.task.n.toNat<=7*5:=Nat.mul_le_mul (by omega) (by omega);exact⟨h1,by omega⟩
  have hvl:=hBd3.r.lenS (t8 V2) (by omega)
  obtain ⟨b2,ln,rfl,hb2,hl2⟩:=uY hrP (fun e=>by
   have:=congrArg List.length e;rw[bD,hPl2.1] at this;cases this)
  have hbb:=hrb b2 rfl
  have hs4:∀b,bd s4=some b->8<=b/\b<n4/\b≠b2/\(bd EX=some b\/n3<=b):=λb h=>by
   rcases r5 b h with h|h
   ·have:=hE b h;exact⟨this.1,by omega,by omega,.inl h⟩
   ·omega
  have hr4:∀cs,Row (ar H4 3 cs) 3 s4 ((cL gJ B.execs++[.int .i64 c,bS w])++[.msl b2 ln 1 0 ln]):=λcs=>by
   rw[gM];exact r1.same λb h=>ab (by have:=hs4 b h;omega)
  have hb4:∀cs,ar H4 3 cs b2=some (rows.map aH):=λcs=>by
   rw[ab (by omega),fx b2 (by omega) (λh=>by have:=hE b2 h;omega)];exact hb2
  obtain⟨H5,hfz,hr5,hs5⟩:=fe (x':=bi rows) (hr4 _) (hb4 _) (Row.snapV (Row.box1 eO hl2)) (λe=>(hs4 b2 e).2.2.1 rfl);refine jw ?_;refine qu _ H5 [(8,.ptr 6 1 0)] hfz (eN (by simp (disch:=omega) only[agr,ZG,reduceEqDiff,↓reduceIte,dJ,hZ])) ?_;have h5:∀y,y≠b2->bd s4≠some y->H5 y=_:=λy h1 h2=>hs5 y h1 h2;have n4':∀y,y<8->bd s4≠some y:=λy hy h=>by have:=hs4 y h;omega
  have fB:∀y,y<n3->bd EX≠some y->y≠3->y≠b2->H5 y=H3 y:=λy h1 h2 h3 h4=>by
   rw [h5 y h4 (fun h=>by
    rcases(hs4 y h).2.2.2 with h|h
    ·exact h2 h
    ·omega),ab h3,fx y h1 h2]
  have m:∀y,y<8->y≠3->y≠5->y≠4->H5 y=H2 y:=λy a b c d=>(fB y (by omega) (nE y a) b (by omega)).trans (f3 y (by omega) c d (nV y a));have m6:=(m 6 (by omega) (by omega) (by omega) (by omega)).trans k6;have m5:=(fB 5 (by omega) (nE 5 (by omega)) (by omega) (by omega)).trans hBd3.b;have m4:=(fB 4 (by omega) (nE 4 (by omega)) (by omega) (by omega)).trans hBd3.m;have m3:H5 3=_:=(h5 3 (by omega) (n4' 3 (by omega))).trans ac
  have hVE:∀b,bd VS2=some b->bd EX≠some b:=λb h h'=>by
   have h1:=hE b h';rcases(hVB b h).2.2.2 with h2|h2
   ·exact(hV b h2).2.2 h'
   ·omega
  obtain⟨o7,o8⟩:=hBd3.r.one;refine wnY (zI7 @PE @SV3 @m6 @m5 @hvl @o7 @o8) ?_;refine⟨rfl,VS2,s4,by omega,?_,?_,?_,?_,?_,ac,?_,?_,λb h=>?_,λb h=>?_⟩
  ·rw[ab (by omega),m 0 (by omega) (by omega) (by omega) (by omega)];exact k0
  ·rw[ab (by omega),m 1 (by omega) (by omega) (by omega) (by omega)];exact k1
  ·rw[ab (by omega),m 2 (by omega) (by omega) (by omega) (by omega)];exact k2
  ·rw[ab (by omega),m3];rfl
  ·rw[ab (by omega)];exact m6
  ·rw[hsD];refine⟨(ab (by omega)).trans m5,hBd3.r.same λb h=>?_,(ab (by omega)).trans m4⟩;have h1:=hVB b h
   have h2:8<=b:=by
    rcases h1.2.2.2 with h2|h2
    ·exact(hV b h2).1
    ·omega
   rw[ab (by omega)];exact fB b h1.1 (hVE b h) (by omega) (λe=>hbb.2.2 (e▸h))
  ·rw[hsD];show Row _ 3 s4 (cL gJ (B.execs++[_]));rw[iX,tV];show Row _ 3 s4 (cL gJ B.execs++[.int .i64 (c:Int),bS w,bi rows]);rw[gM] at hr5;exact hr5.same λb h=>ab (by have:=hs4 b h;omega)
  ·have:=hs4 b h;omega
  ·have h1:=hVB b h
   have h2:8<=b:=by
    rcases h1.2.2.2 with h2|h2
    ·exact(hV b h2).1
    ·omega
   refine⟨h2,by omega,λh'=>?_⟩;rcases(hs4 b h').2.2.2 with h3|h3
   ·exact hVE b h h3
   ·omega
theorem Ek(l:List VwV)(hl:l.length<=1000000):pU 58 [dE l,dE l] (.bool true):=by
 refine pO OT ?_;simp only[b58,aw];have z:decide ((l.length:Int)≠l.length)=false:=bK (λh=>h rfl);refine wnY (aI @PE @z) ?_;refine fS (X:=Nat) (λk=>[(0,dE l),(1,dE l),(12,.int .i64 l.length),(13,.int .i64 k)]) (λk=>k<=l.length) (λk=>l.length-k) 0 (bz _) ag0 ?_;rintro k h1;by_cases hk:k<l.length
 rotate_left
 ·obtain rfl:k=l.length:=by omega
  refine wnY and_self ?_;exact .bool _
 have ix:=ixW hk;rw[PC.2.2.2.2.2.1] at ix;have hd:=OW (l.getD k default);refine wnY (zI3 @PE @ix @hd) ?_;exact⟨k+1,by omega,by omega,ag0,rfl,rfl⟩
theorem Dk(l:List RndV)(hl:l.length<=1000000):pU 93 [bS l,bS l] (.bool true):=by
 refine pO Pu ?_;simp only[b93,aw];have z:decide ((l.length:Int)≠l.length)=false:=bK (λh=>h rfl);refine wnY (aI @PE @z) ?_;refine fS (X:=Nat) (λk=>[(0,bS l),(1,bS l),(12,.int .i64 l.length),(13,.int .i64 k)]) (λk=>k<=l.length) (λk=>l.length-k) 0 (bz _) ag0 ?_;rintro k h1;by_cases hk:k<l.length
 rotate_left
 ·obtain rfl:k=l.length:=by omega
  refine wnY and_self ?_;exact .bool _
 have ix:=ixR hk;rw[PC.1] at ix;have hd:=O7 (l.getD k default);refine wnY (zI3 @PE @ix @hd) ?_;exact⟨k+1,by omega,by omega,ag0,rfl,rfl⟩
theorem C8(x:List (List Int))(hx:x.length<=1000000)(hxs:∀v∈x,v.length<=1000000):pU 94 [bi x,bi x,.func 95 []] (.bool true):=by
 refine pO OI ?_;simp only[b94,aw];have z:decide ((x.length:Int)≠x.length)=false:=bK (λh=>h rfl);refine wnY @z ?_;refine fS (X:=Nat) (λk=>[(0,bi x),(1,bi x),(2,.func 95 []),(15,bi x),(16,.int .i64 x.length),(17,.int .i64 k)]) (λk=>k<=x.length) (λk=>x.length-k) 0 (bz _) ag0 ?_;rintro k h1;by_cases hk:k<x.length
 rotate_left
 ·obtain rfl:k=x.length:=by omega
  refine wnY and_self ?_;exact .bool _
 have hc:=Tk.equalV_c (x.getD k default) (x.getD k default) (by have:=hxs _ (au hk);show _<=_;omega) (by have:=hxs _ (au hk);show _<=_;omega);rw[bG rfl] at hc;refine wnY and_self ?_;exact⟨k+1,by omega,by omega,ag0,rfl,rfl⟩
theorem KG(x:ExV)(h:ShE x):pU 60 [gJ x,gJ x] (.bool true):=by
 refine pO O5 ?_;simp only[b60,aw];have h1:=Dk x.word h.1;have h2:=C8 x.views h.2.1 h.2.2;unfold gJ;rw[PC.2.2.2.2.2.2.1];have z:decide (x.case=x.case)=true:=bG rfl;refine wnY (aI @PE @z) ?_;exact .bool _
theorem C0(l:List ExV)(hl:l.length<=1000000)(h:∀x∈l,ShE x):pU 59 [ef l,ef l,.func 60 []] (.bool true):=by
 refine pO PH ?_;simp only[b59,aw];have z:decide ((l.length:Int)≠l.length)=false:=bK (λh=>h rfl);refine wnY (aI @PE @z) ?_;refine bj (X:=Nat) (λk=>[(0,ef l),(1,ef l),(2,.func 60 []),(15,ef l),(16,.int .i64 l.length),(17,.int .i64 k)]) (λk _ _=>k<=l.length) (λk=>l.length-k) 0 (bz _) ag0 ?_;rintro k H nx h1;by_cases hk:k<l.length
 rotate_left
 ·obtain rfl:k=l.length:=by omega
  refine wnY and_self ?_;exact .bool _
 have ix:=ixE hk;have hc:=KG (l.getD k default) (h _ (au hk));have hd:=po (l.getD k default);unfold gJ at hc hd;rw[PC.2.2.2.2.2.2.1] at ix hc hd;refine wnY (aI @PE @ix) ?_;exact⟨k+1,by omega,by omega,ag0⟩
theorem uv(p:PrbV)(h:OkP p):pU 33 [fq (bw p)] (.int .i64 0):=by
 refine pO PK ?_;simp only[b33,aw];have hb:=yC p h;obtain⟨hvl,hel,hE⟩:=Jg p h;have h1:=Ek (bldS p p.task.cases.length).views hvl;have h2:=C0 (bldS p p.task.cases.length).execs hel hE;have hd:=eZ p;have z:decide (p.task.n≠p.task.n)=false:=bK (λh=>h rfl);rw[show fq (bw p)=.agg (bw p).cs from rfl,PC.2.2.2.2.2.2.2] at hb |-;unfold cI at hb hd;rw[PC.2.2.2.2.1] at hb hd;dsimp only[bw] at hb |-;refine wnY (aI @PE @z) ?_;exact .int _ _
theorem IZ(p:PrbV)(h:OkP p):pU 37 [fq (bw p)] (.tup [.iptr [.int .i64 p.task.n,bi ((bw p).execs.map gH)] 0,.int .i64 0]):=by
 refine pO OX ?_;simp only[b37,aw];have hv:=uv p h;obtain⟨s1,s2,s3,s4⟩:=jv p h;obtain⟨hck,-,-,-,r6⟩:=eJ h.e0;obtain⟨-,n5,-,-⟩:=dg hck;have hd:=ea (bw p);have hpt:(bw p).prob=p:=rfl;rw[show fq (bw p)=.agg (bw p).cs from rfl,PC.2.2.2.2.2.2.2,hpt] at hv hd |-;generalize (bw p).execs=xs at *;generalize (bw p).views=vs at *;refine wnY @PE ?_
 refine rQ (X:=Nat×AV) (λx=>[(1,.ptr 0 10 0),(5,.ptr 1 2 0),(24,ef xs),(25,.int .i64 xs.length),(26,.int .i64 x.1)]) (λx H nx=>x.1<=xs.length/\2<=nx/\H 1=some [.int .i64 p.task.n,x.2]/\Row H 1 x.2 (((xs.take x.1).map gH).map aH)/\∀b,bd x.2=some b->2<=b/\b<nx) (λx=>xs.length-x.1) (0,.esl)
  ⟨bM,_,Fz.none,⟨bz _,by omega,by simp (disch:=omega) only[ab,ac],.nil,λb h=>(by cases h)⟩,eN (by simp (disch:=omega) only[agr,ZG,reduceEqDiff,↓reduceIte,SL])⟩ ?_
 rintro⟨k,ro⟩ H nx ⟨hk,hnx,g1,hrow,hb⟩;dsimp only at hk g1 hrow hb |-;obtain⟨o1,o2⟩:=hrow.one;by_cases hk2:k<xs.length
 rotate_left
 ·obtain rfl:k=xs.length:=by omega
  rw[List.take_length] at hrow;refine wnY (zI4 @PE @g1 @o1 @o2) ?_;exact cQ (af (dF g1 rfl (af (.int _ _) (af (Row.snapV hrow) aj))) (af (.int _ _) aj))
 have ix:=ixE hk2;have hx:=s4 _ (au hk2);have htk:=cu hk2;have hmt:(xs.take (k+1)).map gH=(xs.take k).map gH++[gH (xs.getD k default)]:=by rw[htk,dq];rfl
 generalize xs.getD k default=x at *;obtain⟨l1,l2⟩:=hx.last;have l3:(dY x).length<=5:=by omega
 have vl7:x.views.length<=7:=by have:=hx.vl;omega
 have vl1:1<=x.views.length:=by have:=hx.vl;omega
 have wl6:x.word.length<=6:=by have:=hx.wl;omega
 obtain⟨f1,f2⟩:=hx.flt;have ixl:=IG x.views (by have:=hx.vl;omega);have hfl:∀w:List RndV,x.word=w->iE x=if w.length=0 then 0 else(w.getD (w.length-1) default).f:=λw e=>by rw[<-e];rfl
 have hlast:x.views.getD (x.views.length-1) []=dY x:=rfl;rw[hlast] at ixl;rw[PC.2.2.2.2.2.2.1] at ix;generalize hw:x.word=w at *;generalize hvw:x.views=vw at *;have hfw:=hfl w rfl;have hshr:=λtb tf q=>qM tb tf (iE x) q;have hand:=λtb tf q=>pB tb tf (j8 (iE x) q);have hbit:=λq=>Af (f:=iE x) (p:=q) f1;have hsucc:=λq=>C5 (x:=x) (q:=q);have hfl0:=JD x;have hfn:og x (dY x).length=gH x:=rfl;have hfln:=ng x;generalize dY x=last at *;generalize og x=A at *;generalize iE x=F at *;rcases wZ w.length with hw0|hw0
 ·rw[if_pos hw0] at hfw;refine wnY (zI3 @PE @ix @ixl) ?_;refine bj (X:=Nat) (λq=>[(1,.ptr 0 10 0),(5,.ptr 1 2 0),(24,ef xs),(25,.int .i64 xs.length),(26,.int .i64 k),(8,.int .i64 F),(10,.msl (nx+1) last.length 1 0 last.length),(52,.int .i64 last.length),(53,.int .i64 q)]) (λq H' n'=>q<=last.length/\n'=nx+2/\H' (nx+1)=some ((A q).map (AV.int .i64))/\∀y,y<nx->H' y=H y) (λq=>last.length-q) 0 ⟨bz _,rfl,by rw[hfl0];simp (disch:=omega) only[ab,ac],λy hy=>by simp (disch:=omega) only[ab]⟩ (by rw[hfw];simp (disch:=omega) only[agr,ZG,reduceEqDiff,↓reduceIte,SL]) ?_;rintro q H1 n1 ⟨q1,rfl,gA,fr⟩;have hAl:=hfln q;by_cases hq:q<last.length
  ·have hs:=hsucc q hq;have hsh:=λtb tf=>hshr tb tf q;have ha1:=λtb tf=>hand tb tf q;have hbt:=hbit q (by omega)
   have hix:cA 1 (.msl (nx+1) last.length 1 0 last.length) (.int .i64 (q:Int))=some (.ptr (nx+1) last.length q):=by
    rw[fT,if_pos ⟨by omega,by omega⟩,bQ,cp,Nat.mul_one]
   generalize j8 F q=sn at *;generalize pK sn=an at *;cases hb:hasFl F q with
   |false=>
    rw[hb] at hbt hs;rw[if_neg (by decide)] at hs;refine wnY (zI4 @PE @hsh @ha1 @hbt) ?_;exact⟨q+1,by omega,⟨by omega,rfl,by rw[hs];exact gA,fr⟩,ag0⟩
   |true=>
    rw[hb] at hbt hs;rw[if_pos rfl] at hs;have hml:((A q).map (AV.int .i64)).length=last.length:=by rw[bD,hAl]
    have hpt:bE ((A q).map (AV.int .i64)) q [.int .i64 (-1)]=(A (q+1)).map (AV.int .i64):=by
     rw[hs,fK (by omega),ja]
    generalize (A q).map (AV.int .i64)=L at *;refine wnY (zI5 @PE @hsh @ha1 @hbt @hix) ?_;refine lm (b:=nx+1) (n:=last.length) (off:=q) (cs:=L) (vs:=[.int .i64 (-1)]) rfl ev0 ev0 gA rfl rfl hml rfl (by omega) ?_;rw[hpt];refine wnY and_self ?_;exact⟨q+1,by omega,⟨by omega,rfl,ac,λy hy=>by rw[ab (by omega)];exact fr y hy⟩,ag0⟩
  obtain rfl:q=last.length:=by omega
  rw[hfn] at gA hAl;have g1':=(fr 1 (by omega)).trans g1;have hrow':Row H1 1 ro (((xs.take k).map gH).map aH):=hrow.same λb h=>fr b (by have:=hb b h;omega);have hrl:(((xs.take k).map gH).map aH).length<=60:=by rw[bD,bD,jt];omega
  refine wnY (zI5 @PE @SV3 @g1' @o1 @o2) ?_;refine d7 (k:=1) (sv:=ro) (cs:=((xs.take k).map gH).map aH) (new:=[.msl (nx+1) last.length 1 0 last.length]) rfl ev0 (hrow'.same λb h=>ab (by have:=hb b h;omega)) ev0 (co rfl) rfl rfl g8 (by omega) (by omega) ?_;rintro r2 H3 n3 r1 r2' r3 r4 r5;have fx:∀y,y<nx+2->bd ro≠some y->H3 y=H1 y:=λy h1 h2=>by rw[r4 y (by omega) h2,ab (by omega)]
  have nro:∀y,y<2\/nx<=y->bd ro≠some y:=λy hy h=>by have:=hb y h;omega
  have q1':=(fx 1 (by omega) (nro 1 (by omega))).trans g1';obtain⟨o5,o6⟩:=r1.one;refine wnY (zI5 @PE @SV3 @q1' @o5 @o6) ?_
  have hs3:∀b,bd r2=some b->2<=b/\b<n3/\b≠nx+1:=λb h=>by
   rcases r5 b h with h|h
   ·have:=hb b h;omega
   ·omega
  have hr3:∀cs,Row (ar H3 1 cs) 1 r2 (((xs.take k).map gH).map aH++[.msl (nx+1) last.length 1 0 last.length]):=λcs=>r1.same λb h=>ab (by have:=hs3 b h;omega)
  have hb3:∀cs,ar H3 1 cs (nx+1)=some ((gH x).map (AV.int .i64)):=λcs=>by
   rw[ab (by omega),fx _ (by omega) (nro _ (by omega))];exact gA
  obtain⟨H5,hfz,hr5,hs5⟩:=fe (x':=aH (gH x)) (hr3 _) (hb3 _) (Row.snapI (Row.box1 eO (by rw[bD,hAl]))) (λe=>(hs3 _ e).2.2 rfl);refine⟨(k+1,r2),by dsimp only;omega,_,H5,hfz,⟨by dsimp only;omega,by omega,?_,?_,λb h=>⟨(hs3 b h).1,(hs3 b h).2.1⟩⟩,eN ag0⟩
  ·rw[hs5 1 (by omega) (λh=>by have:=hs3 1 h;omega),ac];rfl
  ·dsimp only;rw[hmt,dq];exact hr5
 ·rw[if_neg (by omega)] at hfw
  have ixw:cA 7 (bS w) (.int .i64 ((w.length:Int)-1))=some (.iptr (w.getD (w.length-1) default).cs 0):=by
   rw[show((w.length:Int)-1)=((w.length-1:Nat):Int) by omega];exact ixR (by omega)
  rw[PC.1] at ixw;refine wnY (zI4 @PE @ix @ixl @ixw) ?_;refine bj (X:=Nat) (λq=>[(1,.ptr 0 10 0),(5,.ptr 1 2 0),(24,ef xs),(25,.int .i64 xs.length),(26,.int .i64 k),(8,.int .i64 F),(10,.msl (nx+1) last.length 1 0 last.length),(52,.int .i64 last.length),(53,.int .i64 q)]) (λq H' n'=>q<=last.length/\n'=nx+2/\H' (nx+1)=some ((A q).map (AV.int .i64))/\∀y,y<nx->H' y=H y) (λq=>last.length-q) 0 ⟨bz _,rfl,by rw[hfl0];simp (disch:=omega) only[ab,ac],λy hy=>by simp (disch:=omega) only[ab]⟩ (by rw[hfw];simp (disch:=omega) only[agr,ZG,reduceEqDiff,↓reduceIte,SL]) ?_;rintro q H1 n1 ⟨q1,rfl,gA,fr⟩;have hAl:=hfln q;by_cases hq:q<last.length
  ·have hs:=hsucc q hq;have hsh:=λtb tf=>hshr tb tf q;have ha1:=λtb tf=>hand tb tf q;have hbt:=hbit q (by omega)
   have hix:cA 1 (.msl (nx+1) last.length 1 0 last.length) (.int .i64 (q:Int))=some (.ptr (nx+1) last.length q):=by
    rw[fT,if_pos ⟨by omega,by omega⟩,bQ,cp,Nat.mul_one]
   generalize j8 F q=sn at *;generalize pK sn=an at *;cases hb:hasFl F q with
   |false=>
    rw[hb] at hbt hs;rw[if_neg (by decide)] at hs;refine wnY (zI4 @PE @hsh @ha1 @hbt) ?_;exact⟨q+1,by omega,⟨by omega,rfl,by rw[hs];exact gA,fr⟩,ag0⟩
   |true=>
    rw[hb] at hbt hs;rw[if_pos rfl] at hs;have hml:((A q).map (AV.int .i64)).length=last.length:=by rw[bD,hAl]
    have hpt:bE ((A q).map (AV.int .i64)) q [.int .i64 (-1)]=(A (q+1)).map (AV.int .i64):=by
     rw[hs,fK (by omega),ja]
    generalize (A q).map (AV.int .i64)=L at *;refine wnY (zI5 @PE @hsh @ha1 @hbt @hix) ?_;refine lm (b:=nx+1) (n:=last.length) (off:=q) (cs:=L) (vs:=[.int .i64 (-1)]) rfl ev0 ev0 gA rfl rfl hml rfl (by omega) ?_;rw[hpt];refine wnY and_self ?_;exact⟨q+1,by omega,⟨by omega,rfl,ac,λy hy=>by rw[ab (by omega)];exact fr y hy⟩,ag0⟩
  obtain rfl:q=last.length:=by omega
  rw[hfn] at gA hAl;have g1':=(fr 1 (by omega)).trans g1;have hrow':Row H1 1 ro (((xs.take k).map gH).map aH):=hrow.same λb h=>fr b (by have:=hb b h;omega);have hrl:(((xs.take k).map gH).map aH).length<=60:=by rw[bD,bD,jt];omega
  refine wnY (zI5 @PE @SV3 @g1' @o1 @o2) ?_;refine d7 (k:=1) (sv:=ro) (cs:=((xs.take k).map gH).map aH) (new:=[.msl (nx+1) last.length 1 0 last.length]) rfl ev0 (hrow'.same λb h=>ab (by have:=hb b h;omega)) ev0 (co rfl) rfl rfl g8 (by omega) (by omega) ?_;rintro r2 H3 n3 r1 r2' r3 r4 r5;have fx:∀y,y<nx+2->bd ro≠some y->H3 y=H1 y:=λy h1 h2=>by rw[r4 y (by omega) h2,ab (by omega)]
  have nro:∀y,y<2\/nx<=y->bd ro≠some y:=λy hy h=>by have:=hb y h;omega
  have q1':=(fx 1 (by omega) (nro 1 (by omega))).trans g1';obtain⟨o5,o6⟩:=r1.one;refine wnY (zI5 @PE @SV3 @q1' @o5 @o6) ?_
  have hs3:∀b,bd r2=some b->2<=b/\b<n3/\b≠nx+1:=λb h=>by
   rcases r5 b h with h|h
   ·have:=hb b h;omega
   ·omega
  have hr3:∀cs,Row (ar H3 1 cs) 1 r2 (((xs.take k).map gH).map aH++[.msl (nx+1) last.length 1 0 last.length]):=λcs=>r1.same λb h=>ab (by have:=hs3 b h;omega)
  have hb3:∀cs,ar H3 1 cs (nx+1)=some ((gH x).map (AV.int .i64)):=λcs=>by
   rw[ab (by omega),fx _ (by omega) (nro _ (by omega))];exact gA
  obtain⟨H5,hfz,hr5,hs5⟩:=fe (x':=aH (gH x)) (hr3 _) (hb3 _) (Row.snapI (Row.box1 eO (by rw[bD,hAl]))) (λe=>(hs3 _ e).2.2 rfl);refine⟨(k+1,r2),by dsimp only;omega,_,H5,hfz,⟨by dsimp only;omega,by omega,?_,?_,λb h=>⟨(hs3 b h).1,(hs3 b h).2.1⟩⟩,eN ag0⟩
  ·rw[hs5 1 (by omega) (λh=>by have:=hs3 1 h;omega),ac];rfl
  ·dsimp only;rw[hmt,dq];exact hr5
theorem r7{n R:Nat}(x:ExV)(hx:XOk n R x)(hn:n<=5)(hR:R<=6):pU 52 [gJ x] (aG (fG x)):=by
 refine pO PU ?_;simp only[b52,aw];obtain⟨l1,l2⟩:=hx.last;have vl7:x.views.length<=7:=by have:=hx.vl;omega
 have vl1:1<=x.views.length:=by have:=hx.vl;omega
 have wl6:x.word.length<=6:=by have:=hx.wl;omega
 have l3:(dY x).length<=5:=by omega
 obtain⟨f1,f2⟩:=hx.flt;have ixl:=IG x.views (by have:=hx.vl;omega);have hfl:∀w:List RndV,x.word=w->iE x=if w.length=0 then 0 else(w.getD (w.length-1) default).f:=λw e=>by rw[<-e];rfl
 have hlast:x.views.getD (x.views.length-1) []=dY x:=rfl;rw[hlast] at ixl;have hshr:=λtb tf q=>qM tb tf (iE x) q;have hand:=λtb tf q=>pB tb tf (j8 (iE x) q);have hbit:=λq=>EE (f:=iE x) (p:=q) f1;have hsucc:=λq=>nX x q;have hsl:=qs x;have h00:sE x 0=[]:=rfl;have hfin:sE x (dY x).length=fG x:=rfl;unfold gJ;rw[PC.2.2.2.2.2.2.1];generalize hw:x.word=w at *;generalize hvw:x.views=vw at *;have hfw:=hfl w rfl;generalize dY x=last at *;generalize sE x=A at *;generalize iE x=F at *;rcases wZ w.length with hw0|hw0
 ·rw[if_pos hw0] at hfw;refine wnY (aI @PE @ixl) ?_;refine bj (X:=Nat×AV) (λy=>[(1,.ptr 0 3 0),(3,.int .i64 F),(5,y.2),(27,aH last),(28,.int .i64 last.length),(29,.int .i64 y.1)]) (λy H n'=>y.1<=last.length/\1<=n'/\Row H 2 y.2 (cX (A y.1))/\∀b,bd y.2=some b->1<=b/\b<n') (λy=>last.length-y.1) (0,.esl) ⟨bz _,by omega,by rw[h00];exact .nil,λb h=>(by cases h)⟩ (by rw[hfw];simp (disch:=omega) only[agr,ZG,reduceEqDiff,↓reduceIte,SL]) ?_;rintro⟨q,ro⟩ H nx ⟨q1,hnx,hrow,hb⟩;dsimp only at q1 hrow hb |-;by_cases hq:q<last.length
  rotate_left
  ·obtain rfl:q=last.length:=by omega
   rw[hfin] at hrow;refine wnY @PE ?_;exact yB hrow
  have hs:=hsucc q;have hsh:=λtb tf=>hshr tb tf q;have ha1:=λtb tf=>hand tb tf q;have hbt:=hbit q (by omega);have hAl:=hsl q;have hcl:=lV (A q)
  have ixq:cA 1 (aH last) (.int .i64 (q:Int))=some (.iptr [.int .i64 (last.getD q 0)] 0):=by
   have:=mg (l:=last) (n:=(q:Int)) (by omega) (by omega)
   rwa [bQ] at this
  generalize j8 F q=sn at *;generalize pK sn=an at *;cases hbb:hasFl F q with
  |true=>
   rw[hbb] at hbt hs;rw[if_pos rfl] at hs;refine wnY (zI5 @PE @hsh @ha1 @hbt @ixq) ?_;exact⟨(q+1,ro),by dsimp only;omega,⟨by dsimp only;omega,by omega,by dsimp only;rw[hs];exact hrow,hb⟩,ag0⟩
  |false=>
   rw[hbb] at hbt hs;rw[if_neg (by decide)] at hs;refine wnY (zI5 @PE @hsh @ha1 @hbt @ixq) ?_;refine d7 (k:=1) (sv:=ro) (cs:=cX (A q)) (new:=[.int .i64 q,.int .i64 (last.getD q 0)]) rfl ev0 (hrow.same λb h=>ab (by have:=hb b h;omega)) ev0 (co rfl) rfl rfl (by omega) (by omega) (by omega) ?_;rintro r2 H3 n3 r1 r2' r3 r4 r5;refine wnY @PE ?_;refine⟨(q+1,r2),by dsimp only;omega,⟨by dsimp only;omega,by omega,?_,λb h=>?_⟩,ag0⟩
   ·dsimp only;rw[hs,kP];exact r1
   ·rcases r5 b h with h|h
    ·have:=hb b h;omega
    ·omega
 ·rw[if_neg (by omega)] at hfw
  have ixw:cA 7 (bS w) (.int .i64 ((w.length:Int)-1))=some (.iptr (w.getD (w.length-1) default).cs 0):=by
   rw[show((w.length:Int)-1)=((w.length-1:Nat):Int) by omega];exact ixR (by omega)
  rw[PC.1] at ixw;refine wnY (zI3 @PE @ixl @ixw) ?_;refine bj (X:=Nat×AV) (λy=>[(1,.ptr 0 3 0),(3,.int .i64 F),(5,y.2),(27,aH last),(28,.int .i64 last.length),(29,.int .i64 y.1)]) (λy H n'=>y.1<=last.length/\1<=n'/\Row H 2 y.2 (cX (A y.1))/\∀b,bd y.2=some b->1<=b/\b<n') (λy=>last.length-y.1) (0,.esl) ⟨bz _,by omega,by rw[h00];exact .nil,λb h=>(by cases h)⟩ (by rw[hfw];simp (disch:=omega) only[agr,ZG,reduceEqDiff,↓reduceIte,SL]) ?_;rintro⟨q,ro⟩ H nx ⟨q1,hnx,hrow,hb⟩;dsimp only at q1 hrow hb |-;by_cases hq:q<last.length
  rotate_left
  ·obtain rfl:q=last.length:=by omega
   rw[hfin] at hrow;refine wnY @PE ?_;exact yB hrow
  have hs:=hsucc q;have hsh:=λtb tf=>hshr tb tf q;have ha1:=λtb tf=>hand tb tf q;have hbt:=hbit q (by omega);have hAl:=hsl q;have hcl:=lV (A q)
  have ixq:cA 1 (aH last) (.int .i64 (q:Int))=some (.iptr [.int .i64 (last.getD q 0)] 0):=by
   have:=mg (l:=last) (n:=(q:Int)) (by omega) (by omega)
   rwa [bQ] at this
  generalize j8 F q=sn at *;generalize pK sn=an at *;cases hbb:hasFl F q with
  |true=>
   rw[hbb] at hbt hs;rw[if_pos rfl] at hs;refine wnY (zI5 @PE @hsh @ha1 @hbt @ixq) ?_;exact⟨(q+1,ro),by dsimp only;omega,⟨by dsimp only;omega,by omega,by dsimp only;rw[hs];exact hrow,hb⟩,ag0⟩
  |false=>
   rw[hbb] at hbt hs;rw[if_neg (by decide)] at hs;refine wnY (zI5 @PE @hsh @ha1 @hbt @ixq) ?_;refine d7 (k:=1) (sv:=ro) (cs:=cX (A q)) (new:=[.int .i64 q,.int .i64 (last.getD q 0)]) rfl ev0 (hrow.same λb h=>ab (by have:=hb b h;omega)) ev0 (co rfl) rfl rfl (by omega) (by omega) (by omega) ?_;rintro r2 H3 n3 r1 r2' r3 r4 r5;refine wnY @PE ?_;refine⟨(q+1,r2),by dsimp only;omega,⟨by dsimp only;omega,by omega,?_,λb h=>?_⟩,ag0⟩
   ·dsimp only;rw[hs,kP];exact r1
   ·rcases r5 b h with h|h
    ·have:=hb b h;omega
    ·omega
theorem DB(p:PrbV)(h:OkP p)(i:Nat)(hi:i<(bw p).execs.length):pU 26 [fq (bw p),.int .i64 i] (.tup [aG (fG ((bw p).execs.getD i default)),.int .i64 (if fG ((bw p).execs.getD i default)=[] then 16 else 0)]):=by
 refine pO Oo ?_;simp only[b26,aw];have hv:=uv p h;obtain⟨s1,s2,s3,s4⟩:=jv p h;obtain⟨hck,-,-,-,r6⟩:=eJ h.e0;obtain⟨-,n5,-,-⟩:=dg hck;have hd:=ea (bw p);rw[show fq (bw p)=.agg (bw p).cs from rfl,PC.2.2.2.2.2.2.2] at hv hd |-;generalize (bw p).execs=xs at *;generalize (bw p).views=vs at *;have ix:=ixE hi;have hx:=r7 _ (s4 _ (au hi)) (by omega) (by omega);have hdx:=po (xs.getD i default);unfold gJ at hx hdx;rw[PC.2.2.2.2.2.2.1] at ix hx hdx;have z1:decide ((i:Int)<0)=false:=bK (by omega);have z2:decide ((i:Int)≥(xs.length:Nat))=false:=bK (by omega);generalize fG (xs.getD i default)=l at *;by_cases hl:l=[]
 ·subst hl;have zz:=aI @PE (aI @ix (aI @z1 (aI @z2 (aI @aS (aI @bO @bH)))));repeat' (first|refine zW ?_|apply a_n|apply a_r|refine zO ?_|refine vY ?_|refine cY ?_ (hp:=by first|exact hv|exact hx)|refine bxY ?_|refine gTY ?_|refine cFY ?_|(refine zGY ?_ ?_<;>(intro _hg;try (exfalso;omega)))|refine bk rfl ?_|refine r2Y ?_|fail)
  ·rw[if_pos rfl];exact cQ (af (.eslsl 2) (af (.int _ _) aj))
  ·exact absurd rfl _hg
 ·have hl0:l.length≠0:=λe=>hl (eI.1 e);have z3:decide ((l.length:Int)=0)=false:=bK (by omega);rw[if_neg hl];refine wnY (zI8 @PE @ix @z1 @z2 @z3 @aS @bO @bH) ?_;exact cQ (af (Dat.snap (bT _)) (af (.int _ _) aj))
end
end Go.Proofs.YtmpcledaoigkaaaGreat
namespace Go.Proofs.YtmpcledaoigkaaaGreat
open Go Go.Abs
theorem Db{D:List Spx}{k:Nat}{v:Vtx}(hk:k<D.length)(hv:v∈D.getD k default):mh D D.length v≠[]:=λe=>by
 have:k∈mh D D.length v:=kd.2 ⟨gG.2 hk,bG hv⟩;rw[e] at this;cases this
theorem xU{l:List Spx}{p:Spx->Bool}{k:Nat}(hk:k<l.length):(l.take (k+1)).filter p=(l.take k).filter p++if p (l.getD k default)=true then [l.getD k default] else []:=by
 rw[cu hk,Dt];cases h:p (l.getD k default)
 ·rw[List.filter_cons_of_neg (by rw[h];decide),List.filter_nil,if_neg (by decide)]
 ·rw[List.filter_cons_of_pos h,List.filter_nil,if_pos rfl]
section
attribute [local irreducible] aE ai be aP aJ aK ay aL aR bn Go.Abs.Fn aO Go.Abs.Pure ak aD Yl
theorem K1:Cmp Tryz.prog aG dy (λs=>Shn s) 65 [] where
 cells _:=rfl
 one _:=rfl
 dat x:=bT x
 dcaps x hx:=by cases hx
 run x y hx hy:=jM x y hx hy
 ord:=BD.ord
theorem y9(l:List Spx)(hl:l.length<=100000)(hs:∀s∈l,fM eB s/\s.length<=1000/\s≠[]):pU 96 [bo l] (me (Io l)):=by
 refine pO Ph ?_;simp only[b96,aw];have hn:fv (bo l)=some l.length:=by unfold bo gq;simp[fv]
 refine wnY @aW ?_;refine a7 ev0 ev0 (Dj _ l (by omega) _ _ hn (λH' _=>Jl)) ?_;rintro r H1 nx1 ⟨c1,c2,c3,c4⟩;have hD:∀s∈kG dy l,fM eB s/\s.length<=1000/\s≠[]:=λs h=>hs s (pW.1 h);have hDl:(kG dy l).length<=100000:=gf zt hl;have g0:H1 0=some [.esl]:=(c3 0 (by omega)).trans ac
 have hsort:Abs.Fn Tryz.prog 87 [r,.func 65 []] H1 nx1 λ_ H' nx'=>nx1<=nx'/\H' 0=some [.esl]/\((l=[]/\dl r=some (.int .i64 0)/\∀H'',Snap H'' r (bo []))\/(l≠[]/\r=.msl 1 l.length 1 0 l.length/\2<=nx'/\∃L':List Spx,H' 1=some (L'.map aG)/\L'.Perm l/\bA dy 0 l.length L')):=by
  by_cases h0:l=[]
  ·rw[if_pos h0] at c4;refine Abs.Fn.mono (uM c4.1) ?_;rintro _ _ _ ⟨rfl,rfl⟩;exact⟨aZ _,g0,.inl ⟨h0,c4⟩⟩
  ·rw[if_neg h0] at c4;obtain⟨rfl,rfl,rfl⟩:=c4;have hpos:=vO.2 h0;refine Abs.Fn.mono (Ce K1 (L:=l) (b:=0+1) (n:=l.length) ac (by omega) rfl hpos (λs h=>show s.length<=_ by have:=(hs s h).2.1;omega) (by omega)) ?_;rintro _ H' nx' ⟨L',ps,p1,p2⟩;exact⟨ps.le,by rw[ps.fr 0 (by omega) (by omega)];exact g0,.inr ⟨h0,rfl,ps.le,L',ps.at_,p1,p2⟩⟩
 have hnx1:1<=nx1:=c2;clear c4;refine wnY and_self ?_;refine a7 ev0 ev0 hsort ?_;rintro _ H2 nx2 ⟨d1,g2,d3⟩
 have hcmp:Abs.Fn Tryz.prog 122 [r,.func 123 []] H2 nx2 λr' H' nx'=>nx2<=nx'/\∃Hf H3,Fz Hf H' H3/\Snap Hf r' (bo (kG dy l))/\H3 0=some [.esl]:=by
  rcases d3 with⟨h0,e1,e2⟩|⟨h0,rfl,e0,L',e1,e2,e3⟩
  ·refine Abs.Fn.mono (Bh e1) ?_;rintro _ _ _ ⟨rfl,rfl,rfl⟩;refine⟨aZ _,bM,_,Fz.none,?_,g2⟩;rw[h0];exact e2 _
  ·have hlen:=e2.length_eq;have hL0:L'≠[]:=λe=>by rw[e] at hlen;simp at hlen;exact h0 (eI.1 hlen.symm)
   rw[<-hlen];refine Abs.Fn.mono (zn L' (show _<=_ by omega) (λs h=>show s.length<=_ by have:=(hs s (e2.mem_iff.1 h)).2.1;omega) hL0 H2 1 nx2 e1 (by omega)) ?_;rintro _ _ _ ⟨rfl,⟨C,rfl,f1,f2⟩,rfl⟩;have hd:gX L' L'.length=kG dy l:=Ej BD e2 (by rw[hlen];exact e3);rw[hd] at f2;have hle:=FP L' L'.length;have hdl:=DY L' L'.length;rw[hd] at hdl;refine⟨aZ _,only 1 C,cl (ar H2 1 C) 1,Fz.one ac,?_,by rw[ca (by omega),ab (by omega)];exact g2⟩;refine mN (l:=(kG dy l).map aG) eO f1 (by omega) (by rw[bD];exact hdl) (λy hy=>?_) (λi a c ha hc=>?_)
   ·obtain⟨z,_,rfl⟩:=dK.1 hy;rfl
   ·rw[<-f2,jq] at hc;split at hc
    ·rw[cp,hc] at ha;cases ha
     have hm:a∈(kG dy l).map aG:=by
      rw[<-f2];exact iC (i:=i) (by rw[jq,if_pos (by assumption)];exact hc)
     obtain⟨z,_,rfl⟩:=dK.1 hm;exact bT _ _
    ·cases hc
 clear d3 hsort;refine wnY and_self ?_;refine a7 ev0 ev0 hcmp ?_;rintro r2 H3 nx3 ⟨f1,Hf,H4,hfz,hsn,g4⟩;have hmx:Io l=(kG dy l).filter λs=>!dU (kG dy l) s:=rfl;rw[hmx];have hasc:=tO BD l;generalize kG dy l=D at *
 repeat' (first|apply a_n|refine zO ?_|refine vY ?_|fail)
 refine jw ?_;refine qu Hf H4 [(0,bo D),(2,.ptr 0 1 0)] hfz ⟨.inr hsn,.inl rfl,trivial⟩ ?_;clear hfz hsn;refine wnY and_self ?_;refine a7 ev0 ev0 (rW D hDl (λs h=>⟨(hD s h).1,by have:=(hD s h).2.1;omega⟩) _ _) ?_;rintro _ H5 nx5 ⟨ks,vs,rfl,hinc,hsame,hlt⟩;have g5:H5 0=some [.esl]:=(hsame 0 (by omega)).trans g4;have hOk:OkS D:=⟨hDl,λs h=>⟨(hD s h).1,(hD s h).2.1⟩⟩
 refine wnY @aW ?_;refine lpI (X:=Nat×AV) (λx=>[(0,bo D),(2,.ptr 0 1 0),(3,.mp nx3),(4,.ptr nx5 1 0),(15,bo D),(16,.int .i64 D.length),(17,.int .i64 x.1)]) (λx H' nx'=>x.1<=D.length/\nx5<nx'/\(∀y,y<nx5->H' y=H5 y)/\H' nx5=some [x.2]/\Row H' 1 x.2 (((D.take x.1).filter λs=>!dU D s).map aG)/\∀B,bd x.2=some B->nx5<B/\B<nx') (λx=>D.length-x.1) (0,.esl) ⟨bz _,by omega,λy hy=>ab (by omega),ac,Row.nil,λB h=>(by cases h)⟩ ?_;rintro⟨k,sv⟩ H' nx' ⟨h1,hnx',hsm,gb,hrow,hbd⟩;dsimp only at h1 gb hrow hbd |-;by_cases hk:k<D.length
 rotate_left
 ·rw[ji (by omega)] at hrow;obtain⟨o1,o2⟩:=hrow.one;have g6:H' 0=some [.esl]:=(hsm 0 (by omega)).trans g5;refine wnY (zI4 @gb @g6 @o1 @o2) ?_;exact fV (af (pj (hrow.same λB hB=>ab (by have:=hbd B hB;omega))) aj)
 have ix:=o0 hk;have hDk:=hD _ (cP hk);have hpos:0<(D.getD k default).length:=vO.2 hDk.2.2;have hcv:=wz D (D.getD k default) hOk (hOk.2 _ (cP hk)) hpos;have iy:=ix2 (l:=D.getD k default) (k:=0) hpos;rw[show((0:Nat):Int)=0 from rfl] at iy;have hks:(D.getD k default).getD 0 default∈ks:=(hinc.dom _).2 (Db hk (cP hpos));have hmf:=AO ((D.getD k default).getD 0 default) ks;rw[if_pos hks] at hmf;obtain⟨m1,m2⟩:=sU hks;have hr:=hinc.row _ m1;rw[m2] at hr;have hr':=hr.same (H':=H') (λB hB=>hsm B (hinc.bnd _ B m1 hB).2.1);have hbox:=(hsm nx3 hinc.lt).trans hinc.box;have hft:=xU (p:=λs=>!dU D s) hk
 have hfl:(((D.take k).filter λs=>!dU D s).map aG).length<=100000:=by
  rw[bD];have:=List.length_filter_le (λs=>!dU D s) (D.take k);rw[jt] at this;omega
 generalize hsk:D.getD k default=s at *;refine wnY (aI @ix @iy) ?_;refine il ev0 hbox ev0 (Cb _) hmf ?_;rw[show mget .esl false (some (ks.idxOf (s.getD 0 default))) vs=vs.getD (ks.idxOf (s.getD 0 default)) .undef from rfl];refine wnY and_self ?_;cases hb:dU D s
 ·rw[hb] at hcv hft;rw[if_pos (by decide)] at hft;refine ec ev0 ev0 hcv (aC (af (cR _ _) (af (zB hr') (af (bT _ _) aj))) rfl) ?_;refine wnY and_self ?_;refine uk nx5 gb λS0 hS hsub=>?_;refine wnY @hS ?_;refine eh ?_;refine n8 ev0 ev0 (D5 s (by omega)) (af (bT _ _) aj) ?_;refine jg ⟨hsub _ gb,?_⟩;refine eh ?_;refine wnY (aI @bO @bH) ?_;refine⟨hsub _ (by rw[ab (by omega)];exact gb),?_⟩;refine ga ?_;refine eR (hrow.same λB hB=>?_) ?_
  ·have:=hbd B hB;rw[ab (by omega)]
  rintro s2 H2 nx2 hr2 i1 i2 i3 i4;have gb2:H2 nx5=some [sv]:=(i3 nx5 (by omega) (λh=>by have:=hbd _ h;omega)).trans (by rw[ab (by omega)];exact gb);obtain⟨o1,o2⟩:=hr2.one;have zz:=aI @gb2 (aI @o1 @o2);repeat' (first|apply a_n|refine zO ?_|refine vY ?_|refine nvY ?_|apply ga|refine stY ?_|fail)
  refine⟨(k+1,s2),by dsimp only;omega,⟨by dsimp only;omega,by omega,λy hy=>?_,by rw[ac];rfl,?_,λB hB=>?_⟩,ag0⟩
  ·rw[ab (by omega),i3 y (by omega) (λh=>by have:=hbd _ h;omega),ab (by omega)];exact hsm y hy
  ·dsimp only;rw[hft,dq];refine hr2.same λB hB=>ab ?_;rcases i4 B hB with h|h
   ·have:=hbd B h;omega
   ·omega
  ·rcases i4 B hB with h|h
   ·have:=hbd B h;omega
   ·omega
 ·rw[hb] at hcv hft;rw[if_neg (by decide),gI] at hft;refine ec ev0 ev0 hcv (aC (af (cR _ _) (af (zB hr') (af (bT _ _) aj))) rfl) ?_;refine wnY and_self ?_;exact⟨(k+1,sv),by dsimp only;omega,⟨by dsimp only;omega,hnx',hsm,gb,by dsimp only;rw[hft];exact hrow,hbd⟩,ag0⟩
end
end Go.Proofs.YtmpcledaoigkaaaGreat
namespace Go.Proofs.YtmpcledaoigkaaaGreat
open Go Go.Abs Tk
def neS(l:List Spx):List Spx:=l.filter λs=>decide (s≠[])
theorem EL(l:List Spx)(s:Spx):neS (l++[s])=if s=[] then neS l else neS l++[s]:=by
 unfold neS;rw[Dt];by_cases h:s=[]
 ·subst h;simp
 ·simp[h]
section
attribute [local irreducible] aE ai be aP aJ aK ay aL aR bn Go.Abs.Fn aO Go.Abs.Pure ak aD Yl
theorem zI(s:SysV):pU 63 [fq s,.int .i64 (-1)] (.func 98 [.iptr s.cs 0,.iptr [.int .i64 (-1)] 0]):=by
 refine pO O0 ?_;simp only[b63,aw];have hd:=yg s;unfold fq;rw[PC.2.2.2.2.2.2.2] at hd |-;refine wnY @PE ?_;exact fY (af (dF rfl rfl (a9 hd)) (af (dF rfl rfl (af (.int _ _) aj)) aj))
theorem LY{n R:Nat}(xs:List ExV)(hx:∀x∈xs,XOk n R x)(hn:n<=5)(hR:R<=6)(hl:xs.length<=1000)(c0 c1 c2 c3 c4 c5 c6 c7 c8:AV){y:Nat}{H:Hp}{nx:Nat}(I:List Spx->Hp->Nat->Prop)
    (stab:∀D H n H' n',I D H n->n<=n'->(∀y,y<n->H' y=H y)->I D H' n')
    (rnd:∀D s H n,I D H n->s≠[]->D.length<xs.length->Yl Tryz.prog y [aG s] H n λr H' n'=>r=.bool true/\I (D++[s]) H' n')
    (h0:I [] H nx):
    Abs.Fn Tryz.prog 98 [.yld y,.iptr [c0,c1,c2,c3,c4,c5,c6,c7,c8,ef xs] 0,.iptr [.int .i64 (-1)] 0] H nx λ_ H' nx'=>I (neS (xs.map fG)) H' nx':=by
 refine fO PD ?_;simp only[b98,aw];refine wnY @PE ?_;refine bj (X:=Nat) (λk=>[(0,.yld y),(2,.iptr [.int .i64 (-1)] 0),(8,ef xs),(9,.int .i64 xs.length),(10,.int .i64 k)]) (λk H n=>k<=xs.length/\I (neS ((xs.take k).map fG)) H n) (λk=>xs.length-k) 0 ⟨bz _,h0⟩ ag0 ?_;clear h0;rintro k H1 n1 ⟨k1,k2⟩;by_cases hk:k<xs.length
 rotate_left
 ·obtain rfl:k=xs.length:=by omega
  rw[List.take_length] at k2;refine wnY @PE ?_;exact k2
 have ix:=ixE hk;have hsx:=r7 _ (hx _ (au hk)) hn hR;have hdx:=po (xs.getD k default);unfold gJ at hsx hdx;rw[PC.2.2.2.2.2.2.1] at ix hsx hdx;have hns:=EL ((xs.take k).map fG) (fG (xs.getD k default));have hmt:(xs.take (k+1)).map fG=(xs.take k).map fG++[fG (xs.getD k default)]:=by rw[cu hk,dq];rfl
 rw[<-hmt] at hns
 have hDl:(neS ((xs.take k).map fG)).length<xs.length:=by
  have:=List.length_filter_le (λs:Spx=>decide (s≠[])) ((xs.take k).map fG);rw[bD,jt] at this;unfold neS;omega
 have z0:decide ((-1:Int)≥0)=false:=rfl;generalize fG (xs.getD k default)=s at *;by_cases hs:s=[]
 ·subst hs;rw[if_pos rfl] at hns;have z1:decide ((([]:Spx).length:Int)>0)=false:=rfl;refine wnY (zI7 @PE @ix @z0 @z1 @aS @bO @bH) ?_;exact⟨k+1,by omega,⟨by omega,by rw[hns];exact stab _ _ _ _ _ k2 (by omega) λy hy=>by simp (disch:=omega) only[ab]⟩,ag0⟩
 ·rw[if_neg hs] at hns;have hl0:s.length≠0:=λe=>hs (eI.1 e);have z1:decide ((s.length:Int)>0)=true:=bG (by omega);refine wnY (zI7 @PE @ix @z0 @z1 @aS @bO @bH) ?_;refine qd ev0 ev0 (Yl.mono (rnd _ s _ _ (stab _ _ _ _ _ k2 (by omega) λy hy=>by simp (disch:=omega) only[ab]) hs hDl) ?_);rintro r H3 n3 ⟨rfl,q⟩;refine wnY @PE ?_;exact⟨k+1,by omega,⟨by omega,by rw[hns];exact q⟩,ag0⟩
theorem AR{n R:Nat}(xs:List ExV)(hx:∀x∈xs,XOk n R x)(hn:n<=5)(hR:R<=6)(hl:xs.length<=1000)(c0 c1 c2 c3 c4 c5 c6 c7 c8:AV)(hd:∀x∈[c0,c1,c2,c3,c4,c5,c6,c7,c8,ef xs],Dat x):pU 97 [.esl,.func 98 [.iptr [c0,c1,c2,c3,c4,c5,c6,c7,c8,ef xs] 0,.iptr [.int .i64 (-1)] 0]] (bo (neS (xs.map fG))):=by
 refine pO Md ?_;simp only[b97,aw];refine wnY and_self ?_;refine gV 1 2 rfl rfl ev0 (λc0' cj hy=>?_);refine Abs.Fn.mono (LY xs hx hn hR hl c0 c1 c2 c3 c4 c5 c6 c7 c8 (I:=λD H n=>∃sv,2<=n/\H 0=some [sv]/\H 1=some [c0']/\Row H 1 sv (D.map aG)/\∀b,bd sv=some b->2<=b/\b<n) ?_ ?_ ?_) ?_
 ·rintro D H n H' n' ⟨sv,h1,h2,h3,h4,h5⟩ hle hs;exact⟨sv,by omega,(hs 0 (by omega)).trans h2,(hs 1 (by omega)).trans h3,h4.same λb hb=>hs b (h5 b hb).2,λb hb=>by have:=h5 b hb;omega⟩
 ·rintro D s H n ⟨sv,h1,h2,h3,h4,h5⟩ hs0 hDl;refine hy _ _ _ _ h3 rfl ?_;clear hy;refine wnY and_self ?_;refine⟨h3,?_⟩;have w:∀x,x≠1->cl H 1 x=H x:=λx b=>ca b;have k0:=(w 0 (by omega)).trans h2;have krow:Row (cl H 1) 1 sv (D.map aG):=h4.same λb hb=>w b (by have:=h5 b hb;omega);generalize cl H 1=H1 at *;obtain⟨o1,o2⟩:=krow.one;refine wnY (zI3 @k0 @bO @bH) ?_;refine d7 (k:=1) (sv:=sv) (cs:=D.map aG) (new:=[aG s]) rfl ev0 (krow.same λb hb=>ab (by have:=h5 b hb;omega)) ev0 (co rfl) (by simp only[SO,bO,Bool.and_self]) rfl g8 (by rw[bD];omega) (by rw[bD];omega) ?_;rintro sv' H3 n3 r1 r2 r3 r4 r5;have v0:H3 0=some [sv]:=by rw[r4 0 (by omega) (λh=>by have:=h5 0 h;omega),ab (by omega)];exact k0
  obtain⟨o5,o6⟩:=r1.one;refine wnY (zI3 @v0 @o5 @o6) ?_
  have hb3:∀b,bd sv'=some b->2<=b/\b<n3:=λb hb=>by
   rcases r5 b hb with h|h
   ·have:=h5 b h;omega
   ·omega
  refine⟨rfl,sv',by omega,by rw[ab (by omega),ac];rfl,ac,?_,hb3⟩;rw[dq];exact r1.same λb hb=>by have:=hb3 b hb;simp (disch:=omega) only[ab]
 ·exact⟨.esl,by omega,by simp (disch:=omega) only[ab,ac],ac,.nil,λb h=>(by cases h)⟩
 ·rintro _ H1 n1 ⟨sv,h1,h2,h3,h4,h5⟩;refine .inl ⟨h3,?_⟩;clear hy;have w:∀x,x≠1->cl H1 1 x=H1 x:=λx b=>ca b;have k0:=(w 0 (by omega)).trans h2;have krow:Row (cl H1 1) 1 sv ((neS (xs.map fG)).map aG):=h4.same λb hb=>w b (by have:=h5 b hb;omega);generalize cl H1 1=H2 at *;refine wnY @k0 ?_;exact pj krow
theorem Bw{n R:Nat}(xs:List ExV)(hx:∀x∈xs,XOk n R x)(hn:n<=5)(hR:R<=6)(hl:xs.length<=1000)(c0 c1 c2 c3 c4 c5 c6 c7 c8:AV)(hd:∀x∈[c0,c1,c2,c3,c4,c5,c6,c7,c8,ef xs],Dat x):pU 62 [.func 98 [.iptr [c0,c1,c2,c3,c4,c5,c6,c7,c8,ef xs] 0,.iptr [.int .i64 (-1)] 0]] (bo (neS (xs.map fG))):=by
 refine pO Lo ?_;simp only[b62,aw];have h:=AR xs hx hn hR hl c0 c1 c2 c3 c4 c5 c6 c7 c8 hd;have zz:=aI @bJ @br;repeat' (first|refine zW ?_|apply a_n|refine zO ?_|refine vY ?_|refine cY ?_ (hp:=h) (hs:=by(first|refine aC ?_ rfl|apply aQ);(repeat' (first|exact aj|apply bB|apply a8|exact Dat.esl|exact Dat.func (DatL.cons (Dat.iptr hd) (DatL.cons (Dat.iptr (DatL.cons .int DatL.nil)) DatL.nil))));first|done|fail)|refine bk rfl ?_|refine r1Y ?_|fail)
 exact Dat.snap (cR _)
end
end Go.Proofs.YtmpcledaoigkaaaGreat
namespace Go.Proofs.YtmpcledaoigkaaaGreat
open Go Go.Abs
section
attribute [local irreducible] aE ai be aP aJ aK ay aL aR bn Go.Abs.Fn aO Go.Abs.Pure ak aD Yl
theorem LR(l:List Spx)(hl:l.length<=4096)(hs:∀s∈l,eu s=0):pU 61 [bo l] (.tup [me (Io l),.int .i64 0]):=by
 refine pO OJ ?_;simp only[b61,aw]
 have hc:=y9 l (by omega) (fun s h=>by
  obtain⟨p1,p2,p3,p4⟩:=i5 (hs s h);exact⟨p3,by omega,λe=>by rw[e] at p1;simp at p1⟩)
 have z0:decide ((0:Int)≠0)=false:=rfl;have z1:decide ((4096:Int)<l.length)=false:=bK (by omega);refine wnY (aI @aW @z1) ?_;refine lpI (X:=Nat) (λk=>[(0,bo l),(2,.ptr 0 1 0),(11,bo l),(12,.int .i64 l.length),(13,.int .i64 k)]) (λk H nx=>k<=l.length/\H 0=some [.esl]) (λk=>l.length-k) 0 ⟨bz _,ac⟩ ?_;rintro k H nx ⟨h1,g0⟩;by_cases hk:k<l.length
 rotate_left
 ·refine wnY (zI3 @g0 @bJ @br) ?_;exact Ky (cR _).snap rfl
 have ix:=o0 hk;have hx:=qm (l.getD k default) (by have:=(i5 (hs _ (cP hk))).2.1;show _<=_;omega);rw[hs _ (cP hk)] at hx;refine wnY (aI @ix @z0) ?_;exact⟨k+1,by omega,⟨by omega,g0⟩,ag0⟩
end
end Go.Proofs.YtmpcledaoigkaaaGreat
namespace Go.Proofs.YtmpcledaoigkaaaGreat
open Go Go.Abs Tk
open Nat (reduceEqDiff reduceAdd reduceLeDiff)
theorem ye(x:ExV):∀q,∀v∈sE x q,v.color<(q:Nat)
 |0,v,h=>(by cases h)
 |q+1,v,h=>by
  rw[nX] at h;split at h
  ·have:=ye x q v h;omega
  ·rcases iG.1 h with h|h
   ·have:=ye x q v h;omega
   ·rw[eM.1 h];show(q:Int)<(q+1:Nat);omega
theorem uG(x:ExV):∀q,fM eB (sE x q)
 |0=>A6
 |q+1=>by
  rw[nX];split
  ·exact uG x q
  ·unfold fM;rw[List.pairwise_append];refine⟨uG x q,List.pairwise_singleton _ _,λv hv w hw=>?_⟩;rw[eM.1 hw];have:=ye x q v hv;unfold eB;rw[if_pos (by show v.color<(q:Int);omega)];decide
theorem Dp{n R:Nat}{x:ExV}(hx:XOk n R x)(hn:n<=5)(h:fG x≠[]):eu (fG x)=0:=by
 obtain⟨l1,l2⟩:=hx.last;have hlen:=qs x (dY x).length;have h0:(fG x).length≠0:=λe=>h (eI.1 e);refine Ff ⟨by omega,by unfold fG;omega⟩ (uG x _) λv hv=>?_;obtain⟨i,h1,h2,rfl⟩:=uL.1 hv;have h3:0<=(dY x).getD i 0/\(dY x).getD i 0<=5000:=l2 _ (au h1);unfold i7;simp only[ed,gr];omega
def AJ(p:PrbV):List Spx:=Io (neS (jU p))
theorem uB(p:PrbV):(jU p).length=(bw p).execs.length:=bD _
def CW:AV:=.agg [.int .i64 0,.int .i64 0,.int .i64 0,.esl,.int .i64 0,.esl,.int .i64 0,.int .i64 0,.esl,.esl]
theorem K5{T:Tm}{H:Hp}{K:AV->Prop}{a b c d:RV}{x y z u:AV}(ha:rv T H a=some x)(hb:rv T H b=some y)(hc:rv T H c=some z)(hd:rv T H d=some u)(h:K (.tup [x,y,z,u])):bn T H K [a,b,c,d]:=by
 show yf T H [a,b,c,d] λxs=>K (.tup xs);simp only[yf,ha,hb,hc,hd];exact h
theorem RVE:(∀(T:Tm)(H:Hp)(n:Nat),rv T H (.t n)=some (T n))/\(∀(T:Tm)(H:Hp)(n k:Nat),rv T H (.cn n k)=(rd H k (T n)).map .agg):=⟨λ_ _ _=>rfl,λ_ _ _ _=>rfl⟩
def DF(a b:Int):MvV:=⟨⟨2,a,b,0,0,0,0⟩,0⟩
def P14:PrbV:=⟨⟨2,2,2,[⟨[0,0],[[0,0]],[]⟩,⟨[0,1],[[0,0],[1,1]],[]⟩,⟨[1,0],[[0,0],[1,1]],[]⟩,⟨[1,1],[[1,1]],[]⟩]⟩,⟨2,[[DF 1 3,DF 3 2,DF 3 3]]⟩,1⟩
theorem HG:OkP P14:=by
 refine vq ⟨?_,?_,?_,?_⟩ (by decide+kernel)
 ·intro c hc;simp only[P14,gg,List.not_mem_nil,or_false] at hc;rcases hc with rfl|rfl|rfl|rfl<;>exact⟨by show _<=_;decide,by show _<=_;decide,λx hx=>by simp at hx;rcases hx with rfl|rfl<;>(show _<=_;decide),by show _<=_;decide,λx hx=>(by cases hx)⟩
 ·show _<=_;decide
 ·decide
 ·intro l hl;simp only[P14,gg,List.not_mem_nil,or_false] at hl;subst hl;decide
theorem Aq{sz:Nat}:∀{l:List AV}{i j:Nat}{y c:AV},(∀y∈l,y.cells.length=sz)->l[i]?=some y->y.cells[j]?=some c->(l.flatMap AV.cells)[i*sz+j]?=some c
 |[],i,j,y,c,_,h,_=>by simp at h
 |x::l,0,j,y,c,hc,h,hj=>by
  simp at h;subst h;have hlt:=(bU.1 hj).1;rw[lJ,ou,cp,gy hlt];exact hj
 |x::l,i+1,j,y,c,hc,h,hj=>by
  have hx:=hc x (ju ..);rw[lJ,ie (by rw[hx,ez];omega),hx,show(i+1)*sz+j-sz=i*sz+j by rw[ez];omega];exact Aq (λy hy=>hc y (qq _ hy)) (by simpa using h) hj
theorem kY{H:Hp}{b n sz off len:Nat}{cs l':List AV}(hb:H b=some cs)(hn:cs.length=n)(hfit:off+len*sz<=n)(hl:l'.length=len)(hc:∀y∈l',y.cells.length=sz)(h:aD H ((cs.drop off).take (len*sz)) (l'.flatMap AV.cells)):Snap H (.msl b n sz off len) (.sl sz l'):=
 .msl b n sz off len cs l' hb hn hfit hl hc λi j y a c hy hcj ha=>by
  have h1:=Aq hc hy hcj;have hi:i<len:=by have:=(bU.1 hy).1;omega
  have hj:j<sz:=by have:=(bU.1 hcj).1;rw[hc y (iC hy)] at this;exact this
  have hij:i*sz+j<len*sz:=by
   have:(i+1)*sz<=len*sz:=jJ _ hi;rw[ez] at this;omega
  refine h.2 (i*sz+j) a c ?_ h1;rw[jq,if_pos hij,ka,<-pV];exact ha
def v8:List MvV:=[DF 1 3,DF 3 2,DF 3 3]
theorem TN3:(0:Int).toNat=0/\(1:Int).toNat=1/\(2:Int).toNat=2/\0*2=0/\1*2=2/\2*2=4:=⟨rfl,rfl,rfl,rfl,rfl,rfl⟩
def lU(l:List Int):Int:=l.foldl (λn x=>if x=n then n+1 else n) 0
theorem qw(l:List Int)(x:Int):lU (l++[x])=if x=lU l then lU l+1 else lU l:=by
 unfold lU;rw[List.foldl_append];rfl
theorem yu:∀l:List Int,0<=lU l/\lU l<=(l.length:Int):=λl=>by
 induction l using Cx with
 |nil=>exact⟨Int.le_refl _,Int.le_refl _⟩
 |snoc l x ih=>
  rw[qw,cq,List.length_singleton];split<;>omega
def Pt(l:List Int):Prop:=∀k,k<l.length->0<=l.getD k 0/\l.getD k 0<=lU (l.take k)
theorem dM{l:List Int}{x:Int}{k:Nat}(h:k<l.length):(l++[x]).getD k 0=l.getD k 0:=by
 simp only[ml];rw[gy h]
theorem fR{l:List Int}{x:Int}:(l++[x]).getD l.length 0=x:=by
 simp only[ml];rw[ie (aZ _),Nat.sub_self];rfl
theorem G3{l:List Int}{i j:Nat}{x:Int}(h:i≠j):(l.set i x).getD j 0=l.getD j 0:=by
 simp only[ml];rw[List.getElem?_set_ne h]
theorem Pt.snoc{l:List Int}{x:Int}(h:Pt l)(h0:0<=x)(h1:x<=lU l):Pt (l++[x]):=λk hk=>by
 rw[cq,List.length_singleton] at hk;by_cases e:k<l.length
 ·rw[dM e,qU (by omega)];exact h k e
 ·obtain rfl:k=l.length:=by omega
  rw[fR,qU (aZ _),List.take_length];exact⟨h0,h1⟩
theorem Pt.nil:Pt []:=λk h=>absurd h (Nat.not_lt_zero _)
theorem DE{l:List Int}{k:Nat}(h:k<l.length):lU (l.take (k+1))=if l.getD k 0=lU (l.take k) then lU (l.take k)+1 else lU (l.take k):=by
 have e:l.take (k+1)=l.take k++[l.getD k 0]:=by
  rw[List.take_add_one];simp[List.getD,h]
 rw[e,qw]
structure CS where
 ks:List Int
 vs:List Int
 nx:Nat
 out:List Int
def zZ(s:CS)(v:Int):Bool:=decide (v∉s.ks\/v<0)
def wA(s:CS)(v:Int):CS:=if zZ s v=true then⟨if v∈s.ks then s.ks else s.ks++[v],if v∈s.ks then s.vs.set (s.ks.idxOf v) s.nx else s.vs++[(s.nx:Int)],s.nx+1,s.out++[(s.nx:Int)]⟩ else⟨s.ks,s.vs,s.nx,s.out++[s.vs.getD (s.ks.idxOf v) 0]⟩
def iS(l:List Int):CS:=l.foldl wA ⟨[],[],0,[]⟩
def yb(l:List Int):List Int:=(iS l).out
theorem nQ(l:List Int)(v:Int):iS (l++[v])=wA (iS l) v:=by unfold iS;rw[List.foldl_append];rfl
structure CI(l:List Int)(s:CS):Prop where
 len:s.out.length=l.length
 kv:s.vs.length=s.ks.length
 nx:lU s.out=(s.nx:Int)
 pt:Pt s.out
 lt:∀i,i<l.length->s.out.getD i 0<(s.nx:Int)
 mem:∀v,v∈s.ks↔v∈l
 val:∀i,i<l.length->0<=l.getD i 0->s.vs.getD (s.ks.idxOf (l.getD i 0)) 0=s.out.getD i 0
 cls:∀i j,i<l.length->j<l.length->(s.out.getD i 0=s.out.getD j 0↔i=j\/(0<=l.getD i 0/\l.getD i 0=l.getD j 0))
theorem x9{l:List Int}{v:Int}(h:v∈l)(x:Int):(l++[x]).idxOf v=l.idxOf v:=by rw[List.idxOf_append,if_pos h]
theorem jF:∀l:List Int,CI l (iS l):=λl=>by
 induction l using Cx with
 |nil=>exact⟨rfl,rfl,rfl,Pt.nil,λi h=>absurd h (Nat.not_lt_zero _),λv=>Iff.rfl,λi h=>absurd h (Nat.not_lt_zero _),λi j h=>absurd h (Nat.not_lt_zero _)⟩
 |snoc l v ih=>
  obtain⟨len,kv,nx,pt,lt,mem,val,cls⟩:=ih;rw[nQ];generalize iS l=s at *;have hL:(l++[v]).length=l.length+1:=by simp
  have key:∀(x:Int)(nx':Nat),(x=s.nx/\nx'=s.nx+1\/0<=x/\x<s.nx/\nx'=s.nx)->(s.out++[x]).length=(l++[v]).length/\lU (s.out++[x])=(nx':Int)/\Pt (s.out++[x])/\∀i,i<(l++[v]).length->(s.out++[x]).getD i 0<(nx':Int):=λx nx' hx=>by
   refine⟨by simp[len],?_,pt.snoc (by omega) (by rw[nx];omega),λi hi=>?_⟩
   ·rw[qw,nx];split<;>omega
   ·rw[hL] at hi;by_cases e:i<l.length
    ·rw[dM (by omega)];have:=lt i e;omega
    ·rw[show i=s.out.length by omega,fR];omega
  unfold wA;by_cases hn:zZ s v=true
  ·rw[if_pos hn];obtain⟨k1,k2,k3,k4⟩:=key s.nx (s.nx+1) (.inl ⟨rfl,rfl⟩);have hn':=pG hn;refine⟨k1,?_,k2,k3,k4,λw=>?_,λi hi h0=>?_,λi j hi hj=>?_⟩
   ·show(if v∈s.ks then s.vs.set (s.ks.idxOf v) s.nx else s.vs++[(s.nx:Int)]).length=(if v∈s.ks then s.ks else s.ks++[v]).length;split
    ·rw[List.length_set];exact kv
    ·rw[cq,cq,kv];rfl
   ·show w∈(if v∈s.ks then s.ks else s.ks++[v])↔w∈l++[v];rw[iG,eM,<-mem w];split
    ·rename_i hv;exact⟨λh=>.inl h,λh=>h.elim id λe=>e▸hv⟩
    ·rw[iG,eM]
   ·show(if v∈s.ks then s.vs.set (s.ks.idxOf v) s.nx else s.vs++[(s.nx:Int)]).getD ((if v∈s.ks then s.ks else s.ks++[v]).idxOf ((l++[v]).getD i 0)) 0=(s.out++[(s.nx:Int)]).getD i 0;rw[hL] at hi;by_cases e:i<l.length
    ·rw[dM e] at h0 |-;rw[dM (by omega),<-val i e h0];have hm:l.getD i 0∈s.ks:=(mem _).2 (au e);have hlt:=List.idxOf_lt_length_of_mem hm;by_cases hv:v∈s.ks
     ·rw[if_pos hv,if_pos hv]
      have hne:s.ks.idxOf v≠s.ks.idxOf (l.getD i 0):=λq=>by
       have h1:=List.idxOf_lt_length_of_mem hv;have e1:s.ks[s.ks.idxOf v]'h1=v:=List.getElem_idxOf h1;have e2:s.ks[s.ks.idxOf (l.getD i 0)]'hlt=l.getD i 0:=List.getElem_idxOf hlt;have e3:v=l.getD i 0:=by rw[<-e1,<-e2];simp only[q]
       rcases hn' with h|h
       ·exact h hv
       ·omega
      exact G3 hne
     ·rw[if_neg hv,if_neg hv,x9 hm,dM (by omega)]
    ·have hi':i=l.length:=by omega
     subst hi';rw[fR] at h0 |-
     have hv:v∉s.ks:=by
      rcases hn' with h|h
      ·exact h
      ·omega
     rw[if_neg hv,if_neg hv,<-len,fR];have:(s.ks++[v]).idxOf v=s.vs.length:=by rw[List.idxOf_append,if_neg hv,kv];simp
     rw[this,fR]
   ·show(s.out++[(s.nx:Int)]).getD i 0=(s.out++[(s.nx:Int)]).getD j 0↔_;rw[hL] at hi hj
    have hfresh:∀i,i<l.length->¬(0<=l.getD i 0/\l.getD i 0=v):=λi hi ⟨h1,h2⟩=>by
     rcases hn' with h|h
     ·exact h ((mem v).2 (h2▸au hi))
     ·omega
    by_cases ei:i<l.length
    ·by_cases ej:j<l.length
     ·rw[dM (by omega),dM (by omega),dM ei,dM ej];exact cls i j ei ej
     ·obtain rfl:j=l.length:=by omega
      rw[dM (by omega),dM ei,<-len,fR,len,fR];have:=lt i ei
      exact ⟨fun h=>by omega,fun h=>by
       rcases h with h|h
       ·omega
       ·exact absurd h (hfresh i ei)⟩
    ·obtain rfl:i=l.length:=by omega
     by_cases ej:j<l.length
     ·rw[dM (l:=s.out) (k:=j) (by omega),dM ej,<-len,fR,len,fR];have:=lt j ej
      exact ⟨fun h=>by omega,fun h=>by
       rcases h with h|⟨h1,h2⟩
       ·omega
       ·exact absurd ⟨by omega,h2.symm⟩ (hfresh j ej)⟩
     ·obtain rfl:j=l.length:=by omega
      exact⟨λ_=>.inl rfl,λ_=>rfl⟩
  ·rw[if_neg hn]
   have hn':v∈s.ks/\0<=v:=by
    have:¬(v∉s.ks\/v<0):=λh=>hn (bG h);exact⟨Classical.byContradiction λh=>this (.inl h),by omega⟩
   obtain⟨hv,hv0⟩:=hn';obtain⟨j0,hj0,hj1⟩:=mM ((mem v).1 hv);have ej0:l.getD j0 0=v:=by simp[List.getD,hj0,hj1]
   have hval:=val j0 hj0 (by omega);rw[ej0] at hval;have hp:=pt j0 (by omega);obtain⟨k1,k2,k3,k4⟩:=key (s.vs.getD (s.ks.idxOf v) 0) s.nx (.inr ⟨by rw[hval];exact hp.1,by rw[hval];exact lt j0 hj0,rfl⟩)
   have hE:∀i,i<l.length->((s.out.getD i 0=s.vs.getD (s.ks.idxOf v) 0)↔l.getD i 0=v):=λi hi=>by
    rw[hval,cls i j0 hi hj0,ej0]
    exact ⟨fun h=>by
     rcases h with rfl|h
     ·exact ej0
     ·exact h.2,λh=>.inr ⟨by omega,h⟩⟩
   refine⟨k1,kv,k2,k3,k4,λw=>?_,λi hi h0=>?_,λi j hi hj=>?_⟩
   ·rw[iG,eM,<-mem w];exact⟨λh=>.inl h,λh=>h.elim id λe=>e▸hv⟩
   ·show s.vs.getD (s.ks.idxOf ((l++[v]).getD i 0)) 0=(s.out++[s.vs.getD (s.ks.idxOf v) 0]).getD i 0;rw[hL] at hi;by_cases e:i<l.length
    ·rw[dM e] at h0 |-;rw[dM (by omega)];exact val i e h0
    ·obtain rfl:i=l.length:=by omega
     rw[fR,<-len,fR]
   ·show(s.out++[s.vs.getD (s.ks.idxOf v) 0]).getD i 0=(s.out++[s.vs.getD (s.ks.idxOf v) 0]).getD j 0↔_;rw[hL] at hi hj;by_cases ei:i<l.length
    ·by_cases ej:j<l.length
     ·rw[dM (by omega),dM (by omega),dM ei,dM ej];exact cls i j ei ej
     ·obtain rfl:j=l.length:=by omega
      rw[dM (by omega),dM ei,<-len,fR,len,fR,hE i ei]
      exact ⟨fun h=>.inr ⟨by omega,h⟩,fun h=>by
       rcases h with h|h
       ·omega
       ·exact h.2⟩
    ·obtain rfl:i=l.length:=by omega
     by_cases ej:j<l.length
     ·rw[dM (l:=s.out) (k:=j) (by omega),dM ej,<-len,fR,len,fR];refine⟨λh=>.inr ⟨hv0,((hE j ej).1 h.symm).symm⟩,λh=>?_⟩;rcases h with h|h
      ·omega
      ·exact((hE j ej).2 h.2.symm).symm
     ·obtain rfl:j=l.length:=by omega
      exact⟨λ_=>.inl rfl,λ_=>rfl⟩
theorem G0:∀{l:List Int},(∀v∈l,0<=v)->(iS l).nx=(iS l).ks.length:=λ{l}=>by
 induction l using Cx with
 |nil=>intro _;rfl
 |snoc l v ih=>
  intro h;have ih:=ih λw hw=>h w (pS _ hw);have hv:=h v (sd _ (eM.2 rfl));rw[nQ];unfold wA;by_cases hn:zZ (iS l) v=true
  ·rw[if_pos hn];have hn':=pG hn;show(iS l).nx+1=(if v∈(iS l).ks then(iS l).ks else(iS l).ks++[v]).length;rw[if_neg (by rcases hn' with h|h;exact h;omega),cq,ih];rfl
  ·rw[if_neg hn];exact ih
section
attribute [local irreducible] aE ai be aP aJ aK ay aL aR bn Go.Abs.Fn aO Go.Abs.Pure ak aD Yl
theorem Du(p:PrbV)(h:OkP p):pU 13 [fq (bw p)] (.tup [me (AJ p),.int .i64 0]):=by
 obtain⟨s1,s2,s3,s4⟩:=jv p h;obtain⟨hck,-,-,-,r6⟩:=eJ h.e0;obtain⟨n1,n5,-,-⟩:=dg hck;have hv:=uv p h;have hsm:=zI (bw p);have hd:=ea (bw p);have hcs:=yg (bw p)
 have hof:=LR (neS (jU p)) (by
  have:=List.length_filter_le (λs:Spx=>decide (s≠[])) (jU p);rw[uB] at this;unfold neS;omega) (λs hs=>by
  obtain⟨h1,h2⟩:=kd.1 hs;obtain⟨x,hx,rfl⟩:=dK.1 h1;exact Dp (s4 x hx) (by omega) (pG h2))
 rw[PC.2.2.2.2.2.2.2] at hcs;have hco:=Bw (bw p).execs s4 (by omega) (by omega) (by omega) _ _ _ _ _ _ _ _ _ hcs;rw[show(bw p).execs.map fG=jU p from rfl] at hco
 have hw:pU 34 [fq (bw p),.int .i64 (-1)] (.tup [me (AJ p),.int .i64 0]):=by
  refine pO Oz ?_;simp only[b34,aw];unfold fq at hsm hd |-;rw[PC.2.2.2.2.2.2.2] at hsm hd |-;unfold AJ;unfold me at hof |-;have zz:=aI @PE (aI @bJ @br);repeat' (first|refine zW ?_|apply a_n|refine zO ?_|refine vY ?_|refine cY ?_ (hp:=by first|exact hsm|exact hco|exact hof) (hs:=by(first|refine aC ?_ rfl|apply aQ);(repeat' (first|exact aj|apply bB|apply a8|exact hd|exact cR _|exact Dat.func (DatL.cons (Dat.iptr hcs) (DatL.cons (Dat.iptr (DatL.cons .int DatL.nil)) DatL.nil))));first|done|fail)|refine alY ?_|refine bxY ?_|refine stY ?_|refine bk rfl ?_|refine r2Y ?_|fail)
  exact cQ (af (fV (af (Dat.snap (cR _)) aj)) (af (.int _ _) aj))
 refine pO O2 ?_;simp only[b13,aw];unfold fq at hv hd hw |-;rw[PC.2.2.2.2.2.2.2] at hv hd hw |-;unfold me at hw |-;refine wnY (zI3 @PE @bJ @br) ?_;exact cQ (af (fV (af (Dat.snap (cR _)) aj)) (af (.int _ _) aj))
theorem yZ(p:PrbV)(hs:ShP p)(h:im p=false):pU 6 [cI p] (.tup [CW,bo [],.bool false,.bool true]):=by
 refine pO is6 ?_;simp only[b6,aw];have hr:=Cz p hs;have hd:=eZ p;rw[h] at hr;unfold cI at hr hd |-;rw[PC.2.2.2.2.1] at hr hd |-;refine wnY @PE ?_;refine K5 (x:=CW) (y:=.esl) (z:=.bool false) (u:=.bool true) (by unfold CW;((try simp (disch:=omega) only[cK,ZA,reduceEqDiff,↓reduceIte,reduceAdd,reduceLeDiff,RVE]);(try with_reducible rfl))) (have zz:=@RVE;evY) (have zz:=@RVE;evY) (have zz:=@RVE;evY) ?_;exact cQ (af (Dat.snap (Dat.agg (DatL.cons .int (DatL.cons .int (DatL.cons .int (DatL.cons .esl (DatL.cons .int (DatL.cons .esl (DatL.cons .int (DatL.cons .int (DatL.cons .esl (DatL.cons .esl DatL.nil)))))))))))) (af (.eslsl 1) (af (.bool _) (af (.bool _) aj))))
theorem AC(p:PrbV)(hs:ShP p)(hr1:im p=true)(h:OkP p):pU 6 [cI p] (.tup [fq (bw p),bo (jU p),.bool true,.bool true]):=by
 refine pO is6 ?_;simp only[b6,aw];have hr:=Cz p hs;rw[hr1] at hr;have hb:=yC p h;have hsx:=λi hi=>DB p h i hi;obtain⟨s1,s2,s3,s4⟩:=jv p h;have hd:=eZ p;have hds:=ea (bw p)
 have hgs:∀i,i<(bw p).execs.length->fG ((bw p).execs.getD i default)=(jU p).getD i default:=λi hi=>by
  simp[jU,List.getD,hi]
 have hll:=uB p;rw[show fq (bw p)=.agg (bw p).cs from rfl,PC.2.2.2.2.2.2.2] at hb hsx hds |-;unfold cI at hr hd hb |-;rw[PC.2.2.2.2.1] at hr hd hb |-;generalize (bw p).execs=xs at *;generalize (bw p).views=vs at *;generalize jU p=l at *;have z0:decide ((xs.length:Int)=0)=false:=bK (by omega);refine wnY (aI @PE @z0) ?_
 refine bj (X:=Nat×AV) (λx=>[(2,.ptr 1 10 0),(6,.ptr 2 10 0),(8,x.2),(32,.int .i64 xs.length),(33,.int .i64 x.1)]) (λx H n'=>x.1<=xs.length/\3<=n'/\H 1=some [.int .i64 0,.int .i64 0,.int .i64 0,.esl,.int .i64 0,.esl,.int .i64 0,.int .i64 0,.esl,.esl]/\H 2=some [.int .i64 (bw p).prob.task.n,.int .i64 (bw p).prob.task.ins,.int .i64 (bw p).prob.task.outs,cC (bw p).prob.task.cases,.int .i64 (bw p).prob.adv.n,bh (bw p).prob.adv.states,.int .i64 (bw p).prob.rounds,.int .i64 (bw p).tn,dE vs,ef xs]/\Row H 1 x.2 ((l.take x.1).map aG)/\∀b,bd x.2=some b->3<=b/\b<n') (λx=>xs.length-x.1) (0,.esl)
  ⟨bz _,by omega,by simp (disch:=omega) only[ab,ac],by simp (disch:=omega) only[ac];rfl,.nil,λb h=>(by cases h)⟩ (by simp (disch:=omega) only[agr,ZG,reduceEqDiff,↓reduceIte,SL]) ?_
 rintro⟨k,ro⟩ H nx ⟨hk,hnx,g1,g2,hrow,hb2⟩;dsimp only at hk hrow hb2 |-;obtain⟨o1,o2⟩:=hrow.one;by_cases hk2:k<xs.length
 rotate_left
 ·obtain rfl:k=xs.length:=by omega
  rw[<-hll,List.take_length] at hrow;refine wnY (zI5 @PE @g1 @g2 @o1 @o2) ?_;refine K5 (x:=.agg [.int .i64 (bw p).prob.task.n,.int .i64 (bw p).prob.task.ins,.int .i64 (bw p).prob.task.outs,cC (bw p).prob.task.cases,.int .i64 (bw p).prob.adv.n,bh (bw p).prob.adv.states,.int .i64 (bw p).prob.rounds,.int .i64 (bw p).tn,dE vs,ef xs]) (y:=ro) (z:=.bool true) (u:=.bool true) (have zz:=@RVE;evY) (have zz:=@RVE;evY) (have zz:=@RVE;evY) (have zz:=@RVE;evY) ?_;exact cQ (af (Dat.snap hds) (af (pj (hrow.same λb h=>ab (by have:=hb2 b h;omega))) (af (.bool _) (af (.bool _) aj))))
 have hx:=hsx k hk2;rw[hgs k hk2] at hx;have htk:(l.take (k+1)).map aG=(l.take k).map aG++[aG (l.getD k default)]:=by rw[cu (by omega),dq];rfl
 generalize l.getD k default=s at *;have hrl:((l.take k).map aG).length<=60:=by rw[bD,jt];omega
 by_cases hse:s=[]
 ·rw[if_pos hse] at hx;refine wnY (zI5 @PE @g1 @g2 @bO @bH) ?_;refine d7 (k:=1) (sv:=ro) (cs:=(l.take k).map aG) (new:=[aG s]) rfl ev0 (hrow.same λb h=>ab (by have:=hb2 b h;omega)) ev0 (co rfl) (by simp only[SO,bO,Bool.and_self]) rfl g8 (by omega) (by omega) ?_;rintro r2 H3 n3 r1 r2' r3 r4 r5;refine wnY @PE ?_;have hz:∀y,y<3->bd ro≠some y:=λy hy h=>by have:=hb2 y h;omega
  refine⟨(k+1,r2),by dsimp only;omega,⟨by dsimp only;omega,by omega,by rw[r4 1 (by omega) (hz 1 (by omega)),ab (by omega)];exact g1,by rw[r4 2 (by omega) (hz 2 (by omega)),ab (by omega)];exact g2,by dsimp only;rw[htk];exact r1,λb h=>?_⟩,ag0⟩;rcases r5 b h with h|h
  ·have:=hb2 b h;omega
  ·omega
 ·rw[if_neg hse] at hx;refine wnY (zI5 @PE @g1 @g2 @bO @bH) ?_;refine d7 (k:=1) (sv:=ro) (cs:=(l.take k).map aG) (new:=[aG s]) rfl ev0 (hrow.same λb h=>ab (by have:=hb2 b h;omega)) ev0 (co rfl) (by simp only[SO,bO,Bool.and_self]) rfl g8 (by omega) (by omega) ?_;rintro r2 H3 n3 r1 r2' r3 r4 r5;refine wnY @PE ?_;have hz:∀y,y<3->bd ro≠some y:=λy hy h=>by have:=hb2 y h;omega
  refine⟨(k+1,r2),by dsimp only;omega,⟨by dsimp only;omega,by omega,by rw[r4 1 (by omega) (hz 1 (by omega)),ab (by omega)];exact g1,by rw[r4 2 (by omega) (hz 2 (by omega)),ab (by omega)];exact g2,by dsimp only;rw[htk];exact r1,λb h=>?_⟩,ag0⟩;rcases r5 b h with h|h
  ·have:=hb2 b h;omega
  ·omega
theorem HE:pU 21 [.int .i64 1] (cI P14):=by
 refine pO Oj ?_;simp only[b21,aw];have q1:kC 1 (.msl 3 2 1 0 2) none (some (.int .i64 1)) none=some (.msl 3 2 1 0 1):=rfl;have q2:kC 1 (.msl 3 2 1 0 2) (some (.int .i64 1)) none none=some (.msl 3 2 1 1 1):=rfl;refine wnY (aI @q1 @q2) ?_;generalize hB:ar (ar _ _ _) _ _=B;have b0:B 0=some [.int .i64 0,.int .i64 0,.int .i64 0,.esl,.int .i64 0,.esl,.int .i64 0]:=by rw[<-hB];simp (disch:=omega) only[ab,ac]
 have b1:B 1=some [.int .i64 0,.int .i64 0]:=by rw[<-hB];simp (disch:=omega) only[ab,ac]
 have b2:B 2=some [.int .i64 1,.int .i64 1]:=by rw[<-hB];simp (disch:=omega) only[ab,ac]
 have b3:B 3=some [.msl 1 2 1 0 2,.msl 2 2 1 0 2]:=by rw[<-hB];simp (disch:=omega) only[ab,ac]
 have b4:B 4=some [.int .i64 0,.int .i64 0]:=by rw[<-hB];simp (disch:=omega) only[ab,ac]
 have b5:B 5=some [.int .i64 0,.int .i64 1]:=by rw[<-hB];simp (disch:=omega) only[ab,ac]
 have b6:B 6=some [.int .i64 1,.int .i64 0]:=by rw[<-hB];simp (disch:=omega) only[ab,ac]
 have b7:B 7=some [.int .i64 1,.int .i64 1]:=by rw[<-hB];simp (disch:=omega) only[ab,ac]
 have b8:B 8=some [.msl 4 2 1 0 2,.msl 3 2 1 0 1,.esl,.msl 5 2 1 0 2,.msl 3 2 1 0 2,.esl,.msl 6 2 1 0 2,.msl 3 2 1 0 2,.esl,.msl 7 2 1 0 2,.msl 3 2 1 1 1,.esl]:=by rw[<-hB];simp (disch:=omega) only[ab,ac]
 have b9:B 9=some [.int .i64 2,.int .i64 2,.int .i64 2,.msl 8 12 3 0 4]:=by rw[<-hB];simp (disch:=omega) only[ab,ac];rfl
 have b10:B 10=some [.int .i64 1,.int .i64 3,.int .i64 3,.int .i64 2,.int .i64 3,.int .i64 3]:=by rw[<-hB];simp (disch:=omega) only[ab,ac]
 clear hB;refine bj (X:=Nat×AV) (λx=>[(0,.int .i64 1),(2,.ptr 0 7 0),(4,.ptr 9 4 0),(5,x.2),(30,.msl 10 6 2 0 3),(31,.int .i64 (3:Nat)),(32,.int .i64 x.1)]) (λx H n'=>x.1<=3/\11<=n'/\(∀y,y<11->H y=B y)/\Row H 8 x.2 (cL iA (v8.take x.1))/\∀b,bd x.2=some b->11<=b/\b<n') (λx=>3-x.1) (0,.esl) ⟨by omega,by omega,λ_ _=>rfl,.nil,λb h=>(by cases h)⟩ (by simp (disch:=omega) only[agr,ZG,reduceEqDiff,↓reduceIte,SL]) ?_;rintro⟨k,ro⟩ H nx ⟨hk,hnx,fr,hrow,hb⟩;dsimp only at hk hrow hb |-;obtain⟨o1,o2⟩:=hrow.one;have gA:=(fr 10 (by omega)).trans b10;have i0:cA 2 (.msl 10 6 2 0 3) (.int .i64 ((0:Nat):Int))=some (.ptr 10 6 0):=rfl;have i1:cA 2 (.msl 10 6 2 0 3) (.int .i64 ((1:Nat):Int))=some (.ptr 10 6 2):=rfl;have i2:cA 2 (.msl 10 6 2 0 3) (.int .i64 ((2:Nat):Int))=some (.ptr 10 6 4):=rfl;have r0:rd H 2 (.ptr 10 6 0)=some [.int .i64 1,.int .i64 3]:=by rw[SR.2.1,gA];rfl
 have r1:rd H 2 (.ptr 10 6 2)=some [.int .i64 3,.int .i64 2]:=by rw[SR.2.1,gA];rfl
 have r2:rd H 2 (.ptr 10 6 4)=some [.int .i64 3,.int .i64 3]:=by rw[SR.2.1,gA];rfl
 rcases(by omega:k=0\/k=1\/k=2\/k=3) with rfl|rfl|rfl|rfl
 ·refine wnY (zI8 @IX @TN3 @r0 @r1 @r2 @i0 @i1 @i2) ?_;refine d7 (k:=1) (sv:=ro) (xv:=.msl (nx+1) 8 8 0 1) (cs:=cL iA (v8.take 0)) (new:=[.int .i64 2,.int .i64 1,.int .i64 3,.int .i64 0,.int .i64 0,.int .i64 0,.int .i64 0,.int .i64 0]) rfl ev0 (hrow.same λb h=>by have:=hb b h;simp (disch:=omega) only[ab]) ev0 (co rfl) rfl rfl (by omega) (by decide) (by decide) ?_;rintro r2 H3 n3 r1 r2' r3 r4 r5;refine wnY and_self ?_;refine⟨(0+1,r2),by dsimp only;omega,⟨by dsimp only;omega,by omega,λy hy=>by rw[r4 y (by omega) (λh=>by have:=hb y h;omega)];simp (disch:=omega) only[ab];exact fr y hy,r1,λb h=>?_⟩,ag0⟩;rcases r5 b h with h|h
  ·have:=hb b h;omega
  ·omega
 ·refine wnY (zI8 @IX @TN3 @r0 @r1 @r2 @i0 @i1 @i2) ?_;refine d7 (k:=1) (sv:=ro) (xv:=.msl (nx+1) 8 8 0 1) (cs:=cL iA (v8.take 1)) (new:=[.int .i64 2,.int .i64 3,.int .i64 2,.int .i64 0,.int .i64 0,.int .i64 0,.int .i64 0,.int .i64 0]) rfl ev0 (hrow.same λb h=>by have:=hb b h;simp (disch:=omega) only[ab]) ev0 (co rfl) rfl rfl (by omega) (by decide) (by decide) ?_;rintro r2 H3 n3 r1 r2' r3 r4 r5;refine wnY and_self ?_;refine⟨(1+1,r2),by dsimp only;omega,⟨by dsimp only;omega,by omega,λy hy=>by rw[r4 y (by omega) (λh=>by have:=hb y h;omega)];simp (disch:=omega) only[ab];exact fr y hy,r1,λb h=>?_⟩,ag0⟩;rcases r5 b h with h|h
  ·have:=hb b h;omega
  ·omega
 ·refine wnY (zI8 @IX @TN3 @r0 @r1 @r2 @i0 @i1 @i2) ?_;refine d7 (k:=1) (sv:=ro) (xv:=.msl (nx+1) 8 8 0 1) (cs:=cL iA (v8.take 2)) (new:=[.int .i64 2,.int .i64 3,.int .i64 3,.int .i64 0,.int .i64 0,.int .i64 0,.int .i64 0,.int .i64 0]) rfl ev0 (hrow.same λb h=>by have:=hb b h;simp (disch:=omega) only[ab]) ev0 (co rfl) rfl rfl (by omega) (by decide) (by decide) ?_;rintro r2 H3 n3 r1 r2' r3 r4 r5;refine wnY and_self ?_;refine⟨(2+1,r2),by dsimp only;omega,⟨by dsimp only;omega,by omega,λy hy=>by rw[r4 y (by omega) (λh=>by have:=hb y h;omega)];simp (disch:=omega) only[ab];exact fr y hy,r1,λb h=>?_⟩,ag0⟩;rcases r5 b h with h|h
  ·have:=hb b h;omega
  ·omega
 ·have g0:=(fr 0 (by omega)).trans b0;have g9:=(fr 9 (by omega)).trans b9;refine wnY (zI4 @g0 @g9 @o1 @o2) ?_;generalize hH5:ar (ar H nx [ro]) 0 _=H5;have f5:∀y,0<y->y<11->H5 y=B y:=λy h1 h2=>by rw[<-hH5];simp (disch:=omega) only[ab];exact fr y h2
  have cn:H5 nx=some [ro]:=by rw[<-hH5];simp (disch:=omega) only[ab,ac]
  have hr5:Row H5 8 ro (cL iA v8):=hrow.same λb h=>by have:=hb b h;rw[<-hH5];simp (disch:=omega) only[ab]
  have s1:Snap H5 (.msl 1 2 1 0 2) (aH [0,0]):=Row.snapI (Row.box1 ((f5 1 (by omega) (by omega)).trans b1) rfl);have s2:Snap H5 (.msl 2 2 1 0 2) (aH [1,1]):=Row.snapI (Row.box1 ((f5 2 (by omega) (by omega)).trans b2) rfl);have s4:Snap H5 (.msl 4 2 1 0 2) (aH [0,0]):=Row.snapI (Row.box1 ((f5 4 (by omega) (by omega)).trans b4) rfl);have s5:Snap H5 (.msl 5 2 1 0 2) (aH [0,1]):=Row.snapI (Row.box1 ((f5 5 (by omega) (by omega)).trans b5) rfl);have s6:Snap H5 (.msl 6 2 1 0 2) (aH [1,0]):=Row.snapI (Row.box1 ((f5 6 (by omega) (by omega)).trans b6) rfl);have s7:Snap H5 (.msl 7 2 1 0 2) (aH [1,1]):=Row.snapI (Row.box1 ((f5 7 (by omega) (by omega)).trans b7) rfl);have e3:=(f5 3 (by omega) (by omega)).trans b3;have e8:=(f5 8 (by omega) (by omega)).trans b8;have sb:Snap H5 (.msl 3 2 1 0 2) (bi [[0,0],[1,1]]):=kY e3 rfl (by decide) rfl (λy hy=>by simp at hy;rcases hy with rfl|rfl<;>rfl) (af s1 (af s2 aj));have sb1:Snap H5 (.msl 3 2 1 0 1) (bi [[0,0]]):=kY e3 rfl (by decide) rfl (λy hy=>by simp at hy;subst hy;rfl) (af s1 aj);have sb2:Snap H5 (.msl 3 2 1 1 1) (bi [[1,1]]):=kY e3 rfl (by decide) rfl (λy hy=>by simp at hy;subst hy;rfl) (af s2 aj);have se:Snap H5 .esl (bi []):=.eslsl 1
  have sc:Snap H5 (.msl 8 12 3 0 4) (cC P14.task.cases):=kY e8 rfl (by decide) rfl (fun y hy=>by
   obtain⟨c,_,rfl⟩:=dK.1 hy;rfl) (af s4 (af sb1 (af se (af s5 (af sb (af se (af s6 (af sb (af se (af s7 (af sb2 (af se aj))))))))))))
  have sm:Snap H5 (.msl nx 1 1 0 1) (bh [v8]):=kY cn rfl (by decide) rfl (fun y hy=>by
   obtain⟨c,_,rfl⟩:=dK.1 hy;rfl) (af (qD (f:=iA) (by omega) (λ_=>rfl) (λx=>x8 x) hr5) aj)
  exact fV (af (.int _ _) (af (.int _ _) (af (.int _ _) (af sc (af (.int _ _) (af sm (af (.int _ _) aj)))))))
end
end Go.Proofs.YtmpcledaoigkaaaGreat
