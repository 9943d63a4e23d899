/- Contracts of functions and plain laws, for all inputs that the theorems name. -/
import Derived.Test.YtmpcledaoigkaaaGreatXG4
import Derived.Test.YtmpcledaoigkaaaGreatXG3

set_option linter.unusedSimpArgs false
set_option linter.unusedVariables false
set_option maxHeartbeats 4000000
namespace Go.Proofs.YtmpcledaoigkaaaGreat
open Go Go.Abs
open Nat (reduceEqDiff reduceAdd reduceLeDiff)
def tt(l:List Spx):List Spx:=(ky dx l).filter λs=>!cQ (ky dx l) s
theorem vV{l:List Spx}{s:Spx}:s∈tt l↔s∈l/\cQ l s=false:=by
 unfold tt;rw[jY,kp];refine and_congr_right λ_=>?_;cases h:cQ l s
 ·refine⟨λ_=>rfl,λ_=>?_⟩;cases h2:cQ (ky dx l) s
  ·rfl
  ·obtain⟨t,t1,t2⟩:=fE.1 h2;rw[fE.2 ⟨t,kp.1 t1,t2⟩] at h;cases h
 ·refine⟨λh2=>?_,λh2=>by cases h2⟩;obtain⟨t,t1,t2⟩:=fE.1 h;rw[fE.2 ⟨t,kp.2 t1,t2⟩] at h2;cases h2
theorem FE{l:List Spx}:fQ dx (tt l):=(pR A7 l).sublist List.filter_sublist
theorem uO{l:List Spx}{s:Spx}(h:s∈tt l):s∈l:=(vV.1 h).1
theorem Bn{l:List Spx}:(tt l).length<=l.length:=fA (List.length_filter_le _ _) u0
theorem yF{l:List Spx}(h1:l.length<=4096)(h2:∀s∈l,de s=0):eg (tt l)=0:=by
 refine Ap (fA Bn h1) (λs hs=>h2 s (uO hs)) FE λs hs=>?_;cases h:cQ (tt l) s
 ·rfl
 ·obtain⟨t,t1,t2⟩:=fE.1 h;have:=(vV.1 hs).2;rw[fE.2 ⟨t,uO t1,t2⟩] at this;cases this
theorem Ll{H:Hp}{s:AV}{l:List Spx}{e f:Int}(h:Snap H s (be l))(he:e=f):Snap H (.tup [.agg [s],.int .i64 e]) (.tup [kP l,.int .i64 f]):=by
 subst he;exact cR (af (gy (af h ai)) (af (.int _ _) ai))
def uh(s:Spx)(k:Int):List Spx×Int:=if de s≠0 then([],de s) else if k<1\/(s.length:Int)<k then([],2) else(dX s k.toNat,0)
theorem ya{H:Hp}{s:AV}{l:List Spx}{e f:Int}(h:Snap H s (be l))(he:e=f):Snap H (.tup [s,.int .i64 e]) (.tup [be l,.int .i64 f]):=by
 subst he;exact cR (af h (af (.int _ _) ai))
theorem zR{H:Hp}{t x x':AV}{cs c:List AV}{nb:Nat}(hrow:Row H 1 t (cs++[x]))(hx:H nb=some c)(hs:Snap (only nb c) x x')(hne:bk t≠some nb):∃H',Fz (only nb c) H H'/\Row H' 1 t (cs++[x'])/\∀y,y≠nb->bk t≠some y->H' y=H y:=by
 generalize hcs:cs++[x]=ds at hrow;cases hrow with
 |nil=>exact absurd (congrArg List.length hcs) (by simp)
 |box b len ds g1 g2=>
  have hb:b≠nb:=λe=>hne (by rw[e];rfl);refine⟨ap (cC H nb) b (cs++[x']),⟨λy d h=>?_,λy d h=>?_⟩,Row.box b len _ ac (by rw[<-g2,<-hcs];simp),λy h1 h2=>?_⟩
  ·unfold only at h;split at h
   ·rename_i e;rw[e,hx];exact h
   ·cases h
  ·by_cases e:y=b
   ·subst e;rw[ac] at h;cases h;exact⟨ds,g1,if_neg hb,by rw[<-hcs];exact ew.snoc hs⟩
   ·rw[ab e] at h;by_cases e2:y=nb
    ·rw[e2] at h;exact absurd h (by simp[cC])
    ·rw[cA e2] at h;exact⟨d,h,if_neg e2,ew.refl _ _⟩
  ·rw[ab (λe=>h2 (by rw[e];rfl)),cA h1]
section
attribute [local irreducible] aG ah bg aQ aH aK ay aN aR bq Go.Abs.Fn aP Go.Abs.Pure ak aF Yl
theorem Ft(s:AV)(l:Spx)(hl:l.length<=1000000)(h0:l≠[])(H:Hp)(nx:Nat)(hn:fS s=some l.length)(hs:∀H',(∀x,x<nx->H' x=H x)->e7 2 H' s=some (l.length,cX l)):Abs.Fn Tryz.prog 124 [s] H nx λr H' nx'=>r=.msl nx (l.length*2) 2 0 l.length/\H'=ap H nx (cX l)/\nx'=nx+1:=by
 have hpos:=wA.2 h0;refine fO Jz ?_;simp only[KN,av];refine wnY and_self ?_;refine mY (k:=l.length) (by((try simp only[bU,ZA,reduceEqDiff,↓reduceIte,reduceAdd,reduceLeDiff]);(try with_reducible rfl));exact hn) (λh=>?_) (λh=>by omega) (λh=>by omega);refine wnY and_self ?_;refine iK rfl ev0 ev0 (hs _ λx _=>rfl) (tB _) (by omega) (by omega) ?_;refine wnY and_self ?_;exact⟨rfl,rfl,rfl⟩
theorem LA{y lo kb sb k N:Nat}{s:Spx}(hs:s.length<=1000)(hk:k<=1000)(I:List Spx->Hp->Nat->Prop)
    (hp:∀S H nx,I S H nx->H kb=some [.int .i64 k]/\H sb=some [aC s]/\lo+3<=nx/\kb<lo/\sb<lo)
    (stab:∀S H H' nx nx',I S H nx->nx<=nx'->(∀i,i<nx->¬(lo<=i/\i<lo+3)->H' i=H i)->I S H' nx')
    (rnd:∀S f H nx,I S H nx->f.length=k->f≠[]->S.length<N->Yl Tryz.prog y [.msl nx (k*2) 2 0 k] (ap H nx (cX f)) (nx+1) λr H' nx'=>r=.bool true/\I (S++[f]) H' nx'/\nx<=nx'/\∀i,lo<=i->i<lo+3->H' i=H i):
    ∀(j:Nat)(ch:Spx)(at_:Nat)(S:List Spx)(H:Hp)(nx:Nat),0<k->ch.length+j=k->S.length+(dX (s.drop at_) j).length<=N->at_<=s.length->I S H nx->H lo=some [.yld y]->H (lo+1)=some [.func 135 [.ptr kb 1 0,.ptr lo 1 0,.ptr sb 1 0,.ptr (lo+1) 1 0]]->(∃C,H (lo+2)=some C/\C.length=k*2/\C.take (ch.length*2)=cX ch)->
     Abs.Fn Tryz.prog 135 [.int .i64 at_,.msl (lo+2) (k*2) 2 0 ch.length,.ptr kb 1 0,.ptr lo 1 0,.ptr sb 1 0,.ptr (lo+1) 1 0] H nx λr H' nx'=>r=.bool true/\I (S++(dX (s.drop at_) j).map (ch++ ·)) H' nx'/\nx<=nx'/\H' lo=H lo/\H' (lo+1)=H (lo+1)/\∃C,H' (lo+2)=some C/\C.length=k*2/\C.take (ch.length*2)=cX ch:=by
 intro j
 induction j with
 |zero=>
  intro ch at_ S H nx hk0 hj hN hat hI h1 h2 ⟨C,h3,hc1,hc2⟩;obtain⟨g1,g2,g3,g4,g5⟩:=hp _ _ _ hI;have hlen:ch.length=k:=by omega
  have hne:ch≠[]:=λe=>by rw[e] at hlen;simp at hlen;omega
  obtain rfl:C=cX ch:=by rw[<-hc2,iW (by omega)]
  refine fO JV ?_;simp only[KB,av];have hcl:=Ft (.msl (lo+2) (k*2) 2 0 k) ch (by omega) hne H nx (by rw[hlen];rfl) (λH' hH'=>by rw[hlen];exact(gr (n:=k*2) (off:=0) (len:=k) ((hH' (lo+2) (by omega)).trans h3) hc1 (by omega)).trans (by rw[List.drop_zero,iW (by omega)]));rw[hlen] at hcl;rw[hlen];have z:decide ((k:Int)=k)=true:=bH rfl;refine wnY (zI5 @g1 @g2 @h1 @h2 @z) ?_;refine uP lo h1 λS0 hS hsub=>?_;refine wnY @hS ?_;refine eE ?_;refine aX ev0 ev0 hcl ?_;rintro _ H2 nx2 ⟨rfl,rfl,rfl⟩;refine iS ⟨hsub _ (by rw[ab (by omega)];exact h1),?_⟩;refine gL ?_;refine qD ev0 ev0 (Yl.mono (rnd S ch H nx hI hlen hne (by rw[yx] at hN;exact hN)) ?_);rintro r H3 nx3 ⟨rfl,e1,e2,e3⟩;refine wnY and_self ?_;refine⟨rfl,?_,e2,e3 _ (by omega) (by omega),e3 _ (by omega) (by omega),cX ch,(e3 _ (by omega) (by omega)).trans h3,hc1,by rw[<-hlen];exact hc2⟩;rw[yx,im,List.map_nil,gH];exact e1
 |succ j ih=>
  intro ch at_ S H nx hk0 hj hN hat hI h1 h2 ⟨C,h3,hc1,hc2⟩;obtain⟨g1,g2,g3,g4,g5⟩:=hp _ _ _ hI;refine fO JV ?_;simp only[KB,av];have z:decide ((ch.length:Int)=k)=false:=bL (by omega);refine wnY (zI5 @g1 @g2 @h1 @h2 @z) ?_;refine br (X:=Nat×List Spx) (λx=>[(1,.msl (lo+2) (k*2) 2 0 ch.length),(4,.ptr sb 1 0),(5,.ptr (lo+1) 1 0),(9,.int .i64 x.1)]) (λx H' nx'=>x.1<=s.length/\I x.2 H' nx'/\nx<=nx'/\H' lo=H lo/\H' (lo+1)=H (lo+1)/\(∃C,H' (lo+2)=some C/\C.length=k*2/\C.take (ch.length*2)=cX ch)/\x.2++(dX (s.drop x.1) (j+1)).map (ch++ ·)=S++(dX (s.drop at_) (j+1)).map (ch++ ·)) (λx=>s.length-x.1) (at_,S) ⟨hat,hI,ba _,rfl,rfl,⟨C,h3,hc1,hc2⟩,rfl⟩ ag0 ?_;rintro⟨i,S1⟩ H1 nx1 ⟨i1,hI1,i2,i3,i4,⟨C1,k3,d1,d2⟩,htot⟩;dsimp only at i1 hI1 htot |-;obtain⟨q1,q2,q3,q4,q5⟩:=hp _ _ _ hI1;have w1:=i3.trans h1;have w2:=i4.trans h2;by_cases hi:i<s.length
  rotate_left
  ·refine wnY (zI3 @q1 @q2 @aL) ?_;rw[show s.drop i=[] from nZ (by omega),AD,List.map_nil,gH] at htot;exact⟨rfl,by rw[<-htot];exact hI1,i2,i3,i4,C1,k3,d1,d2⟩
  have ix:=ix2 hi;rw[DG hi,du,List.map_map,<-gK] at htot;have hmm:(dX (s.drop (i+1)) j).map ((λx=>ch++x) ∘ λx=>s.getD i default::x)=(dX (s.drop (i+1)) j).map ((ch++[s.getD i default])++ ·):=wB λx _=>by simp
  rw[hmm] at htot;generalize s.getD i default=v at *;refine wnY (zI3 @q1 @q2 @aL) ?_;refine xY sb (lo+1) q2 w2 (by omega) λS0 hS1 hS2 hsub=>?_;refine wnY (zI3 @hS1 @hS2 @ix) ?_;refine eE ?_;refine wnY and_self ?_;refine⟨hsub _ (by rw[ab (by omega)];exact q2) (by rw[ab (by omega)];exact w2),?_⟩;refine eE ?_;refine B6 (b:=lo+2) (m:=k*2) (off:=0) (len:=ch.length) (n:=1) rfl ev0 (by rw[ab (by omega)];exact k3) ev0 xz rfl d1 (λ_=>by omega) (by omega) (by omega) ?_;refine iS ⟨hsub _ (by rw[ab (by omega),ab (by omega)];exact q2) (by rw[ab (by omega),ab (by omega)];exact w2),?_⟩;refine gL ?_;have hl1:(ch++[v]).length=ch.length+1:=by simp
  have hcc:=mo ch
  have hput:(bw C1 (0+ch.length*2) [.int .i64 v.color,.int .i64 v.label]).length=k*2/\(bw C1 (0+ch.length*2) [.int .i64 v.color,.int .i64 v.label]).take ((ch.length+1)*2)=cX (ch++[v]):=by
   rw[cp];simp only[bw];refine⟨by simp[d1];omega,?_⟩;rw[d2,lr,Kf,vA (by simp[hcc];omega),iW (by simp[hcc];omega)]
  have hN1:S1.length+(dX (s.drop (i+1)) j).length<=N:=by
   have:=congrArg List.length htot;simp only[cm,bC] at this;omega
  have hih:=ih (ch++[v]) (i+1) S1 (ap (ap H1 nx1 [.int .i64 v.color,.int .i64 v.label]) (lo+2) (bw C1 (0+ch.length*2) [.int .i64 v.color,.int .i64 v.label])) (nx1+1) hk0 (by omega) hN1 (by omega) (stab _ _ _ _ _ hI1 (by omega) (λx hx hn=>by rw[ab (by omega),ab (by omega)])) (by rw[ab (by omega),ab (by omega)];exact w1) (by rw[ab (by omega),ab (by omega)];exact w2) ⟨_,ac,hput.1,by rw[hl1];exact hput.2⟩;rw[hl1,show((i+1:Nat):Int)=(i:Int)+1 by omega] at hih;refine aX ev0 ev0 hih ?_;rintro r H4 nx4 ⟨rfl,f1,f2,f3,f4,C4,f5,f6,f7⟩;refine wnY and_self ?_;refine⟨(i+1,S1++(dX (s.drop (i+1)) j).map ((ch++[v])++ ·)),by dsimp only;omega,⟨by dsimp only;omega,f1,by omega,f3.trans ?_,f4.trans ?_,⟨C4,f5,f6,?_⟩,htot⟩,ag0⟩
  ·rw[ab (by omega),ab (by omega)];exact i3
  ·rw[ab (by omega),ab (by omega)];exact i4
  ·have:=congrArg (List.take (ch.length*2)) f7;rw[List.take_take,Nat.min_eq_left (by omega),lr,vA (by omega)] at this;rw[this];exact iW (by omega)
theorem F6{y kb sb k:Nat}{s:Spx}{H:Hp}{nx:Nat}(hs:s.length<=1000)(hk0:0<k)(hk:k<=1000)(I:List Spx->Hp->Nat->Prop)
    (hp:∀S H nx',I S H nx'->H kb=some [.int .i64 k]/\H sb=some [aC s]/\nx+3<=nx'/\kb<nx/\sb<nx)
    (stab:∀S H H' nx1 nx',I S H nx1->nx1<=nx'->(∀i,i<nx1->¬(nx<=i/\i<nx+3)->H' i=H i)->I S H' nx')
    (rnd:∀S f H nx1,I S H nx1->f.length=k->f≠[]->S.length<(dX s k).length->Yl Tryz.prog y [.msl nx1 (k*2) 2 0 k] (ap H nx1 (cX f)) (nx1+1) λr H' nx'=>r=.bool true/\I (S++[f]) H' nx'/\nx1<=nx'/\∀i,nx<=i->i<nx+3->H' i=H i)
    (gk:H kb=some [.int .i64 k]) (lk:kb<nx) (h0:∀H',(∀i,i<nx->H' i=H i)->I [] H' (nx+3)):
    Abs.Fn Tryz.prog 134 [.yld y,.ptr kb 1 0,.ptr sb 1 0] H nx λ_ H' nx'=>I (dX s k) H' nx':=by
 refine fO OQ ?_;simp only[Na,av];refine wnY @gk ?_;generalize hH:ap (ap (ap H nx [.yld y]) (nx+1) [.nilf]) (nx+1) (bw [.nilf] 0 [.func 135 [.ptr kb 1 0,.ptr nx 1 0,.ptr sb 1 0,.ptr (nx+1) 1 0]])=H1;have hfn:H1 (nx+1)=some [.func 135 [.ptr kb 1 0,.ptr nx 1 0,.ptr sb 1 0,.ptr (nx+1) 1 0]]:=by rw[<-hH,ac];rfl
 have hfk:H1 kb=some [.int .i64 k]:=by rw[<-hH,ab (by omega),ab (by omega),ab (by omega)];exact gk
 have hfy:H1 nx=some [.yld y]:=by rw[<-hH,ab (by omega),ab (by omega),ac]
 have hfo:∀i,i<nx->H1 i=H i:=λi hi=>by rw[<-hH,ab (by omega),ab (by omega),ab (by omega)]
 clear hH;refine xY kb (nx+1) hfk hfn (by omega) λS0 hS1 hS2 hsub=>?_;refine wnY (aI @hS1 @hS2) ?_;refine eE ?_;refine mN (k1:=.i64) (k2:=.i64) (n:=0) (m:=k) rfl ev0 ev0 (Int.le_refl _) (by omega) (by omega) (by omega) ?_;refine iS ⟨hsub _ (by rw[ab (by omega)];exact hfk) (by rw[ab (by omega)];exact hfn),?_⟩;refine gL ?_;have hz:(bv (AV.agg [AV.int .i64 0,AV.int .i64 0]) k).length=k*2:=by simp[bv,AV.cells]
 have hih:=LA (y:=y) (N:=(dX s k).length) (lo:=nx) (kb:=kb) (sb:=sb) (k:=k) (s:=s) hs hk I hp stab rnd k [] 0 [] (ap H1 (nx+2) (bv (AV.agg [AV.int .i64 0,AV.int .i64 0]) k)) (nx+3) hk0 (by simp) (by simp) (bA _) (h0 _ (λi hi=>by rw[ab (by omega)];exact hfo i hi)) (by rw[ab (by omega)];exact hfy) (by rw[ab (by omega)];exact hfn) ⟨_,ac,hz,rfl⟩;refine aX ev0 (by((try simp only[bU,ZA,reduceEqDiff,↓reduceIte,reduceAdd,reduceLeDiff]);(try with_reducible rfl));rfl) hih ?_;rintro r H4 nx4 ⟨rfl,f1,-⟩;refine wnY and_self ?_;rw[List.drop_zero,List.nil_append,show(λx:Spx=>([]:Spx)++x)=id from rfl,List.map_id] at f1;exact f1
theorem AY{kb sb k:Nat}{s:Spx}{H:Hp}{nx:Nat}(hs:s.length<=8)(hk0:0<k)(hk:k<=1000)(gk:H kb=some [.int .i64 k])(gs:H sb=some [aC s])(lk:kb<nx)(ls:sb<nx):
    Abs.Fn Tryz.prog 97 [.esl,.func 134 [.ptr kb 1 0,.ptr sb 1 0]] H nx λr H' nx'=>Row H' 1 r ((dX s k).map aC)/\nx<=nx'/\∀b',bk r=some b'->nx<=b'/\b'<nx':=by
 refine fO M7 ?_;simp only[b97,av];refine wnY and_self ?_;refine jh (nx+1) (nx+2) rfl rfl ev0 (λc0 cj hy=>?_);refine Abs.Fn.mono (F6 (nx:=nx+2) (kb:=kb) (sb:=sb) (k:=k) (s:=s) (by omega) hk0 hk (λS H' nx'=>nx+5<=nx'/\H' kb=some [.int .i64 k]/\H' sb=some [aC s]/\H' (nx+1)=some [c0]/\∃sv,H' nx=some [sv]/\Row H' 1 sv (S.map aC)/\∀b',bk sv=some b'->nx+5<=b'/\b'<nx') ?_ ?_ ?_ ?_ ?_ ?_) ?_
 ·rintro S H' nx' ⟨h1,h2,h3,h4,h5⟩;exact⟨h2,h3,by omega,by omega,by omega⟩
 ·rintro S H1 H2 a c ⟨h1,h2,h3,h4,sv,h5,h6,h7⟩ hac hs';refine⟨by omega,(hs' _ (by omega) (by omega)).trans h2,(hs' _ (by omega) (by omega)).trans h3,(hs' _ (by omega) (by omega)).trans h4,sv,(hs' _ (by omega) (by omega)).trans h5,h6.same (λb' hb'=>hs' _ (h7 b' hb').2 (by have:=h7 b' hb';omega)),λb' hb'=>⟨(h7 b' hb').1,by have:=h7 b' hb';omega⟩⟩
 ·rintro S f H' nx' ⟨h1,h2,h3,h4,sv,h5,h6,h7⟩ hfl hf0 hSN;have h4':ap H' nx' (cX f) (nx+1)=some [c0]:=by rw[ab (by omega)];exact h4
  refine hy _ _ _ _ h4' rfl ?_;clear hy;refine wnZ and_self ?_;refine⟨h4',?_⟩;have hS70:=Av hSN (CO (k:=k) hs);have hd:cC (ap H' nx' (cX f)) (nx+1) nx'=some (cX f):=by rw[cA (by omega),ac]
  have hdo:∀x,x<nx'->x≠nx+1->cC (ap H' nx' (cX f)) (nx+1) x=H' x:=λx a b=>by rw[cA b,ab (by omega)]
  generalize cC (ap H' nx' (cX f)) (nx+1)=H1 at *;refine mr ?_;refine tQ (only nx' (cX f)) (cC H1 nx') [(2,.ptr nx 1 0),(5,aC f)] (Fz.one hd) ⟨.inl rfl,.inr (Cy (s:=.msl nx' (k*2) 2 0 k) (by rw[<-hfl];exact Row.box nx' f.length (cX f) fF (mo f))),trivial⟩ ?_;have he:∀x,x<nx'->x≠nx+1->cC H1 nx' x=H' x:=λx a b=>by rw[cA (by omega)];exact hdo x a b
  have g5:cC H1 nx' nx=some [sv]:=(he nx (by omega) (by omega)).trans h5;clear hd hdo;generalize cC H1 nx'=H2 at *;refine wnY (zI3 @g5 @ce @bN) ?_;refine eR (h6.same λb' hb'=>?_) ?_
  ·have:=h7 b' hb';rw[ab (by omega)];exact he _ (by omega) (by omega)
  rintro sv' H3 nx3 r1 r2 r3 r4 r5;have zs:∀x,x<nx+5->bk sv≠some x:=λx hx e=>by have:=h7 x e;omega
  have z:∀x,x<nx'->x≠nx+1->bk sv≠some x->H3 x=H' x:=λx a1 a2 a3=>(r4 x (by omega) a3).trans (by rw[ab (by omega)];exact he x a1 a2);have g6:H3 nx=some [sv]:=(z nx (by omega) (by omega) (zs _ (by omega))).trans h5;obtain⟨q1,q2⟩:=r1.one;refine wnY (zI3 @g6 @q1 @q2) ?_;have w:∀x,x≠nx->x≠nx+1->ap (ap H3 nx (bw [sv] 0 [sv'])) (nx+1) [c0] x=H3 x:=λx a1 a2=>by rw[ab a2,ab a1]
  have u7:∀b',bk sv'=some b'->nx+5<=b'/\b'<nx3:=λb' hb'=>by
   rcases r5 b' hb' with e|⟨e1,e2⟩
   ·have:=h7 b' e;omega
   ·omega
  refine⟨rfl,⟨by omega,?_,?_,ac,sv',?_,?_,u7⟩,by omega,λx x1 x2=>?_⟩
  ·rw[w _ (by omega) (by omega),z _ (by omega) (by omega) (zs _ (by omega)),h2]
  ·rw[w _ (by omega) (by omega),z _ (by omega) (by omega) (zs _ (by omega)),h3]
  ·rw[ab (by omega),ac];rfl
  ·rw[du];exact r1.same (λb' hb'=>w b' (by have:=u7 b' hb';omega) (by have:=u7 b' hb';omega))
  ·rw[w _ (by omega) (by omega),z _ (by omega) (by omega) (zs _ (by omega))]
 ·rw[ab (by omega),ab (by omega)];exact gk
 ·omega
 ·intro H' hH';refine⟨by omega,?_,?_,?_,.esl,?_,.nil,λb' hb'=>(by cases hb')⟩
  ·rw[hH' _ (by omega),ab (by omega),ab (by omega),gk]
  ·rw[hH' _ (by omega),ab (by omega),ab (by omega),gs]
  ·rw[hH' _ (by omega),ac]
  ·rw[hH' _ (by omega),ab (by omega),ac]
 ·rintro r H' nx' ⟨h1,h2,h3,h4,sv,h5,h6,h7⟩;refine .inl ⟨h4,?_⟩;refine wnY @h5 ?_;exact⟨h6.same (λb' hb'=>cA (by have:=h7 b' hb';omega)),by omega,λb' hb'=>by have:=h7 b' hb';omega⟩
theorem Gp(s:Spx)(k:Nat)(H:Hp)(nx:Nat):Abs.Fn Tryz.prog 109 [aC s,.int .i64 k] H nx λr H' nx'=>r=.func 134 [.ptr (nx+1) 1 0,.ptr nx 1 0]/\H'=ap (ap H nx [aC s]) (nx+1) [.int .i64 k]/\nx'=nx+2:=by
 refine fO Mx ?_;simp only[N2,av];refine wnY (aI @ce @bN) ?_;exact⟨rfl,rfl,rfl⟩
theorem EO{kb sb k:Nat}{s:Spx}{H:Hp}{nx:Nat}(hs:s.length<=8)(hk0:0<k)(hk:k<=1000)(gk:H kb=some [.int .i64 k])(gs:H sb=some [aC s])(lk:kb<nx)(ls:sb<nx):
    Abs.Fn Tryz.prog 62 [.func 134 [.ptr kb 1 0,.ptr sb 1 0]] H nx λr H' nx'=>Row H' 1 r ((dX s k).map aC)/\nx<=nx':=by
 refine fO Md ?_;simp only[b62,av];refine wnY and_self ?_;refine aX ev0 ev0 (AY hs hk0 hk gk gs lk ls) ?_;rintro r H1 nx1 ⟨r1,r2,r3⟩;obtain⟨q1,q2⟩:=r1.one;refine wnY (aI @q1 @q2) ?_;exact⟨r1,r2⟩
theorem FB(s:Spx)(k:Int)(hs:Shn s):pU 85 [aC s,.int .i64 k] (.tup [be (uh s k).1,.int .i64 (uh s k).2]):=by
 refine pO QS ?_;simp only[b85,av];have hc:=lS s hs;unfold uh;by_cases he:de s=0
 rotate_left
 ·rw[if_pos he];have z:decide (de s≠0)=true:=bH he;refine wnY @z ?_;exact ya (.eslsl _) rfl
 rw[if_neg (λh=>h he)];rw[he] at hc;obtain⟨p1,p2,p3,p4⟩:=eX he;have z0:decide ((0:Int)≠0)=false:=rfl;by_cases hk:k<1\/(s.length:Int)<k
 ·rw[if_pos hk];have zz:=aI @z0 @aL;repeat' (first|refine zW ?_|apply a_n|apply a_r|refine zO ?_|refine vY ?_|refine cY ?_ (hp:=hc) (hs:=by(first|refine aB ?_ rfl|apply aS);(repeat' (first|exact ai|apply bI|apply bd|exact bX _));first|done|fail)|refine gTY ?_|refine gFY ?_|refine cTY ?_|refine cFY ?_|(refine zGY ?_ ?_<;>(intro _hg;try (exfalso;omega)))|refine bn rfl ?_|refine r2Y ?_|fail)
  all_goals first|exact ya (.eslsl _) rfl|(exfalso;omega)
 rw[if_neg hk];obtain⟨n,rfl⟩:∃n:Nat,k=n:=⟨k.toNat,by omega⟩
 rw[bR];refine wnY (aI @z0 @aL) ?_;refine aX ev0 ev0 (Gp s n _ _) ?_;rintro _ H1 nx1 ⟨rfl,rfl,rfl⟩;refine aX ev0 ev0 (EO (kb:=0+1) (sb:=0) (k:=n) (s:=s) p2 (by omega) (by omega) ac (by rw[ab (by omega),ac]) (by omega) (by omega)) ?_;rintro r H2 nx2 ⟨r1,r2⟩;obtain⟨q1,q2⟩:=r1.one;refine wnY (aI @q1 @q2) ?_;exact ya (pG r1) rfl
end
end Go.Proofs.YtmpcledaoigkaaaGreat
namespace Go.Proofs.YtmpcledaoigkaaaGreat
open Go Go.Abs Tk
open Nat (reduceEqDiff reduceAdd reduceLeDiff)
def cL{α:Type}(f:α->AV)(l:List α):List AV:=l.flatMap λx=>(f x).cells
theorem jp{α:Type}{f:α->AV}(l m:List α):cL f (l++m)=cL f l++cL f m:=List.flatMap_append
theorem uz{α:Type}{f:α->AV}(x:α):cL f [x]=(f x).cells:=by unfold cL;simp
theorem Cq{α:Type}{f:α->AV}(l:List α):(l.map f).flatMap AV.cells=cL f l:=by
 induction l with
 |nil=>rfl
 |cons a l ih=>rw[im,l8,ih];rfl
theorem pA{α:Type}{f:α->AV}{sz:Nat}(h:∀x,(f x).cells.length=sz)(l:List α):(cL f l).length=l.length*sz:=by
 induction l with
 |nil=>simp[cL]
 |cons a l ih=>rw[show cL f (a::l)=(f a).cells++cL f l from rfl,cm,ih,h,d5,eJ];omega
theorem tA{α:Type}{f:α->AV}(h:∀x,AV.ones (f x).cells=true)(l:List α):AV.ones (cL f l)=true:=by
 unfold AV.ones;rw[eA];intro x hx;obtain⟨v,_,hv⟩:=List.mem_flatMap.1 hx;exact eA.1 (h v) x hv
theorem qW{α:Type}{f:α->AV}{sz:Nat}(hz:0<sz)(hc:∀x,(f x).cells.length=sz)(hd:∀x,∀c∈(f x).cells,Dat c){H:Hp}{s:AV}{l:List α}(h:Row H sz s (cL f l)):Snap H s (gX sz f l):=by
 refine Row.snap (elems:=l.map f) (by rw[Cq];exact h) (λy hy=>?_) hz (λy hy c hx=>?_)
 ·obtain⟨n,_,rfl⟩:=dF.1 hy;exact hc n
 ·obtain⟨n,_,rfl⟩:=dF.1 hy;exact hd n c hx
theorem uK{α:Type}{f:α->AV}{sz:Nat}{H:Hp}{l:List α}:e7 sz H (gX sz f l)=some (l.length,cL f l):=by
 unfold gX;rw[jq,Cq];simp
theorem Af{H:Hp}{sz:Nat}{s:AV}{cs:List AV}(h:Row H sz s cs)(hn:cs≠[]):∃b len,s=.msl b (len*sz) sz 0 len/\H b=some cs/\cs.length=len*sz:=by
 cases h with
 |nil=>exact absurd rfl hn
 |box b len cs h1 h2=>exact⟨b,len,rfl,h1,h2⟩
theorem FJ{H:Hp}{s:AV}{l:List RndV}(h:Row H 7 s (cL fG l)):Snap H s (bV l):=qW (f:=fG) (by omega) (λ_=>rfl) (λx=>yr x) h
theorem CU{H:Hp}{s:AV}{l:List (List RndV)}(h:Row H 1 s (l.map bV)):Snap H s (dU l):=h.snapL' (λ_=>rfl) (λx _=>lD x)
theorem yh(l:List RndV):(cL fG l).length=l.length*7:=pA (f:=fG) (λ_=>rfl) l
theorem xX(l:List RndV):AV.ones (cL fG l)=true:=tA (f:=fG) (λ_=>rfl) l
theorem De:∀{l:List Nat}{x:Nat},x∈l->x<=l.sum
 |y::l,x,h=>by
  rw[List.sum_cons];rcases fR.1 h with rfl|h
  ·omega
  ·have:=De h;omega
def lj(p:PrbV):Int:=if eF p.task≠0 then eF p.task else if sX p.adv≠0 then sX p.adv else if p.task.n≠p.adv.n then 22 else if p.rounds<0\/6<p.rounds then 2 else 0
def oH(p:PrbV)(lim:Int):Int:=(p.task.cases.length:Int)*kV p.adv p.rounds.toNat lim
def Ct(p:PrbV):Bool:=
 if Cu p.task=true/\yc p.adv=true/\¬(3<p.task.n/\p.task.n<=5) then(if lj p≠0 then true else decide (oH p 4096<=60) || decide (4096<oH p 4096)) else false
structure ShP(p:PrbV):Prop where
 c:∀c∈p.task.cases,ShC c
 t:Sh p.task.cases
 a:p.adv.states.length<=17592186044416
 m:∀l∈p.adv.states,l.length<=17592186044416
theorem fg{p:PrbV}(h:lj p=0):eF p.task=0/\AdvOk p.adv/\p.task.n=p.adv.n/\0<=p.rounds/\p.rounds<=6:=by
 unfold lj at h;split at h
 ·rename_i q;exact absurd h q
 split at h
 ·rename_i q;exact absurd h q
 split at h
 ·exact absurd h (by decide)
 split at h
 ·exact absurd h (by decide)
 exact⟨by omega,KJ (by omega),by omega,by omega,by omega⟩
theorem qQ{p:PrbV}(h:ShP p)(hf:p.adv.states.length<=8):ShA p.adv:=⟨hf,h.m⟩
def hk(g:Nat->Int)(k:Nat):List Int:=(List.range 5).map λi=>if i<k then g i else 0
def vwc(a b c:Int)(l:List Int):List AV:=.int .i64 a::.int .i64 b::.int .i64 c::l.map (AV.int .i64)
theorem pk(g:Nat->Int)(k:Nat):(hk g k).length=5:=by simp[hk]
theorem pI(a b c:Int){l:List Int}(h:l.length=5):(vwc a b c l).length=8:=by simp[vwc,h]
theorem jv{l:List Int}{k:Nat}(x:Int):(l.map (AV.int .i64)).set k (.int .i64 x)=(l.set k x).map (AV.int .i64):=by rw[List.map_set]
theorem ga{cs:List AV}{k:Nat}(h:k<cs.length)(x:AV):bw cs k [x]=cs.set k x:=by
 unfold bw;rw[List.set_eq_take_append_cons_drop,if_pos h];simp
theorem tL{a b c:Int}{l:List Int}{k:Nat}(hl:l.length=5)(h:k<5)(x:Int):bw (vwc a b c l) (3+k) [.int .i64 x]=vwc a b c (l.set k x):=by
 rw[ga (by rw[pI a b c hl];omega),show 3+k=k+1+1+1 by omega];unfold vwc;rw[List.set_cons_succ,List.set_cons_succ,List.set_cons_succ,jv]
theorem yX{g:Nat->Int}{k:Nat}(h:k<5):(hk g k).set k (g k)=hk g (k+1):=by
 rcases(by omega:k=0\/k=1\/k=2\/k=3\/k=4) with rfl|rfl|rfl|rfl|rfl<;>rfl
theorem F9(a b c:Int)(g:Nat->Int):vwc a b c (hk g 5)=[.int .i64 a,.int .i64 b,.int .i64 c,.int .i64 (g 0),.int .i64 (g 1),.int .i64 (g 2),.int .i64 (g 3),.int .i64 (g 4)]:=rfl
def A6(vs:List VwV)(v:VwV):Int:=if v∈vs then(vs.idxOf v:Nat) else-1
theorem Fp {v w:VwV}:[v.proc,v.round,v.input,v.h0,v.h1,v.h2,v.h3,v.h4]=[w.proc,w.round,w.input,w.h0,w.h1,w.h2,w.h3,w.h4] ↔ v=w:=⟨fun h=>by
 obtain⟨a,b,c,d,e,f,g,i⟩:=v;obtain⟨a',b',c',d',e',f',g',i'⟩:=w;simp only[List.cons.injEq,and_true] at h;obtain⟨rfl,rfl,rfl,rfl,rfl,rfl,rfl,rfl⟩:=h;rfl,λh=>h▸rfl⟩
theorem FO{vs:List VwV}{v:VwV}{k:Nat}(hk:k<vs.length)(h:∀i,i<k->vs.getD i default≠v)(e:vs.getD k default=v):vs.idxOf v=k:=by
 have e1:vs.getD k default=vs[k]:=by simp[List.getD,hk]
 unfold List.idxOf;refine(List.findIdx_eq hk).2 ⟨by rw[<-e1,e];exact beq_self_eq_true v,λj hj=>?_⟩;have:=h j hj;rw[show vs.getD j default=vs[j] by simp[List.getD,show j<vs.length by omega]] at this;exact beq_eq_false_iff_ne.2 this
theorem uE(l:List VwV):(cL dD l).length=l.length*8:=pA (f:=dD) (λ_=>rfl) l
theorem Ja(l:List VwV):AV.ones (cL dD l)=true:=tA (f:=dD) (λ_=>rfl) l
theorem G0{H:Hp}{s:AV}{l:List VwV}(h:Row H 8 s (cL dD l)):Snap H s (dK l):=qW (f:=dD) (by omega) (λ_=>rfl) (λx=>Ch x) h
theorem Hy(vs:List VwV)(v:VwV):(((kq vs v).idxOf v:Nat):Int)=if 0<=A6 vs v then A6 vs v else(vs.length:Int):=by
 unfold kq A6;by_cases h:v∈vs
 ·rw[if_pos h,if_pos h,if_pos (by omega)]
 ·rw[if_neg h,if_neg h,if_neg (by decide),List.idxOf_append,if_neg h];simp
theorem IU(vs:List VwV)(v:VwV):kq vs v=if 0<=A6 vs v then vs else vs++[v]:=by
 unfold kq A6;by_cases h:v∈vs
 ·rw[if_pos h,if_pos h,if_pos (by omega)]
 ·rw[if_neg h,if_neg h,if_neg (by decide)]
def vf(inp:List Int)(w:List RndV):Nat->List (List Int)->Nat->VwV
 |0,_=>pq inp
 |k+1,rows=>mD (w.getD k default) ((k+1:Nat):Int).toNat (rows.getD k [])
def plV(n:Nat)(inp:List Int)(w:List RndV)(vs:List VwV):Nat->List VwV×List (List Int)
 |0=>(vs,[])
 |k+1=>(fP (vf inp w k (plV n inp w vs k).2) n (plV n inp w vs k).1,(plV n inp w vs k).2++[eW (vf inp w k (plV n inp w vs k).2) n (plV n inp w vs k).1])
theorem zU(n:Nat)(inp:List Int)(w:List RndV)(vs:List VwV):∀k,FX n inp w vs k=plV n inp w vs (k+1)
 |0=>rfl
 |k+1=>by
  rw[plV,<-zU n inp w vs k];rfl
theorem me(n:Nat)(inp:List Int)(w:List RndV)(vs:List VwV):∀k,(plV n inp w vs k).2.length=k/\(∀l∈(plV n inp w vs k).2,l.length=n)/\(plV n inp w vs k).1.length<=vs.length+k*n
 |0=>⟨rfl,λ_ h=>(by cases h),by show vs.length<=_;omega⟩
 |k+1=>by
  obtain⟨h1,h2,h3⟩:=me n inp w vs k;refine⟨?_,λl hl=>?_,?_⟩
  ·show((plV n inp w vs k).2++[_]).length=_;rw[cm,h1];rfl
  ·rcases gV.1 hl with hl|hl
   ·exact h2 l hl
   ·rw[ed.1 hl,iM]
  ·have:=lI (vf inp w k (plV n inp w vs k).2) n (plV n inp w vs k).1;rw[eJ];show(fP _ n _).length<=_;omega
def eZ(p:PrbV):List (List RndV):=bt p.adv p.rounds.toNat 0
def stW(p:PrbV)(c:Nat)(s:BldS)(i:Nat):BldS:=((eZ p).take i).foldl (sT p c) s
theorem LP(p:PrbV)(c:Nat)(s:BldS):stW p c s 0=s:=rfl
theorem Dc(p:PrbV)(c:Nat)(s:BldS):stW p c s (eZ p).length=CM p s c:=by unfold stW;rw[List.take_length];rfl
theorem Aq{p:PrbV}{c:Nat}{s:BldS}{i:Nat}(h:i<(eZ p).length):stW p c s (i+1)=sT p c (stW p c s i) ((eZ p).getD i default):=by
 unfold stW;rw[bO h,List.foldl_append];rfl
theorem rA(p:PrbV)(c:Nat):bldS p (c+1)=CM p (bldS p c) c:=by unfold bldS;rw[List.range_succ,List.foldl_append];rfl
theorem yq(p:PrbV)(c:Nat)(s:BldS)(w:List RndV):sT p c s w=⟨(plV p.task.n.toNat (p.task.cases.getD c default).inp w s.views (p.rounds.toNat+1)).1,s.execs++[⟨c,w,(plV p.task.n.toNat (p.task.cases.getD c default).inp w s.views (p.rounds.toNat+1)).2⟩]⟩:=by
 unfold sT;rw[zU]
theorem C0{p:PrbV}(hn:p.task.n<=5)(hr:p.rounds<=6)(c:Nat)(s:BldS)(w:List RndV):(sT p c s w).execs.length=s.execs.length+1/\(sT p c s w).views.length<=s.views.length+35:=by
 rw[yq];refine⟨by rw[cm];rfl,?_⟩;have h1:=(me p.task.n.toNat (p.task.cases.getD c default).inp w s.views (p.rounds.toNat+1)).2.2;have h2:(p.rounds.toNat+1)*p.task.n.toNat<=7*5:=Nat.mul_le_mul (by omega) (by omega);show(plV _ _ _ _ _).1.length<=_;omega
theorem yT{p:PrbV}(hn:p.task.n<=5)(hr:p.rounds<=6)(c:Nat)(s:BldS):∀i,i<=(eZ p).length->(stW p c s i).execs.length=s.execs.length+i/\(stW p c s i).views.length<=s.views.length+35*i
 |0,_=>⟨rfl,ba _⟩
 |i+1,h=>by
  obtain⟨h1,h2⟩:=yT hn hr c s i (by omega);obtain⟨h3,h4⟩:=C0 hn hr c (stW p c s i) ((eZ p).getD i default);rw[Aq (by omega)];omega
theorem uj{p:PrbV}(hn:p.task.n<=5)(hr:p.rounds<=6):∀c,(bldS p c).execs.length=c*(eZ p).length/\(bldS p c).views.length<=35*(c*(eZ p).length)
 |0=>by rw[oV];exact⟨rfl,ba _⟩
 |c+1=>by
  obtain⟨h1,h2⟩:=uj hn hr c;obtain⟨h3,h4⟩:=yT hn hr c (bldS p c) (eZ p).length (ba _);rw[rA,<-Dc,eJ,Nat.one_mul];omega
theorem uM{t:TaskV}(h:eF t=0){c:Nat}(hc:c<t.cases.length):((t.cases.getD c default).inp.length:Int)=t.n:=by
 unfold eF at h;split at h
 ·exact absurd h (by decide)
 split at h
 ·exact absurd h (by decide)
 have h1:=i9 h c hc;unfold jE at h1;split at h1
 ·rename_i q;exact absurd h1 q
 rename_i q;have q:cz (t.cases.getD c default).inp t.n t.ins=0:=by omega
 unfold cz at q;split at q
 ·exact absurd q (by decide)
 ·omega
theorem dv{t:TaskV}(h:eF t=0):1<=t.n/\t.n<=5/\1<=t.cases.length/\t.cases.length<=1024:=by
 unfold eF at h;split at h
 ·exact absurd h (by decide)
 split at h
 ·exact absurd h (by decide)
 omega
theorem fp{H:Hp}{sz:Nat}{t x x':AV}{cs c:List AV}{nb:Nat}(hrow:Row H sz t (cs++[x]))(hx:H nb=some c)(hs:Snap (only nb c) x x')(hne:bk t≠some nb):∃H',Fz (only nb c) H H'/\Row H' sz t (cs++[x'])/\∀y,y≠nb->bk t≠some y->H' y=H y:=by
 generalize hcs:cs++[x]=ds at hrow;cases hrow with
 |nil=>exact absurd (congrArg List.length hcs) (by simp)
 |box b len ds g1 g2=>
  have hb:b≠nb:=λe=>hne (by rw[e];rfl);refine⟨ap (cC H nb) b (cs++[x']),⟨λy d h=>?_,λy d h=>?_⟩,Row.box b len _ ac (by rw[<-g2,<-hcs];simp),λy h1 h2=>?_⟩
  ·unfold only at h;split at h
   ·rename_i e;rw[e,hx];exact h
   ·cases h
  ·by_cases e:y=b
   ·subst e;rw[ac] at h;cases h;exact⟨ds,g1,if_neg hb,by rw[<-hcs];exact ew.snoc hs⟩
   ·rw[ab e] at h;by_cases e2:y=nb
    ·rw[e2] at h;exact absurd h (by simp[cC])
    ·rw[cA e2] at h;exact⟨d,h,if_neg e2,ew.refl _ _⟩
  ·rw[ab (λe=>h2 (by rw[e];rfl)),cA h1]
theorem Row.get{H:Hp}{s:AV}{cs:List AV}(h:Row H 1 s cs){j:Nat}{x:AV}(hj:cs[j]?=some x):∃b n off,cu 1 s (.int .i64 (j:Int))=some (.ptr b n off)/\bk s=some b/\∀H':Hp,H' b=H b->rd1 H' (.ptr b n off)=some x:=by
 cases h with
 |nil=>simp at hj
 |box b len cs hb hl=>
  have hlt:=(bZ.1 hj).1;refine⟨b,len,j,?_,rfl,λH' h'=>?_⟩
  ·rw[gu,if_pos ⟨by omega,by omega⟩];simp only[bR,Nat.mul_one,cp]
  ·rw[x7 (h'.trans hb) (by omega)];exact hj
theorem ew.mid{Hf:Hp}{x x':AV}(a b:List AV)(h:Snap Hf x x'):ew Hf (a++x::b) (a++x'::b):=by
 refine⟨by simp,λi y y' h1 h2=>?_⟩;by_cases hi:i<a.length
 ·rw[gZ hi] at h1 h2;rw[h1] at h2;cases h2;exact .inl rfl
 ·rw[iG (by omega)] at h1 h2;cases hj:i-a.length with
  |zero=>rw[hj] at h1 h2;simp at h1 h2;subst h1 h2;exact .inr h
  |succ j=>rw[hj] at h1 h2;simp at h1 h2;rw[h1] at h2;cases h2;exact .inl rfl
theorem Fz.cell{H:Hp}{b:Nat}{cs cs':List AV}(h:H b=some cs)(hc:ew bK cs cs'):Fz bK H (ap H b cs'):=
 ⟨fun _ _ h=>(by cases h),fun y d hd=>by
  by_cases e:y=b
  ·subst e;rw[ac] at hd;cases hd;exact⟨cs,h,rfl,hc⟩
  ·rw[ab e] at hd;exact⟨d,hd,rfl,ew.refl _ _⟩⟩
theorem FI{H:Hp}{s:AV}{l:List ExV}(h:Row H 3 s (cL il l)):Snap H s (eB l):=qW (f:=il) (by omega) (λ_=>rfl) (λx=>BZ x) h
theorem Fh(l:List ExV):(cL il l).length=l.length*3:=pA (f:=il) (λ_=>rfl) l
theorem cP{H:Hp}{b sz:Nat}{cs:List AV}(h:cs.length=sz):e7 sz (ap H b cs) (.msl b sz sz 0 1)=some (1,cs):=by
 rw[gr ac h (by omega),List.drop_zero,iW (by omega)]
theorem vN{H:Hp}{s:AV}{cs:List AV}(h:Row H 1 s cs)(hn:cs≠[]):∃b len,s=.msl b len 1 0 len/\H b=some cs/\cs.length=len:=by
 obtain⟨b,len,h1,h2,h3⟩:=Af h hn;rw[Nat.mul_one] at h1 h3;exact⟨b,len,h1,h2,h3⟩
theorem Row.box1{H:Hp}{b len:Nat}{cs:List AV}(h:H b=some cs)(hl:cs.length=len):Row H 1 (.msl b len 1 0 len) cs:=by
 have:=Row.box (sz:=1) b len cs h (by omega)
 rwa [Nat.mul_one] at this
def Z10:List AV:=[.int .i64 0,.int .i64 0,.int .i64 0,.esl,.int .i64 0,.esl,.int .i64 0,.int .i64 0,.esl,.esl]
theorem CB:∀x∈Z10,Dat x:=DatL.cons .int (DatL.cons .int (DatL.cons .int (DatL.cons .esl (DatL.cons .int (DatL.cons .esl (DatL.cons .int (DatL.cons .int (DatL.cons .esl (DatL.cons .esl DatL.nil)))))))))
def iI(p:PrbV):Bool:=Ct p&&decide (lj p=0)&&decide (oH p 4096<=60)
structure OkP(p:PrbV):Prop where
 sh:ShP p
 sa:ShA p.adv
 mv:dy p.adv.states<=40
 e0:lj p=0
 num:oH p 4096<=60
 n3:p.task.n<=3
 few:Cu p.task=true
theorem zI{p:PrbV}(h:Ct p=true):Cu p.task=true/\yc p.adv=true/\¬(3<p.task.n/\p.task.n<=5):=by
 unfold Ct at h;split at h
 ·rename_i q;exact q
 ·cases h
theorem nU{a:AdvV}(h:yc a=true):a.states.length<=8/\dy a.states<=40:=by
 unfold yc at h;rw[d9,gI,gI] at h;exact h
theorem v9{p:PrbV}(hs:ShP p)(h:iI p=true):OkP p:=by
 unfold iI at h;rw[d9,d9,gI,gI] at h;obtain⟨⟨h1,h2⟩,h3⟩:=h;obtain⟨q1,q2,q3⟩:=zI h1;obtain⟨q4,q5⟩:=nU q2;have:=(dv (fg h2).1).2.1;exact⟨hs,qQ hs q4,q5,h2,h3,by omega,q1⟩
theorem oo{p:PrbV}(h0:lj p=0)(h:oH p 4096<=60):p.task.cases.length*(eZ p).length<=60/\(eZ p).length<=60/\1<=p.task.cases.length/\1<=(eZ p).length:=by
 obtain⟨hck,ho,hn,r0,r6⟩:=fg h0;obtain⟨n1,n5,c1,c2⟩:=dv hck;have hto:Cz p.adv:=λl hl m hm=>⟨(ho.mv l hl m hm).to0,(ho.mv l hl m hm).to1⟩
 have hw:=rN hto ho.ne p.rounds.toNat 0 (by have:=ho.s1;omega)
 have hw1:1<=(eZ p).length:=by
  unfold eZ;cases e:bt p.adv p.rounds.toNat 0 with
  |nil=>exact absurd e hw
  |cons a l=>rw[d5];omega
 unfold oH at h;rw[tI hto (by have:=ho.s1;omega) (by omega)] at h;change (p.task.cases.length:Int)*min ((eZ p).length:Int) (4096+1)<=60 at h;generalize (eZ p).length=L at *;generalize p.task.cases.length=C at *
 have h1:min (L:Int) (4096+1)<=60:=by
  have:min (L:Int) (4096+1)<=(C:Int)*min (L:Int) (4096+1):=by
   have h2:(1:Int)*min (L:Int) (4096+1)<=(C:Int)*min (L:Int) (4096+1):=Int.mul_le_mul_of_nonneg_right (by omega) (by omega);omega
  omega
 have h2:min (L:Int) (4096+1)=L:=by omega
 rw[h2] at h h1;have h3:((C*L:Nat):Int)<=60:=by rw[Int.natCast_mul];exact h
 omega
section
attribute [local irreducible] aG ah bg aQ aH aK ay aN aR bq Go.Abs.Fn aP Go.Abs.Pure ak aF Yl
theorem KE(a:AdvV)(ha:ShA a)(ho:AdvOk a):∀(k s:Nat),s<a.states.length->k<=6->(bt a k s).length<=4096->pU 117 [ee a,.int .i64 s,.int .i64 k] (dU (bt a k s)):=by
 intro k
 induction k with
 |zero=>
  intro s hs hk hw;refine pO JJ ?_;simp only[Lx,av];unfold ee;rw[PC.2.2.2.1];have z:decide (((0:Nat):Int)=0)=true:=rfl;refine wnY (aI @PE @z) ?_;refine nt (l:=[bV []]) ac rfl (by simp) rfl (λy hy=>?_) (λi a c ha hc=>?_)
  ·simp at hy;subst hy;rfl
  ·match i with
   |0=>simp at ha hc;subst ha hc;exact .eslsl 7
 |succ k ih=>
  intro s hs hk hw;have hwl:=xw (a:=a) (k:=k) (s:=s)
  have hcall:∀m∈a.st s,(bt a k m.to.toNat).length<=4096/\pU 117 [ee a,.int .i64 m.to,.int .i64 k] (dU (bt a k m.to.toNat)):=λm hm=>by
   obtain⟨_,_,q1,q2⟩:=ho.mv _ (mh hs) m hm
   have hle:(bt a k m.to.toNat).length<=(bt a (k+1) s).length:=by
    rw[hwl];exact De (dF.2 ⟨m,hm,rfl⟩)
   have:=ih m.to.toNat (by omega) (by omega) (by omega);rw[show((m.to.toNat:Nat):Int)=m.to by omega] at this;exact⟨by omega,this⟩
  refine pO JJ ?_;simp only[Lx,av];have hd:=dL a;unfold ee at hcall hd |-;rw[PC.2.2.2.1] at hcall hd |-;have z:decide (((k+1:Nat):Int)=0)=false:=bL (by omega);have ix:=Aj hs;rw[pj] at ix;have hll:=ha.each _ (mh hs);have hW:bt a (k+1) s=(a.st s).flatMap λm=>(bt a k m.to.toNat).map λw=>m.r::w:=rfl;rw[hW] at hw |-;have hlen6:∀m∈a.st s,∀w∈bt a k m.to.toNat,w.length<=6:=λm _ w hw=>by rw[nR hw];omega
  clear ih hwl hW;generalize a.st s=l at *;have tk:((k+1:Nat):Int)-1=(k:Nat):=by omega
  refine wnY (aI @PE @z) ?_;refine br (X:=Nat×AV) (λx=>[(1,.int .i64 s),(2,.int .i64 ((k+1:Nat):Int)),(3,.ptr 0 2 0),(7,x.2),(8,.int .i64 x.1)]) (λx H nx=>x.1<=l.length/\H 0=some [.int .i64 a.n,bj a.states]/\0<nx/\Row H 1 x.2 (((l.take x.1).flatMap λm=>(bt a k m.to.toNat).map λw=>m.r::w).map bV)/\∀b,bk x.2=some b->0<b/\b<nx) (λx=>l.length-x.1) (0,.esl) ⟨bA _,ac,ig,.nil,λb h=>(by cases h)⟩ (by simp (disch:=omega) only[agr,ZG,reduceEqDiff,↓reduceIte,SL]) ?_;rintro⟨i,sv⟩ H nx ⟨i1,g0,hn,hrow,hb⟩;dsimp only at i1 hrow hb |-;by_cases hi:i<l.length
  rotate_left
  ·rw[iW (by omega)] at hrow;refine wnY (zI3 @PE @g0 @ix) ?_;exact CU hrow
  have ixm:=ixM hi;rw[PC.2.2.1] at ixm;have hm:=au hi;obtain⟨c1,c2⟩:=hcall _ hm;have c3:=hlen6 _ hm
  have hdl:(((l.take i).flatMap λm=>(bt a k m.to.toNat).map λw=>m.r::w)++(bt a k (l.getD i default).to.toNat).map λw=>(l.getD i default).r::w).length<=4096:=by
   have e:l.flatMap (λm=>(bt a k m.to.toNat).map λw=>m.r::w)=(l.take (i+1)).flatMap (λm=>(bt a k m.to.toNat).map λw=>m.r::w)++(l.drop (i+1)).flatMap λm=>(bt a k m.to.toNat).map λw=>m.r::w:=by
    rw[<-List.flatMap_append,wk]
   rw[e,cm,bO hi,List.flatMap_append,l8,List.flatMap_nil,gH] at hw;omega
  have hnx:((l.take (i+1)).flatMap λm=>(bt a k m.to.toNat).map λw=>m.r::w)=((l.take i).flatMap λm=>(bt a k m.to.toNat).map λw=>m.r::w)++(bt a k (l.getD i default).to.toNat).map λw=>(l.getD i default).r::w:=by
   rw[bO hi,List.flatMap_append,l8,List.flatMap_nil,gH]
  generalize bt a k (l.getD i default).to.toNat=R at *;generalize l.getD i default=m at *;generalize hD:((l.take i).flatMap λm=>(bt a k m.to.toNat).map λw=>m.r::w)=D at *;refine wnY (zI5 @PE @g0 @ix @ixm @tk) ?_;have f0:∀cs x,x<nx->ap (ap H nx cs) nx (bw cs 0 [.int .i64 m.r.n,.int .i64 m.r.h0,.int .i64 m.r.h1,.int .i64 m.r.h2,.int .i64 m.r.h3,.int .i64 m.r.h4,.int .i64 m.r.f,.int .i64 m.to]) x=H x:=λcs x hx=>by rw[ab (by omega),ab (by omega)]
  refine sB (X:=Nat×AV) (λx=>[(1,.int .i64 s),(2,.int .i64 ((k+1:Nat):Int)),(3,.ptr 0 2 0),(7,x.2),(8,.int .i64 i),(9,.ptr nx 8 0),(10,dU R),(11,.int .i64 x.1)]) (λx H n=>x.1<=R.length/\H 0=some [.int .i64 a.n,bj a.states]/\nx<n/\H nx=some [.int .i64 m.r.n,.int .i64 m.r.h0,.int .i64 m.r.h1,.int .i64 m.r.h2,.int .i64 m.r.h3,.int .i64 m.r.h4,.int .i64 m.r.f,.int .i64 m.to]/\Row H 1 x.2 ((D++(R.take x.1).map (m.r:: ·)).map bV)/\∀b,bk x.2=some b->0<b/\b≠nx/\b<n) (λx=>R.length-x.1) (0,sv) ⟨bK,_,Fz.none,⟨bA _,(f0 _ 0 hn).trans g0,by omega,ac,by rw[List.take_zero,List.map_nil,gH];exact hrow.same λb h=>f0 _ b (hb b h).2,λb h=>by have:=hb b h;omega⟩,fk (by simp (disch:=omega) only[agr,ZG,reduceEqDiff,↓reduceIte,SL])⟩ ?_;clear hrow hb g0 f0;rintro⟨j,sv⟩ H1 nx1 ⟨j1,g0,hn1,gm,hrow,hb⟩;dsimp only at j1 hrow hb |-;obtain⟨o1,o2⟩:=hrow.one;by_cases hj:j<R.length
  rotate_left
  ·rw[iW (by omega)] at hrow;refine wnY (zI3 @PE @o1 @o2) ?_;exact⟨(i+1,sv),by dsimp only;omega,⟨by dsimp only;omega,g0,by omega,by dsimp only;rw[hnx];exact hrow,λb h=>by have:=hb b h;omega⟩,ag0⟩
  have iy:=KM hj;have hwl:=c3 _ (au hj)
  have e1:(D++(R.take (j+1)).map (m.r:: ·)).map bV=(D++(R.take j).map (m.r:: ·)).map bV++[bV (m.r::R.getD j default)]:=by
   simp only[bO hj,du,gK,im,List.map_nil]
  have hln:((D++(R.take j).map (m.r:: ·)).map bV).length<=4096:=by
   rw[cm,bC] at hdl;rw[bC,cm,bC,jg];omega
  generalize R.getD j default=w at *;refine wnY (zI5 @PE @iy @gm @o1 @o2) ?_;refine ef (xv:=bV w) (sv:=.msl nx1 7 7 0 1) (cs:=[.int .i64 m.r.n,.int .i64 m.r.h0,.int .i64 m.r.h1,.int .i64 m.r.h2,.int .i64 m.r.h3,.int .i64 m.r.h4,.int .i64 m.r.f]) rfl ev0 (Row.box nx1 1 _ ac rfl) ev0 uK (xX w) (yh w) (by omega) (by simp;omega) (by simp;omega) ?_;rintro s2 H2 nx2 r1 r2 r3 r4 r5;obtain⟨b2,ln,rfl,hb2,hl2⟩:=Af r1 (by simp)
  have hb3:nx1<=b2/\b2<nx2:=by
   rcases r5 b2 rfl with e|⟨e,_⟩
   ·cases e;omega
   ·omega
  have hcw:[AV.int .i64 m.r.n,.int .i64 m.r.h0,.int .i64 m.r.h1,.int .i64 m.r.h2,.int .i64 m.r.h3,.int .i64 m.r.h4,.int .i64 m.r.f]++cL fG w=cL fG (m.r::w):=rfl;rw[hcw] at hb2 hl2;refine wnY and_self ?_;have hold:∀b,b<nx1->H2 b=H1 b:=λb hb=>by rw[r4 b (by omega) (λe=>by cases e;omega),ab (by omega)]
  refine ef rfl ev0 (hrow.same λb h=>by rw[ab (by have:=hb b h;omega)];exact hold b (hb b h).2.2) ev0 (k:=1) (new:=[.msl b2 (ln*7) 7 0 ln]) lY rfl rfl ig (by omega) (by omega) ?_;rintro s3 H3 nx3 u1 u2 u3 u4 u5;have hx:∀x,x<nx1->bk sv≠some x->H3 x=H1 x:=λx h1 h2=>by rw[u4 x (by omega) h2,ab (by omega)];exact hold x h1
  have hb4:H3 b2=some (cL fG (m.r::w)):=by
   rw[u4 b2 (by omega) (λe=>by have:=hb b2 e;omega),ab (by omega)];exact hb2
  obtain ⟨H4,hfz,hr4,hs4⟩:=zR (x':=bV (m.r :: w)) u1 hb4 (FJ (Row.box b2 ln _ fF hl2)) (fun e=>by
   rcases u5 b2 e with h|h
   ·have:=hb b2 h;omega
   ·omega)
  have hz:∀x,x<nx1->bk sv≠some x->H4 x=H1 x:=λx h1 h2=>by
   rw [hs4 x (by omega) (fun e=>by
    rcases u5 x e with h|h
    ·exact h2 h
    ·omega)]
   exact hx x h1 h2
  refine wnY and_self ?_;refine⟨(j+1,s3),by dsimp only;omega,_,H4,hfz,⟨by dsimp only;omega,(hz 0 (by omega) λe=>by have:=hb 0 e;omega).trans g0,by omega,(hz nx hn1 λe=>by have:=hb nx e;omega).trans gm,?_,λb h=>?_⟩,fk ag0⟩
  ·dsimp only;rw[e1];exact hr4
  ·rcases u5 b h with h|h
   ·have:=hb b h;omega
   ·omega
theorem ou(p:PrbV)(hs:ShP p)(ha:ShA p.adv)(hm:dy p.adv.states<=4096):pU 90 [cT p] (.int .i64 (lj p)):=by
 refine pO Qw ?_;simp only[b90,av];have h1:=KU p.task hs.c hs.t;have h2:=Ea p.adv ha hm;have d1:=nw p.task;have d2:=dL p.adv;unfold cT lj;unfold qj at h1 d1;unfold ee at h2 d2;rw[PC.2.2.2.1] at h2 d2;rw[PC.2.2.2.2.1];generalize eF p.task=e1 at *;generalize sX p.adv=e2 at *;have zz:=@PE;repeat' (first|refine zW ?_|apply a_n|apply a_r|refine zO ?_|refine vZ ?_|refine cZ ?_ (hp:=by first|exact h1|exact h2)|refine bxZ ?_|refine gTZ ?_|refine gFZ ?_|refine cTZ ?_|(refine zGZ ?_ ?_<;>(intro _hg;try (exfalso;omega)))|refine bn rfl ?_|refine r1Z ?_|fail)
 all_goals (refine aA ?_;(repeat' split)<;>omega)
theorem pr(p:PrbV)(ha:ShA p.adv)(h0:lj p=0)(lim:Int)(hl:0<=lim)(hl2:lim<=1048576)(hc:p.task.cases.length<=1024):pU 91 [cT p,.int .i64 lim] (.int .i64 (oH p lim)):=by
 refine pO Qy ?_;simp only[b91,av];obtain⟨_,ho,_,r0,r6⟩:=fg h0;have h2:=Cl p.adv ha ho p.rounds.toNat (by omega) lim hl hl2;have d2:=dL p.adv
 have hb:0<=kV p.adv p.rounds.toNat lim/\kV p.adv p.rounds.toNat lim<=lim+1:=by
  unfold kV;have:=t7 (a:=p.adv) (lim:=lim) p.rounds.toNat;have:=ho.s1;exact tF hl _ _ (je (by omega))
 rw[show((p.rounds.toNat:Nat):Int)=p.rounds by omega] at h2;unfold cT oH;unfold ee at h2 d2;rw[PC.2.2.2.1] at h2 d2;rw[PC.2.2.2.2.1];generalize kV p.adv p.rounds.toNat lim=M at *;have hw:0<=(p.task.cases.length:Int)*M/\(p.task.cases.length:Int)*M<=1024*1048577:=⟨Int.mul_nonneg (by omega) (by omega),Int.mul_le_mul (by omega) (by omega) (by omega) (by omega)⟩
 have hww:IntKind.wrap .i64 ((p.task.cases.length:Int)*M)=(p.task.cases.length:Int)*M:=jK (by omega) (by omega);refine wkZ (aI @PE @hww) ?_;exact aA rfl
theorem Jl(q:Nat)(x:Int):pU 118 [.int .i64 q,.int .i64 x] (dD ⟨q,0,x,-1,-1,-1,-1,-1⟩):=by
 refine pO OI ?_;simp only[LY,av];refine wnZ and_self ?_;refine br (X:=Nat) (λk=>[(4,.ptr 0 8 0),(5,.ptr 1 8 0),(6,.int .i64 k)]) (λk H nx=>k<=5/\H 0=some [.int .i64 0,.int .i64 0,.int .i64 0,.int .i64 0,.int .i64 0,.int .i64 0,.int .i64 0,.int .i64 0]/\H 1=some (vwc q 0 x (hk (λ_=>-1) k))) (λk=>5-k) 0 ⟨bA _,rfl,rfl⟩ (by simp (disch:=omega) only[agr,ZG,reduceEqDiff,↓reduceIte,SL]) ?_;rintro k H nx ⟨k1,g0,g1⟩;by_cases hk5:k<5
 rotate_left
 ·obtain rfl:k=5:=by omega
  rw[F9] at g1;refine wnZ (aI @g0 @g1) ?_;exact mR ⟨q,0,x,-1,-1,-1,-1,-1⟩ _
 have hp:=tL (a:=q) (b:=0) (c:=x) (pk (λ_=>-1) k) hk5 (-1);rw[yX hk5] at hp;have hl:=pI q 0 x (pk (λ_=>-1) k);generalize vwc q 0 x (hk (λ_=>-1) k)=L at *;refine wnZ (zI3 @IX @g0 @g1) ?_;exact⟨k+1,by omega,⟨by omega,g0,by rw[ac,hp]⟩,ag0⟩
theorem Li(r:RndV)(k q:Nat)(now:List Int)(hn:r.n=now.length)(h5:now.length<=5)(hq:q<5)(hb:0<=r.hs.getD q 0/\r.hs.getD q 0<=9223372036854775807):pU 119 [kA r,.int .i64 k,.int .i64 q,aD now] (dD (mD r k now q)):=by
 refine pO Ow ?_;simp only[ME,av];unfold kA;rw[PC.2.1];have hc:=ol r hq;have he:(mD r k now q).cs=vwc q k 0 (hk (hrd (r.hs.getD q 0) now) 5):=rfl;rw[show dD (mD r k now q)=.agg (mD r k now q).cs from rfl,he];generalize r.hs.getD q 0=x at *;generalize hG:hrd x now=G at *;have hG1:∀i,G i=if i<now.length/\hasFl x i=true then now.getD i 0 else-1:=λi=>by rw[<-hG];rfl
 clear he hG;refine wnZ and_self ?_;refine br (X:=Nat) (λi=>[(1,.int .i64 k),(2,.int .i64 q),(3,aD now),(4,.ptr 0 6 0),(8,.ptr 1 8 0),(9,.ptr 2 8 0),(10,.int .i64 i)]) (λi H nx=>i<=5/\H 0=some [.int .i64 r.n,.int .i64 r.h0,.int .i64 r.h1,.int .i64 r.h2,.int .i64 r.h3,.int .i64 r.h4]/\H 1=some [.int .i64 0,.int .i64 0,.int .i64 0,.int .i64 0,.int .i64 0,.int .i64 0,.int .i64 0,.int .i64 0]/\H 2=some (vwc q k 0 (hk G i))) (λi=>5-i) 0 ⟨bA _,rfl,rfl,rfl⟩ (by simp (disch:=omega) only[agr,ZG,reduceEqDiff,↓reduceIte,SL]) ?_;rintro i H nx ⟨i1,g0,g1,g2⟩;by_cases hi5:i<5
 rotate_left
 ·obtain rfl:i=5:=by omega
  rw[F9] at g2 |-;refine wnZ (zI3 @g0 @g1 @g2) ?_;exact mR ⟨q,k,0,G 0,G 1,G 2,G 3,G 4⟩ _
 have hp:=tL (a:=q) (b:=k) (c:=0) (pk G i) hi5 (-1);have hp2:=tL (a:=q) (b:=k) (c:=0) (l:=(hk G i).set i (-1)) (by rw[List.length_set];exact pk G i) hi5 (G i);rw[List.set_set,yX hi5] at hp2;have hm1:G i=-1->vwc q k 0 ((hk G i).set i (-1))=vwc q k 0 (hk G (i+1)):=λh=>by rw[<-h,yX hi5]
 have hl:=pI q k 0 (pk G i);have hl2:=pI q k 0 (l:=(hk G i).set i (-1)) (by rw[List.length_set];exact pk G i);have hGi:=hG1 i;have hh:=qH x i hb.1 hb.2 (by omega);generalize vwc q k 0 (hk G i)=L at *;generalize vwc q k 0 ((hk G i).set i (-1))=L2 at *;cases hv:hasFl x i with
 |false=>
  rw[hv] at hh hGi;rw[if_neg λh=>by cases h.2] at hGi;have zz:=aI @IX (aI @g0 (aI @g1 (aI @g2 @hc)));repeat' (first|refine zW ?_|apply a_n|refine zO ?_|refine vZ ?_|refine cZ ?_ (hp:=hh)|refine stZ ?_|refine gTZ ?_|refine gFZ ?_|refine cFZ ?_|(refine zGZ ?_ ?_<;>(intro _hg;try (exfalso;omega)))|fail)
  all_goals exact⟨i+1,by omega,⟨by omega,g0,g1,by rw[ac,hp,hm1 hGi]⟩,ag0⟩
 |true=>
  rw[hv] at hh hGi;by_cases hin:i<now.length
  ·rw[if_pos ⟨hin,rfl⟩] at hGi
   have ix:cu 1 (aD now) (.int .i64 (i:Int))=some (.iptr [.int .i64 (now.getD i 0)] 0):=by
    have:=l9 (l:=now) (n:=(i:Int)) (by omega) (by omega)
    rwa [bR] at this
   rw[<-hGi] at ix;generalize G i=y at *;refine wnZ (zI6 @IX @g0 @g1 @g2 @hc @ix) ?_;refine ml (b:=2) (n:=8) (off:=3+i) (cs:=L2) (vs:=[.int .i64 y]) rfl ev0 ev0 (by rw[ac,hp]) rfl rfl hl2 rfl (by omega) ?_;refine wnZ and_self ?_;exact⟨i+1,by omega,⟨by omega,g0,g1,by rw[ac,hp2]⟩,ag0⟩
  ·rw[if_neg λh=>hin h.1] at hGi;refine wnZ (zI5 @IX @g0 @g1 @g2 @hc) ?_;exact⟨i+1,by omega,⟨by omega,g0,g1,by rw[ac,hp,hm1 hGi]⟩,ag0⟩
theorem HW(n:Int)(vs:List VwV)(v:VwV)(hl:vs.length<=17592186044416):pU 150 [.agg [.int .i64 n,dK vs],dD v] (.int .i64 (A6 vs v)):=by
 refine pO NK ?_;simp only[N8,av];unfold dD A6;rw[PC.2.2.2.2.2.1];refine wnZ @PE ?_;refine gn (X:=Nat) (λk=>[(2,.ptr 0 2 0),(3,.ptr 1 8 0),(5,.int .i64 k)]) (λk=>k<=vs.length/\∀i,i<k->vs.getD i default≠v) (λk=>vs.length-k) 0 ⟨bA _,λi h=>absurd h (Nat.not_lt_zero _)⟩ (by simp (disch:=omega) only[agr,ZG,reduceEqDiff,↓reduceIte,SL]) ?_;rintro k ⟨k1,k2⟩;by_cases hk5:k<vs.length
 rotate_left
 ·refine wnZ @PE ?_;refine aA ?_;rw[if_neg λhm=>?_];obtain⟨i,hi,rfl⟩:=nr hm;exact k2 i (by omega) (by simp[List.getD,hi])
 have ix:=ixW hk5;rw[PC.2.2.2.2.2.1] at ix;have he:=Fp (v:=vs.getD k default) (w:=v);have hat:=FO hk5 k2;have hme:=au hk5;generalize hw:vs.getD k default=w at *;have zz:=aI @PE (aI @ix @EQ);repeat' (first|refine zW ?_|apply a_n|apply a_r|refine zO ?_|refine vZ ?_|(refine zGZ ?_ ?_<;>(intro _hg;try (exfalso;omega)))|refine bn rfl ?_|refine r1Z ?_|fail)
 ·refine aA ?_;have e:=he.1 _hg;rw[if_pos (e▸hme),hat e]
 ·have hne:w≠v:=λh=>_hg (he.2 h);refine⟨k+1,⟨by omega,λi hi=>?_⟩,by omega,ag0,rfl,rfl⟩;rcases i7.1 hi with h|rfl
  ·exact k2 i h
  ·rw[hw];exact hne
theorem L0(n:Int)(vs:List VwV)(v:VwV)(hl:vs.length<=1000000):pU 120 [.agg [.int .i64 n,dK vs],dD v] (.tup [.agg [.int .i64 n,dK (kq vs v)],.int .i64 ((kq vs v).idxOf v:Nat)]):=by
 refine pO LK ?_;simp only[OM,av];have hi:=HW n vs v (by omega);rw[Hy,IU];have d1:Dat (.agg [.int .i64 n,dK vs]):=Dat.agg (DatL.cons .int (DatL.cons (lO _) DatL.nil));have d2:=mR v;have hcl:(cL dD vs).length<=8000000:=by rw[uE];omega
 unfold dD at hi d2 |-;rw[PC.2.2.2.2.2.1] at hi d2 |-;generalize A6 vs v=i at *;by_cases hi0:0<=i
 ·rw[if_pos hi0,if_pos hi0];refine wnZ @PE ?_;exact cR (af (d1 _) (af (.int _ _) ai))
 rw[if_neg hi0,if_neg hi0];refine wnZ @PE ?_
 have hS:∀(H:Hp),H 0=some [.int .i64 n,dK vs]->H 1=some [.int .i64 v.proc,.int .i64 v.round,.int .i64 v.input,.int .i64 v.h0,.int .i64 v.h1,.int .i64 v.h2,.int .i64 v.h3,.int .i64 v.h4]->H 2=some [.int .i64 0,.esl]->H 3=some [.int .i64 n,.esl]->Sub (ap (ap (ap (ap bK 0 [.int .i64 n,dK vs]) 1 [.int .i64 v.proc,.int .i64 v.round,.int .i64 v.input,.int .i64 v.h0,.int .i64 v.h1,.int .i64 v.h2,.int .i64 v.h3,.int .i64 v.h4]) 2 [.int .i64 0,.esl]) 3 [.int .i64 n,.esl]) H:=by
  intro H g0 g1 g2 g3 b cs h;rcases b with _|_|_|_|b
  ·rw[g0];exact h
  ·rw[g1];exact h
  ·rw[g2];exact h
  ·rw[g3];exact h
  ·simp[ap,bK] at h
 refine iL _ rfl (hS _ rfl rfl rfl rfl) ?_;refine wnZ @PE ?_;refine Lj (pv:=[(0,8,.agg [.int .i64 v.proc,.int .i64 v.round,.int .i64 v.input,.int .i64 v.h0,.int .i64 v.h1,.int .i64 v.h2,.int .i64 v.h3,.int .i64 v.h4])]) (cs:=[.int .i64 v.proc,.int .i64 v.round,.int .i64 v.input,.int .i64 v.h0,.int .i64 v.h1,.int .i64 v.h2,.int .i64 v.h3,.int .i64 v.h4]) ev0 rfl (by decide) rfl rfl ?_;refine eE ?_;refine ef (sz:=8) (xv:=dK vs) rfl ev0 Row.nil ev0 uK (Ja vs) (uE vs) (by omega) (by simp;omega) (by simp;omega) ?_;rintro s2 H2 nx2 r1 r2 r3 r4 r5;have n4:∀{x:Nat},x<4->bk AV.esl≠some x:=λ_ h=>by cases h
 have q0:=r4 0 (by omega) (n4 (by omega));have q1:=r4 1 (by omega) (n4 (by omega));have q2:=r4 2 (by omega) (n4 (by omega));have q3:=r4 3 (by omega) (n4 (by omega));refine iS ⟨hS _ q0 q1 q2 q3,?_⟩;refine gL ?_;rw[List.nil_append] at r1
 have rB:∀b,bk s2=some b->b=4:=λb h=>by
  rcases r5 b h with h|h
  ·cases h
  ·exact h.1
 refine ef (k:=1) (xv:=.sl 8 [.agg [.int .i64 v.proc,.int .i64 v.round,.int .i64 v.input,.int .i64 v.h0,.int .i64 v.h1,.int .i64 v.h2,.int .i64 v.h3,.int .i64 v.h4]]) (new:=[.int .i64 v.proc,.int .i64 v.round,.int .i64 v.input,.int .i64 v.h0,.int .i64 v.h1,.int .i64 v.h2,.int .i64 v.h3,.int .i64 v.h4]) rfl ev0 r1 ev0 jq rfl rfl (by omega) (by omega) (by omega) ?_;rintro s3 H3 nx3 u1 u2 u3 u4 u5;have m4:∀{x:Nat},x<4->bk s2≠some x:=λhx h=>by have:=rB _ h;omega
 have p2:=(u4 2 (by omega) (m4 (by omega))).trans q2;have p3:=(u4 3 (by omega) (m4 (by omega))).trans q3;have p0:=(u4 0 (by omega) (m4 (by omega))).trans q0;refine iS ?_;have hrow:Row H3 8 s3 (cL dD (vs++[v])):=by rw[jp,uz];exact u1
 obtain⟨o1,o2⟩:=hrow.one
 have nb:∀x,x<4->bk s3≠some x:=λx hx h=>by
  rcases u5 x h with h|h
  ·exact m4 hx h
  ·omega
 have zz:=aI @PE (aI @p2 (aI @p3 (aI @p0 (aI @o1 @o2))));repeat' (first|refine zW ?_|apply a_n|refine zO ?_|refine nvY ?_|apply gL|refine stY ?_|fail)
 have k3:ap H3 3 (bw [.int .i64 n,.esl] 1 [s3]) 3=some [.int .i64 n,s3]:=by rw[ac];rfl
 have k2:ap H3 3 (bw [.int .i64 n,.esl] 1 [s3]) 2=some [.int .i64 0,.esl]:=by rw[ab (by omega)];exact p2
 have k0:ap H3 3 (bw [.int .i64 n,.esl] 1 [s3]) 0=some [.int .i64 n,dK vs]:=by rw[ab (by omega)];exact p0
 have hrow4:Row (ap H3 3 (bw [.int .i64 n,.esl] 1 [s3])) 8 s3 (cL dD (vs++[v])):=hrow.same λb h=>ab λe=>nb b (by omega) h;generalize ap H3 3 (bw [.int .i64 n,.esl] 1 [s3])=H4 at *;refine iL (cC H4 2) rfl (λb cs h=>(ji h).2) ?_;refine wnY (zI3 @PE @k3 @k0) ?_;refine eE ?_;refine wnY (zI4 @PE @k2 @o1 @o2) ?_;refine⟨λb cs h=>by rw[ab (ji h).1];exact(ji h).2,?_⟩;refine wnY @PE ?_;have hrow5:∀cs,Row (ap H4 2 cs) 8 s3 (cL dD (vs++[v])):=λcs=>hrow4.same λb h=>ab λe=>nb b (by omega) h;exact cR (af (gy (af (.int _ _) (af (G0 (hrow5 _)) ai))) (af (.int _ _) ai))
theorem Iv(p:PrbV)(hs:ShP p)(ha:ShA p.adv)(h0:lj p=0)(hw:p.task.cases.length*(eZ p).length<=4096)(hw2:(eZ p).length<=4096):pU 92 [cT p] (fZ (bG p)):=by
 refine pO QB ?_;simp only[b92,av];obtain⟨hck,ho,hn,r0,r6⟩:=fg h0;obtain⟨n1,n5,c1,c2⟩:=dv hck;have hinp:=λc hc=>uM hck (c:=c) hc
 have hfrom:pU 117 [ee p.adv,.int .i64 0,.int .i64 p.rounds] (dU (eZ p)):=by
  have:=KE p.adv ha ho p.rounds.toNat 0 (by have:=ho.s1;omega) (by omega) hw2
  rwa [show((p.rounds.toNat:Nat):Int)=p.rounds by omega] at this
 have da:=dL p.adv;unfold ee at hfrom da;rw[PC.2.2.2.1] at hfrom da
 have hwl:∀w∈eZ p,w.length=p.rounds.toNat/\∀r∈w,r.n=p.task.n/\∀q,q<5->0<=r.hs.getD q 0/\r.hs.getD q 0<=9223372036854775807:=λw hw=>by
  refine⟨nR hw,λr hr=>?_⟩;obtain⟨l,hl,m,hm,rfl⟩:=qA hw r hr;have ok:=ho.mv l hl m hm;obtain⟨g1,_,_⟩:=ko ok.r;obtain⟨_,_,g2⟩:=nD g1;refine⟨by rw[ok.n,hn],λq hq=>?_⟩;obtain⟨g3,g4⟩:=g2 q hq;by_cases hqn:m.r.n<=q
  ·rw[g3 hqn];omega
  ·have:=g4 (by omega);have:=yD (n:=m.r.n) (by rw[ok.n];exact ho.n5);omega
 have hN:((p.task.n.toNat:Nat):Int)=p.task.n:=by omega
 have hsl:=yT (p:=p) n5 r6;have hbl:=uj (p:=p) n5 r6;have hst1:=λc s i(h:i<(eZ p).length)=>Aq (p:=p) (c:=c) (s:=s) h;have hst2:=Dc p;have hbs:=rA p;have hsys:(bG p).cs=[.int .i64 p.task.n,.int .i64 p.task.ins,.int .i64 p.task.outs,cI p.task.cases,.int .i64 p.adv.n,bj p.adv.states,.int .i64 p.rounds,.int .i64 p.task.n,dK (bldS p p.task.cases.length).views,eB (bldS p p.task.cases.length).execs]:=rfl;rw[show fZ (bG p)=.agg (bG p).cs from rfl,hsys];clear hsys;unfold cT;rw[PC.2.2.2.2.1];have hex:=λc s w=>yq p c s w;generalize eZ p=W at *;refine wnY @PE ?_
 refine sB (X:=Nat×AV) (λx=>[(1,.ptr 0 7 0),(2,.ptr 1 10 0),(3,.ptr 2 10 0),(4,dU W),(5,.int .i64 x.1)]) (λx H nx=>x.1<=p.task.cases.length/\H 0=some [.int .i64 p.task.n,.int .i64 p.task.ins,.int .i64 p.task.outs,cI p.task.cases,.int .i64 p.adv.n,bj p.adv.states,.int .i64 p.rounds]/\H 1=some [.int .i64 0,.int .i64 0,.int .i64 0,.esl,.int .i64 0,.esl,.int .i64 0,.int .i64 0,.esl,.esl]/\H 2=some [.int .i64 p.task.n,.int .i64 p.task.ins,.int .i64 p.task.outs,cI p.task.cases,.int .i64 p.adv.n,bj p.adv.states,.int .i64 p.rounds,.int .i64 p.task.n,dK (bldS p x.1).views,x.2]/\2<nx/\Row H 3 x.2 (cL il (bldS p x.1).execs)/\∀b,bk x.2=some b->2<b/\b<nx) (λx=>p.task.cases.length-x.1) (0,.esl)
  ⟨bK,_,Fz.cell (b:=2) (cs':=[.int .i64 p.task.n,.int .i64 p.task.ins,.int .i64 p.task.outs,cI p.task.cases,.int .i64 p.adv.n,bj p.adv.states,.int .i64 p.rounds,.int .i64 p.task.n,dK [],.esl]) ac (ew.mid (x:=.esl) (x':=dK []) [.int .i64 p.task.n,.int .i64 p.task.ins,.int .i64 p.task.outs,cI p.task.cases,.int .i64 p.adv.n,bj p.adv.states,.int .i64 p.rounds,.int .i64 p.task.n] [.esl] (.eslsl 8)),⟨bA _,by simp (disch:=omega) only[ab,ac],by simp (disch:=omega) only[ab,ac],ac,by omega,.nil,λb h=>(by cases h)⟩,fk (by simp (disch:=omega) only[agr,ZG,reduceEqDiff,↓reduceIte,SL])⟩ ?_
 rintro⟨c,ex⟩ H nx ⟨hc,g0,g1,g2,hnx,hrow,hb⟩;dsimp only at hc g2 hrow hb |-;obtain⟨o1,o2⟩:=hrow.one;by_cases hcl:c<p.task.cases.length
 rotate_left
 ·obtain rfl:c=p.task.cases.length:=by omega
  refine wnY (zI6 @PE @g0 @g1 @g2 @o1 @o2) ?_;refine gy (af (.int _ _) (af (.int _ _) (af (.int _ _) (af (Dat.snap (jd _)) (af (.int _ _) (af (Dat.snap (gf _)) (af (.int _ _) (af (.int _ _) (af (Dat.snap (lO _)) (af (FI (hrow.same λb h=>?_)) ai))))))))));exact ab (by have:=hb b h;omega)
 have hbc:=hbl c;have hcs:=hbs c;rw[<-hst2] at hcs;have hslc:=hsl c (bldS p c);have hst1c:=hst1 c (bldS p c);have hexc:=hex c;have hst0:=LP p c (bldS p c)
 have hcW:c*W.length+W.length<=4096:=by
  have:(c+1)*W.length<=p.task.cases.length*W.length:=j4 _ hcl;rw[eJ,Nat.one_mul] at this;omega
 generalize bldS p c=B0 at *;have ixc:=Tk.aixS_encCs hcl;have hinc:=hinp c hcl;generalize hinpv:(p.task.cases.getD c default).inp=inp at *;refine wnY (zI4 @PE @g0 @g1 @g2) ?_
 refine sB (X:=Nat×AV) (λx=>[(1,.ptr 0 7 0),(2,.ptr 1 10 0),(3,.ptr 2 10 0),(4,dU W),(5,.int .i64 c),(6,.int .i64 x.1)]) (λx H nx=>x.1<=W.length/\H 0=some [.int .i64 p.task.n,.int .i64 p.task.ins,.int .i64 p.task.outs,cI p.task.cases,.int .i64 p.adv.n,bj p.adv.states,.int .i64 p.rounds]/\H 1=some [.int .i64 0,.int .i64 0,.int .i64 0,.esl,.int .i64 0,.esl,.int .i64 0,.int .i64 0,.esl,.esl]/\H 2=some [.int .i64 p.task.n,.int .i64 p.task.ins,.int .i64 p.task.outs,cI p.task.cases,.int .i64 p.adv.n,bj p.adv.states,.int .i64 p.rounds,.int .i64 p.task.n,dK (stW p c B0 x.1).views,x.2]/\2<nx/\Row H 3 x.2 (cL il (stW p c B0 x.1).execs)/\∀b,bk x.2=some b->2<b/\b<nx) (λx=>W.length-x.1) (0,ex)
  ⟨bK,_,Fz.none,⟨bA _,g0,g1,by rw[hst0];exact g2,hnx,by rw[hst0];exact hrow,hb⟩,fk ag0⟩ ?_
 clear g0 g1 g2 hnx hrow hb o1 o2;rintro⟨wi,ex⟩ H nx ⟨hwi,g0,g1,g2,hnx,hrow,hb⟩;dsimp only at hwi g2 hrow hb |-;obtain⟨o1,o2⟩:=hrow.one;by_cases hwl2:wi<W.length
 rotate_left
 ·obtain rfl:wi=W.length:=by omega
  rw[<-hcs] at g2 hrow;refine wnY (zI4 @PE @g0 @g1 @g2) ?_;exact⟨(c+1,ex),by dsimp only;omega,_,_,Fz.none,⟨by dsimp only;omega,g0,g1,g2,hnx,hrow,hb⟩,fk ag0⟩
 have hsw:=hst1c wi hwl2;have hslw:=hslc wi hwi;have ixw:=KM hwl2;obtain⟨hwl3,hwr⟩:=hwl _ (au hwl2);rw[hexc] at hsw;generalize W.getD wi default=w at *;generalize stW p c B0 wi=B at *;have hV:=me p.task.n.toNat inp w B.views;have hV0:plV p.task.n.toNat inp w B.views 0=(B.views,[]):=rfl;have hV1:∀k,plV p.task.n.toNat inp w B.views (k+1)=(fP (vf inp w k (plV p.task.n.toNat inp w B.views k).2) p.task.n.toNat (plV p.task.n.toNat inp w B.views k).1,(plV p.task.n.toNat inp w B.views k).2++[eW (vf inp w k (plV p.task.n.toNat inp w B.views k).2) p.task.n.toNat (plV p.task.n.toNat inp w B.views k).1]):=λ_=>rfl;have hBl:B.views.length<=35*8192:=by omega
 have hBx:B.execs.length<=8192:=by omega
 generalize plV p.task.n.toNat inp w B.views=PL at *;refine wnY (zI5 @PE @g0 @g1 @g2 @ixw) ?_;have f0:∀cs cs' y,y<nx->ap (ap H nx cs) nx cs' y=H y:=λcs cs' y hy=>by rw[ab (by omega),ab (by omega)]
 refine sB (X:=Nat×AV) (λx=>[(1,.ptr 0 7 0),(2,.ptr 1 10 0),(3,.ptr 2 10 0),(4,dU W),(5,.int .i64 c),(6,.int .i64 wi),(7,.ptr nx 3 0),(8,.int .i64 x.1)]) (λx H' n=>x.1<=p.rounds.toNat+1/\H' 0=some [.int .i64 p.task.n,.int .i64 p.task.ins,.int .i64 p.task.outs,cI p.task.cases,.int .i64 p.adv.n,bj p.adv.states,.int .i64 p.rounds]/\H' 1=some [.int .i64 0,.int .i64 0,.int .i64 0,.esl,.int .i64 0,.esl,.int .i64 0,.int .i64 0,.esl,.esl]/\H' 2=some [.int .i64 p.task.n,.int .i64 p.task.ins,.int .i64 p.task.outs,cI p.task.cases,.int .i64 p.adv.n,bj p.adv.states,.int .i64 p.rounds,.int .i64 p.task.n,dK (PL x.1).1,ex]/\nx<n/\H' nx=some [.int .i64 c,bV w,x.2]/\Row H' 1 x.2 ((PL x.1).2.map aD)/\(∀b,bk x.2=some b->nx<b/\b<n)/\∀y,y<nx->y≠2->H' y=H y) (λx=>p.rounds.toNat+1-x.1) (0,.esl)
  ⟨bK,_,Fz.none,⟨bA _,(f0 _ _ 0 (by omega)).trans g0,(f0 _ _ 1 (by omega)).trans g1,by rw[f0 _ _ 2 hnx,hV0];exact g2,by omega,ac,by rw[hV0];exact .nil,λb h=>(by cases h),λy hy _=>f0 _ _ y hy⟩,fk (by simp (disch:=omega) only[agr,ZG,reduceEqDiff,↓reduceIte,SL])⟩ ?_
 clear g0 g1 g2 f0;rintro⟨k,sv⟩ H1 m1 ⟨hk,g0,g1,g2,hm1,gx,hrs,hbs,fr⟩;dsimp only at hk g2 gx hrs hbs |-;obtain⟨o3,o4⟩:=hrs.one;obtain⟨hV2,hV3,hV4⟩:=hV k;have hRk:((p.rounds.toNat:Nat):Int)=p.rounds:=by omega
 by_cases hkr:k<=p.rounds.toNat
 rotate_left
 ·obtain rfl:k=p.rounds.toNat+1:=by omega
  have hrow1:Row H1 3 ex (cL il B.execs):=hrow.same λb h=>fr b (hb b h).2 (by have:=hb b h;omega);have hexl:(cL il B.execs).length<=24576:=by rw[Fh];omega
  obtain ⟨b2,ln,rfl,hb2,hl2⟩:=vN hrs (fun e=>by
   have:=congrArg List.length e;rw[bC,hV2] at this;cases this)
  have hbb:=hbs b2 rfl;have hne2:∀y,y<m1->bk ex≠some y->y≠m1:=λy h1 _=>by omega
  refine wnY (zI6 @PE @g0 @g2 @gx @o1 @o2) ?_;refine ef (k:=1) (sv:=ex) (xv:=.msl m1 3 3 0 1) (cs:=cL il B.execs) (new:=[.int .i64 c,bV w,.msl b2 ln 1 0 ln]) rfl ev0 (hrow1.same λb h=>ab (by have:=hb b h;omega)) ev0 (cP rfl) (by simp only[SO,PE,Bool.and_self]) rfl (by omega) (by omega) (by omega) ?_;rintro s3 H3 m3 r1 r2 r3 r4 r5;have fx:∀y,y<m1->bk ex≠some y->H3 y=H1 y:=λy h1 h2=>by rw[r4 y (by omega) h2,ab (by omega)]
  have nex:∀y,y<=2->bk ex≠some y:=λy hy h=>by have:=hb y h;omega
  have q2:=(fx 2 (by omega) (nex 2 (by omega))).trans g2;obtain⟨o5,o6⟩:=r1.one;refine wnY (zI4 @PE @q2 @o5 @o6) ?_
  have hs3:∀b,bk s3=some b->2<b/\b<m3/\b≠b2:=λb h=>by
   rcases r5 b h with h|h
   ·have:=hb b h;omega
   ·omega
  have hr3:∀cs,Row (ap H3 2 cs) 3 s3 ((cL il B.execs++[.int .i64 c,bV w])++[.msl b2 ln 1 0 ln]):=λcs=>by
   rw[gK];exact r1.same λb h=>ab (by have:=hs3 b h;omega)
  have hb3:∀cs,ap H3 2 cs b2=some ((PL (p.rounds.toNat+1)).2.map aD):=λcs=>by
   rw[ab (by omega),fx b2 (by omega) (λh=>by have:=hb b2 h;omega)];exact hb2
  obtain⟨H5,hfz,hr5,hs5⟩:=fp (x':=bm (PL (p.rounds.toNat+1)).2) (hr3 _) (hb3 _) (Row.snapV (Row.box1 fF hl2)) (λe=>(hs3 b2 e).2.2 rfl);have h5:∀y,y<=2->H5 y=_:=λy hy=>hs5 y (by omega) (λh=>by have:=hs3 y h;omega);refine⟨(wi+1,s3),by dsimp only;omega,_,H5,hfz,⟨by dsimp only;omega,?_,?_,?_,by omega,?_,λb h=>by have:=hs3 b h;omega⟩,fk ag0⟩
  ·rw[h5 0 (by omega),ab (by omega),fx 0 (by omega) (nex 0 (by omega))];exact g0
  ·rw[h5 1 (by omega),ab (by omega),fx 1 (by omega) (nex 1 (by omega))];exact g1
  ·rw[h5 2 (by omega),ac,hsw];rfl
  ·rw[hsw];show Row H5 3 s3 (cL il (B.execs++[_]));rw[jp,uz];show Row H5 3 s3 (cL il B.execs++[.int .i64 (c:Int),bV w,bm (PL (p.rounds.toNat+1)).2]);rw[gK] at hr5;exact hr5
 have hf:=hV1 k;have hfq0:k=0->∀q,vf inp w k (PL k).2 q=⟨q,0,inp.getD q 0,-1,-1,-1,-1,-1⟩:=λe q=>by subst e;rfl
 have hfqS:∀j,k=j+1->∀q,vf inp w k (PL k).2 q=mD (w.getD j default) (j+1) ((PL k).2.getD j []) q:=λj e q=>by subst e;rfl
 have hV0l:(PL k).1.length<=500000:=by
  have h2:k*p.task.n.toNat<=7*5:=Nat.mul_le_mul (by omega) (by omega);omega
 generalize vf inp w k (PL k).2=f at *;generalize (PL k).1=V0 at *;generalize (PL k).2=rows at *;refine wnY (aI @PE @g0) ?_;refine br (X:=Nat×AV) (λx=>[(1,.ptr 0 7 0),(2,.ptr 1 10 0),(3,.ptr 2 10 0),(4,dU W),(5,.int .i64 c),(6,.int .i64 wi),(7,.ptr nx 3 0),(8,.int .i64 k),(9,x.2),(10,.int .i64 x.1)]) (λx H' n'=>x.1<=p.task.n.toNat/\H' 2=some [.int .i64 p.task.n,.int .i64 p.task.ins,.int .i64 p.task.outs,cI p.task.cases,.int .i64 p.adv.n,bj p.adv.states,.int .i64 p.rounds,.int .i64 p.task.n,dK (fP f x.1 V0),ex]/\Row H' 1 x.2 ((eW f x.1 V0).map (AV.int .i64))/\(∀b,bk x.2=some b->m1<=b/\b<n')/\m1<=n'/\∀y,y<m1->y≠2->H' y=H1 y) (λx=>p.task.n.toNat-x.1) (0,.esl) ⟨bA _,g2,.nil,λb h=>(by cases h),ba _,λ_ _ _=>rfl⟩ ag0 ?_;rintro⟨q,lv⟩ H2 m2 ⟨hq,g2',hlrow,hlb,hm2,fr'⟩;dsimp only at hq g2' hlrow hlb |-;have g0':=(fr' 0 (by omega) (by omega)).trans g0;have gx':=(fr' nx (by omega) (by omega)).trans gx;obtain⟨o5,o6⟩:=hlrow.one;have hrs':Row H2 1 sv (rows.map aD):=hrs.same λb h=>fr' b (hbs b h).2 (by have:=hbs b h;omega);by_cases hqn:q<p.task.n.toNat
 rotate_left
 ·obtain rfl:q=p.task.n.toNat:=by omega
  obtain ⟨bl,ll,rfl,hbl2,hll⟩:=vN hlrow (fun e=>by
   have:=congrArg List.length e;rw[bC,iM] at this;have:p.task.n.toNat=0:=this;omega)
  have hblb:=hlb bl rfl;have hrl:(rows.map aD).length<=7:=by rw[bC];omega
  refine wnY (zI5 @PE @g0' @gx' @o3 @o4) ?_;refine ef (k:=1) (sv:=sv) (xv:=.msl m2 1 1 0 1) (cs:=rows.map aD) (new:=[.msl bl ll 1 0 ll]) rfl ev0 (hrs'.same λb h=>ab (by have:=hbs b h;omega)) ev0 (cP rfl) rfl rfl ig (by omega) (by omega) ?_;rintro s3 H3 m3 r1 r2 r3 r4 r5;have fx:∀y,y<m2->bk sv≠some y->H3 y=H2 y:=λy h1 h2=>by rw[r4 y (by omega) h2,ab (by omega)]
  have nsv:∀y,y<=nx->bk sv≠some y:=λy hy h=>by have:=hbs y h;omega
  have qx:=(fx nx (by omega) (nsv nx (by omega))).trans gx';obtain⟨o7,o8⟩:=r1.one;refine wnY (zI4 @PE @qx @o7 @o8) ?_
  have hs3:∀b,bk s3=some b->nx<b/\b<m3/\b≠bl:=λb h=>by
   rcases r5 b h with h|h
   ·have:=hbs b h;omega
   ·omega
  have hr3:∀cs,Row (ap H3 nx cs) 1 s3 (rows.map aD++[.msl bl ll 1 0 ll]):=λcs=>r1.same λb h=>ab (by have:=hs3 b h;omega)
  have hb3:∀cs,ap H3 nx cs bl=some ((eW f p.task.n.toNat V0).map (AV.int .i64)):=λcs=>by
   rw[ab (by omega),fx bl (by omega) (λh=>by have:=hbs bl h;omega)];exact hbl2
  obtain⟨H5,hfz,hr5,hs5⟩:=fp (x':=aD (eW f p.task.n.toNat V0)) (hr3 _) (hb3 _) (Row.snapI (Row.box1 fF hll)) (λe=>(hs3 bl e).2.2 rfl);have h5:∀y,y<=nx->H5 y=_:=λy hy=>hs5 y (by omega) (λh=>by have:=hs3 y h;omega);refine⟨(k+1,s3),by dsimp only;omega,_,H5,hfz,⟨by dsimp only;omega,?_,?_,?_,by omega,?_,?_,λb h=>by have:=hs3 b h;omega,λy hy hy2=>?_⟩,fk ag0⟩
  ·rw[h5 0 (by omega),ab (by omega),fx 0 (by omega) (nsv 0 (by omega))];exact g0'
  ·rw[h5 1 (by omega),ab (by omega),fx 1 (by omega) (nsv 1 (by omega)),fr' 1 (by omega) (by omega)];exact g1
  ·rw[h5 2 (by omega),ab (by omega),fx 2 (by omega) (nsv 2 (by omega)),g2'];dsimp only;rw[hf]
  ·rw[h5 nx (ba _),ac];rfl
  ·dsimp only;rw[hf,du];exact hr5
  ·rw[h5 y (by omega),ab (by omega),fx y (by omega) (nsv y (by omega)),fr' y (by omega) hy2];exact fr y hy hy2
 have hVl:(fP f q V0).length<=1000000:=by have:=lI f q V0;omega
 have hIl:((eW f q V0).map (AV.int .i64)).length<=5:=by rw[bC,iM];omega
 have hnV:fP f (q+1) V0=kq (fP f q V0) (f q):=rfl;have hnI:eW f (q+1) V0=eW f q V0++[(((kq (fP f q V0) (f q)).idxOf (f q):Nat):Int)]:=rfl;have hP:=L0 p.task.n (fP f q V0) (f q) hVl;have hF:=Jl q (inp.getD q 0)
 have ixq:cu 1 (aD inp) (.int .i64 (q:Int))=some (.iptr [.int .i64 (inp.getD q 0)] 0):=by
  have:=l9 (l:=inp) (n:=(q:Int)) (by omega) (by omega)
  rwa [bR] at this
 have dT:Dat (.agg [.int .i64 p.task.n,dK (fP f q V0)]):=Dat.agg (DatL.cons .int (DatL.cons (lO _) DatL.nil));have dV:=mR (f q);rw[<-hnV] at hP hnI;unfold dD at hP hF dV;generalize hV1e:fP f (q+1) V0=V1 at *;generalize fP f q V0=V at *;generalize ((V1.idxOf (f q):Nat):Int)=idx at *;rw[PC.2.2.2.2.2.1] at hP hF dV;rcases xP k with hk0|hk0
 ·have hfq:=hfq0 hk0 q;have z:decide (Int.ofNat 0<(k:Int))=false:=bL (by show ¬(0:Int)<_;omega);rw[hfq] at hP dV;generalize inp.getD q 0=x at *;refine wnY (zI6 @PE @g0' @g2' @ixc @ixq @z) ?_;refine ef (k:=1) (sv:=lv) (xv:=.msl (m2+2) 1 1 0 1) (cs:=(eW f q V0).map (AV.int .i64)) (new:=[.int .i64 idx]) rfl ev0 (hlrow.same λb h=>by have:=hlb b h;simp (disch:=omega) only[ab]) (have zz:=@qw;evZ) (cP rfl) rfl rfl ig (by omega) (by omega) ?_;rintro s' H' nx' r1 r2 r3 r4 r5;refine wnY and_self ?_;refine⟨(q+1,s'),by dsimp only;omega,⟨by dsimp only;omega,?_,?_,λb h=>?_,by omega,λy hy hy2=>?_⟩,ag0⟩
  ·rw[r4 2 (by omega) (λh=>by have:=hlb 2 h;omega)];dsimp only;rw[hV1e];simp (disch:=omega) only[ab,ac];rfl
  ·dsimp only;rw[hnI,du];exact r1
  ·rcases r5 b h with h|h
   ·have:=hlb b h;omega
   ·omega
  ·rw[r4 y (by omega) (λh=>by have:=hlb y h;omega)];simp (disch:=omega) only[ab];exact fr' y hy hy2
 ·obtain⟨j,rfl⟩:∃j,k=j+1:=⟨k-1,by omega⟩
  have hfq:=hfqS j rfl q;have z:decide (Int.ofNat 0<((j+1:Nat):Int))=true:=bH (by show(0:Int)<_;omega);have tk:((j+1:Nat):Int)-Int.ofNat 1=(j:Int):=by show((j+1:Nat):Int)-1=_;omega
  have hjw:j<w.length:=by omega
  have ixr:=ixR hjw;obtain⟨hrn,hrh⟩:=hwr _ (au hjw);have hjr:j<rows.length:=by omega
  have hnow:(rows.getD j []).length=p.task.n.toNat:=hV3 _ (iA hjr);have hS:=Li (w.getD j default) (j+1) q (rows.getD j []) (by omega) (by omega) (by omega) (hrh q (by omega));rw[show mD (w.getD j default) (j+1) (rows.getD j []) q=f q from hfq.symm] at hS;have dR:=jy (w.getD j default)
  obtain ⟨bs,ns,os,hg1,hg2,hg3⟩:=Row.get hrs' (j:=j) (x:=aD (rows.getD j [])) (by
   rw[jJ];simp[List.getD,hjr])
  have hbs2:=hbs bs hg2
  have hSS:∃S:Hp,(∀H':Hp,(∀x,x<m2->H' x=H2 x)->Sub S H')/\S 0=some [.int .i64 p.task.n,.int .i64 p.task.ins,.int .i64 p.task.outs,cI p.task.cases,.int .i64 p.adv.n,bj p.adv.states,.int .i64 p.rounds]/\S nx=some [.int .i64 c,bV w,sv]/\rd1 S (.ptr bs ns os)=some (aD (rows.getD j [])):=by
   refine⟨λx=>if x<m2 then H2 x else none,λH' h b cs hc=>?_,?_,?_,hg3 _ ?_⟩
   ·dsimp only at hc;split at hc
    ·rename_i hlt;rw[h b hlt];exact hc
    ·cases hc
   ·dsimp only;rw[if_pos (by omega)];exact g0'
   ·dsimp only;rw[if_pos (by omega)];exact gx'
   ·show(if bs<m2 then H2 bs else none)=_;rw[if_pos (by omega)]
  obtain⟨S,hSub,s0,sx,srd⟩:=hSS;unfold kA at dR;unfold kA dD at hS;rw[PC.2.1] at hS dR;rw[PC.2.2.2.2.2.1] at hS;rw[PC.1] at ixr;generalize f q=v at *;generalize w.getD j default=r at *;generalize rows.getD j []=now at *;generalize inp.getD q 0=x at *;refine wnY (zI6 @PE @g0' @g2' @ixc @ixq @z) ?_;refine iL S rfl (hSub _ λx hx=>by simp (disch:=omega) only[ab]) ?_;have zz:=aI @PE (aI @s0 (aI @sx (aI @ixw (aI @ixr (aI @hg1 (aI @srd (aI @tk (aI @g0' @g2'))))))));repeat' (first|refine zW ?_|apply a_n|refine zO ?_|refine vY ?_|refine nvY ?_|apply gL|refine cY ?_ (hp:=by first|exact hS|exact hP)|refine alY ?_|refine stY ?_|refine blY ?_|fail)
  refine ef (k:=1) (sv:=lv) (xv:=.msl (m2+2) 1 1 0 1) (cs:=(eW f q V0).map (AV.int .i64)) (new:=[.int .i64 idx]) rfl ev0 (hlrow.same λb h=>by have:=hlb b h;simp (disch:=omega) only[ab]) (have zz:=@qw;evZ) (cP rfl) rfl rfl ig (by omega) (by omega) ?_;rintro s' H' nx' r1 r2 r3 r4 r5;refine wnY and_self ?_;refine⟨(q+1,s'),by dsimp only;omega,⟨by dsimp only;omega,?_,?_,λb h=>?_,by omega,λy hy hy2=>?_⟩,ag0⟩
  ·rw[r4 2 (by omega) (λh=>by have:=hlb 2 h;omega)];dsimp only;rw[hV1e];simp (disch:=omega) only[ab,ac];rfl
  ·dsimp only;rw[hnI,du];exact r1
  ·rcases r5 b h with h|h
   ·have:=hlb b h;omega
   ·omega
  ·rw[r4 y (by omega) (λh=>by have:=hlb y h;omega)];simp (disch:=omega) only[ab];exact fr' y hy hy2
theorem Ir(p:PrbV)(hs:ShP p):pU 50 [cT p] (.bool (Ct p)):=by
 refine pO Qd ?_;simp only[b50,av];have h1:=PM p.task hs.c hs.t;have h2:=Im p.adv (qQ hs) hs.a;have hck:∀h:yc p.adv=true,pU 90 [cT p] (.int .i64 (lj p)):=λh=>ou p hs (qQ hs (nU h).1) (by have:=(nU h).2;omega);have hnm:∀(_:yc p.adv=true)(h0:lj p=0),pU 91 [cT p,.int .i64 4096] (.int .i64 (oH p 4096)):=λh h0=>pr p (qQ hs (nU h).1) h0 4096 (by omega) (by omega) (dv (fg h0).1).2.2.2;have d1:=nw p.task;have d2:=dL p.adv;have d3:=fh p;unfold cT at hck hnm d3 |-;unfold qj at h1 d1;unfold ee at h2 d2;rw[PC.2.2.2.1] at h2 d2;rw[PC.2.2.2.2.1] at hck hnm d3 |-;unfold Ct;cases hf1:Cu p.task with
 |false=>
  rw[hf1] at h1;refine wnZ @PE ?_;rw[if_neg λh=>by cases h.1];exact .bool _
 |true=>
 rw[hf1] at h1;cases hf2:yc p.adv with
 |false=>
  rw[hf2] at h2;refine wnZ @PE ?_;rw[if_neg λh=>by cases h.2.1];exact .bool _
 |true=>
 rw[hf2] at h2;have hck:=hck hf2;have hnm:=hnm hf2;by_cases hn:3<p.task.n/\p.task.n<=5
 ·rw[if_neg λh=>h.2.2 hn];refine wnZ @PE ?_
  all_goals first|exact .bool _|omega
 rw[if_pos ⟨rfl,rfl,hn⟩];by_cases h0:lj p=0
 rotate_left
 ·rw[if_pos h0];generalize lj p=e at *;have zz:=@PE;repeat' (first|refine zW ?_|apply a_n|apply a_r|refine zO ?_|refine vZ ?_|refine cZ ?_ (hp:=by first|exact h1|exact h2|exact hck)|refine bxZ ?_|refine gTZ ?_|refine gFZ ?_|refine cFZ ?_|(refine zGZ ?_ ?_<;>(intro _hg;try (exfalso;omega)))|refine bn rfl ?_|refine r1Z ?_|fail)
  all_goals first|exact .bool _|omega
 rw[if_neg λh=>h h0];have hnm:=hnm h0;rw[h0] at hck;generalize oH p 4096=M at *;have zz:=@PE;repeat' (first|refine zW ?_|apply a_n|refine zO ?_|refine vZ ?_|refine cZ ?_ (hp:=by first|exact h1|exact h2|exact hck|exact hnm)|refine bxZ ?_|refine gTZ ?_|refine gFZ ?_|refine cFZ ?_|(refine zGZ ?_ ?_<;>(intro _hg;try (exfalso;omega)))|refine bn rfl ?_|refine r1Z ?_|fail)
 all_goals (refine cq ?_;by_cases q1:M<=60<;>by_cases q2:4096<M<;>first|omega|simp only[q1,q2,decide_true,decide_false,Bool.or_true,Bool.true_or,Bool.or_self]|fail)
theorem Ha(p:PrbV)(hs:ShP p)(ha:ShA p.adv)(hm:dy p.adv.states<=4096)(h0:lj p≠0):pU 51 [cT p] (.tup [.agg Z10,.int .i64 (lj p)]):=by
 refine pO J6 ?_;simp only[b51,av];have hck:=ou p hs ha hm;have d3:=fh p;unfold cT at hck d3 |-;rw[PC.2.2.2.2.1] at hck d3 |-;generalize lj p=e at *;refine wnZ @PE ?_;exact cR (af (gy (bc CB)) (af (.int _ _) ai))
theorem Gz(p:PrbV)(hs:ShP p)(ha:ShA p.adv)(hm:dy p.adv.states<=4096)(h0:lj p=0)(hb:4096<oH p 4096):pU 51 [cT p] (.tup [.agg Z10,.int .i64 17]):=by
 refine pO J6 ?_;simp only[b51,av];have hck:=ou p hs ha hm;have hnm:=pr p ha h0 4096 (by omega) (by omega) (dv (fg h0).1).2.2.2;have d3:=fh p;rw[h0] at hck;unfold cT at hck hnm d3 |-;rw[PC.2.2.2.2.1] at hck hnm d3 |-;generalize oH p 4096=M at *;refine wnZ @PE ?_;exact cR (af (gy (bc CB)) (af (.int _ _) ai))
theorem H6(p:PrbV)(h:OkP p):pU 51 [cT p] (.tup [fZ (bG p),.int .i64 0]):=by
 refine pO J6 ?_;simp only[b51,av];have hm:=h.mv;have hck:=ou p h.sh h.sa (by omega);have hnm:=pr p h.sa h.e0 4096 (by omega) (by omega) (dv (fg h.e0).1).2.2.2;have hnf:=oo h.e0 h.num;have hbu:=Iv p h.sh h.sa h.e0 (by omega) (by omega);have hl:=(uj (p:=p) (dv (fg h.e0).1).2.1 (fg h.e0).2.2.2.2 p.task.cases.length).2
 have hvl:(bG p).views.length<=8192:=by
  show(bldS p p.task.cases.length).views.length<=8192;omega
 have d3:=fh p;have d4:=eO (bG p);have hnum:=h.num;rw[h.e0] at hck;unfold cT at hck hnm hbu d3 |-;unfold fZ at hbu d4 |-;rw[PC.2.2.2.2.1] at hck hnm hbu d3 |-;rw[PC.2.2.2.2.2.2.2] at hbu d4 |-;generalize oH p 4096=M at *;generalize bG p=s at *;refine wnZ @PE ?_;exact cR (af (d4 _) (af (.int _ _) ai))
theorem Di(p:PrbV)(hs:ShP p):pU 25 [cT p] (.bool (iI p)):=by
 refine pO Qg ?_;simp only[b25,av];have hf:=Ir p hs;have d3:=fh p;have d4:=eO (bG p);cases hfv:Ct p with
 |false=>
  rw[hfv] at hf;have e:iI p=false:=by unfold iI;rw[hfv];rfl
  rw[e];unfold cT at hf d3 |-;rw[PC.2.2.2.2.1] at hf d3 |-;refine wnZ @PE ?_;exact .bool _
 |true=>
 rw[hfv] at hf;obtain⟨q1,q2,q3⟩:=zI hfv;obtain⟨q4,q5⟩:=nU q2;have hsa:=qQ hs q4;by_cases h0:lj p=0
 rotate_left
 ·have hb:=Ha p hs hsa (by omega) h0;have e:iI p=false:=by unfold iI;rw[bL h0,Bool.and_false,Bool.false_and]
  rw[e];have hne:decide (lj p=0)=false:=bL h0;unfold cT at hf hb d3 |-;unfold Z10 at hb;rw[PC.2.2.2.2.1] at hf hb d3 |-;generalize lj p=e at *;refine wnZ (aI @PE @hne) ?_;exact .bool _
 by_cases hb4:4096<oH p 4096
 ·have hb:=Gz p hs hsa (by omega) h0 hb4;have e:iI p=false:=by unfold iI;rw[show decide (oH p 4096<=60)=false from bL (by omega),Bool.and_false]
  rw[e];unfold cT at hf hb d3 |-;unfold Z10 at hb;rw[PC.2.2.2.2.1] at hf hb d3 |-;refine wnZ @PE ?_;exact .bool _
 have h60:oH p 4096<=60:=by
  unfold Ct at hfv;rw[if_pos ⟨q1,q2,q3⟩,if_neg λh=>h h0,lh,gI,gI] at hfv;omega
 have e:iI p=true:=by unfold iI;rw[hfv,bH h0,bH h60];rfl
 rw[e];have hb:=H6 p (v9 hs e);unfold cT at hf hb d3 |-;unfold fZ at hb d4;rw[PC.2.2.2.2.1] at hf hb d3 |-;rw[PC.2.2.2.2.2.2.2] at hb d4;generalize bG p=s at *;refine wnZ @PE ?_;exact .bool _
end
end Go.Proofs.YtmpcledaoigkaaaGreat
namespace Go.Proofs.YtmpcledaoigkaaaGreat
open Go Go.Abs Go.RowKit
section
variable{H:Type}{enc:TypeId×Value->H}{W:World}
theorem oi:dW enc Tryz.prog W 3 (AV.int .i64) (λn=>(Lit.int .i64 n).wf=true):=xK Tryz.underlying3
end
theorem tU{f:FuncId}{xs:List AV}{vs:List Value}(h:pU f xs (.bool true))(w:World)(hv:dM (E0 (sZ w)) w xs vs):
    Calls Tryz.prog f vs.toArray w λe w'=>e=.returned (.bool true)/\Below w.heap.size w w':=by
 refine(h.2 (sZ w) w vs (λ_ h=>h) hv).mono ?_;rintro e w' ⟨v,imm',rfl,hb,_,_,_,hr⟩;cases hr;exact⟨rfl,hb⟩
theorem Po:laidOutB Tryz.prog=true:=by kernel_rfl
end Go.Proofs.YtmpcledaoigkaaaGreat
namespace Go.Proofs.YtmpcledaoigkaaaGreat
open Go Go.Abs Go.RowKit Tk
section
variable{H:Type}{enc:TypeId×Value->H}{W:World}
theorem oL1:dW enc Tryz.prog W 45 aD Sh:=
 (jC Tryz.underlying45 (sz:=1) (by_:=8) (by kernel_rfl) (by kernel_rfl) ig (λ_=>rfl) oi).mono λl h=>by have:=h.2.2;show _<=_;omega
theorem oL2:dW enc Tryz.prog W 100 bm (λl=>Sh l/\∀x∈l,Sh x):=
 (jC Tryz.underlying100 (sz:=1) (by_:=24) (by kernel_rfl) (by kernel_rfl) ig (λ_=>rfl) oL1).mono λl h=>⟨by have:=h.2.2;show _<=_;omega,h.1⟩
set_option maxRecDepth 100000 in
theorem OC:dW enc Tryz.prog W 128 kD ShC:=
 (fo Tryz.underlying128 (by kernel_rfl) (cl (off:=0) (off':=1) rfl (by kernel_rfl) oL1 (cl (off:=1) (off':=2) rfl (by kernel_rfl) oL2 (cl (off:=2) (off':=3) rfl (by kernel_rfl) oL2 io)))).map
  (fun a=>(⟨a.1,a.2.1,a.2.2.1⟩:CaseV)) (by
   rintro⟨i,o,c,u⟩ ⟨h1,h2,h3,_⟩;exact⟨h1,h2.1,h2.2,h3.1,h3.2⟩) (λ_ _=>rfl)
theorem J0:dW enc Tryz.prog W 22 cI (λl=>Sh l/\∀c∈l,ShC c):=
 (jC Tryz.underlying22 (sz:=3) (by_:=72) (by kernel_rfl) (by kernel_rfl) (by omega) (λ_=>rfl) OC).mono λl h=>⟨by have:=h.2.2;show _<=_;omega,h.1⟩
set_option maxRecDepth 100000 in
theorem L9:dW enc Tryz.prog W 24 qj (λt=>Sh t.cases/\∀c∈t.cases,ShC c):=
 (fo Tryz.underlying24 (by kernel_rfl) (cl (off:=0) (off':=1) rfl (by kernel_rfl) oi (cl (off:=1) (off':=2) rfl (by kernel_rfl) oi (cl (off:=2) (off':=3) rfl (by kernel_rfl) oi (cl (off:=3) (off':=4) rfl (by kernel_rfl) J0 io))))).map
  (fun a=>(⟨a.1,a.2.1,a.2.2.1,a.2.2.2.1⟩:TaskV)) (by
   rintro⟨n,i,o,c,u⟩ ⟨_,_,_,h,_⟩;exact h) (λ_ _=>rfl)
theorem oA5:dW enc Tryz.prog W 121 (λl:List Int=>.agg (l.flatMap λa=>(AV.int .i64 a).cells)) (λl=>l.length=5/\∀a∈l,(Lit.int .i64 a).wf=true):=
 xJ Tryz.underlying121 (sz:=1) (by kernel_rfl) (by kernel_rfl) oi
theorem Kl:dW enc Tryz.prog W 30 (λl:List Int=>.agg (l.flatMap λa=>(AV.int .u8 a).cells)) (λl=>l.length=2/\∀a∈l,(Lit.int .u8 a).wf=true):=
 xJ Tryz.underlying30 (sz:=1) (by kernel_rfl) (by kernel_rfl) (xK Tryz.underlying5)
set_option maxRecDepth 100000 in
theorem Kd:dW enc Tryz.prog W 123 kA (λ_=>True):=
 (fo Tryz.underlying123 (by kernel_rfl) (cl (off:=0) (off':=1) rfl (by kernel_rfl) oi (cl (off:=1) (off':=6) rfl (by kernel_rfl) oA5 io))).map
  (fun a=>(⟨a.1,a.2.1.getD 0 0,a.2.1.getD 1 0,a.2.1.getD 2 0,a.2.1.getD 3 0,a.2.1.getD 4 0,0⟩:RndV)) (fun _ _=>trivial) (by
   rintro⟨a,l,u⟩ ⟨_,⟨h,_⟩,_⟩
   match l,h with
   |[h0,h1,h2,h3,h4],_=>rfl)
set_option maxRecDepth 100000 in
theorem PV:dW enc Tryz.prog W 125 fG (λ_=>True):=
 (fo Tryz.underlying125 (by kernel_rfl) (cl (off:=0) (off':=6) rfl (by kernel_rfl) Kd (cl (off:=6) (off':=7) rfl (by kernel_rfl) oi io))).map
  (λa=>(⟨a.1.n,a.1.h0,a.1.h1,a.1.h2,a.1.h3,a.1.h4,a.2.1⟩:RndV)) (λ_ _=>trivial) (λ_ _=>rfl)
set_option maxRecDepth 100000 in
theorem O5:dW enc Tryz.prog W 135 iU (λ_=>True):=
 (fo Tryz.underlying135 (by kernel_rfl) (cl (off:=0) (off':=7) rfl (by kernel_rfl) PV (cl (off:=7) (off':=8) rfl (by kernel_rfl) oi io))).map
  (λa=>(⟨a.1,a.2.1⟩:MvV)) (λ_ _=>trivial) (λ_ _=>rfl)
theorem KA:dW enc Tryz.prog W 131 dt (λl=>l.length<=17592186044416):=
 (jC Tryz.underlying131 (sz:=8) (by_:=64) (by kernel_rfl) (by kernel_rfl) (by omega) (λ_=>rfl) O5).mono λl h=>by have:=h.2.2;omega
theorem HT:dW enc Tryz.prog W 25 bj (λl=>l.length<=17592186044416/\∀x∈l,x.length<=17592186044416):=
 (jC Tryz.underlying25 (sz:=1) (by_:=24) (by kernel_rfl) (by kernel_rfl) ig (λ_=>rfl) KA).mono λl h=>⟨by have:=h.2.2;omega,h.1⟩
set_option maxRecDepth 100000 in
theorem P1:dW enc Tryz.prog W 27 ee (λa=>a.states.length<=17592186044416/\∀x∈a.states,x.length<=17592186044416):=
 (fo Tryz.underlying27 (by kernel_rfl) (cl (off:=0) (off':=1) rfl (by kernel_rfl) oi (cl (off:=1) (off':=2) rfl (by kernel_rfl) HT io))).map
  (fun a=>(⟨a.1,a.2.1⟩:AdvV)) (by
   rintro⟨n,s,u⟩ ⟨_,h,_⟩;exact h) (λ_ _=>rfl)
set_option maxRecDepth 100000 in
theorem Qk:dW enc Tryz.prog W 29 cT ShP:=
 (fo Tryz.underlying29 (by kernel_rfl) (cl (off:=0) (off':=4) rfl (by kernel_rfl) L9 (cl (off:=4) (off':=6) rfl (by kernel_rfl) P1 (cl (off:=6) (off':=7) rfl (by kernel_rfl) oi io)))).map
  (fun a=>(⟨a.1,a.2.1,a.2.2.1⟩:PrbV)) (by
   rintro⟨t,a,r,u⟩ ⟨h1,h2,_⟩;exact⟨h1.2,h1.1,h2.1,h2.2⟩) (λ_ _=>rfl)
end
theorem Pa{a:Int}(h:(Lit.int .u8 a).wf=true):∃n:Nat,a=n/\n<256:=by
 simp only[Lit.wf,d9,gI] at h;have h1:IntKind.min .u8=0:=by decide
 have h2:IntKind.max .u8=255:=by decide
 exact⟨a.toNat,by omega,by omega⟩
end Go.Proofs.YtmpcledaoigkaaaGreat
namespace Go.Proofs.YtmpcledaoigkaaaGreat
open Go Go.Abs Tk
open Nat (reduceEqDiff reduceAdd reduceLeDiff)
theorem Fs(n:Nat)(tb tf:Bool):bo .shl tb tf (.int .i64 1) (.int .i64 (n:Int))=some (.int .i64 (IntKind.wrap .i64 (1*2^(min n 64)))):=by
 simp[bo,nu,IntKind.bits]
theorem Fu{f:Int}{p:Nat}(h0:0<=f)(hp:p<=60):hasFl f p=!decide (qk (kw f p)=0):=by
 obtain⟨m,rfl⟩:∃m:Nat,f=m:=⟨f.toNat,by omega⟩
 have e:kw (m:Int) p=((m/2^p:Nat):Int):=by
  unfold kw;rw[Nat.min_eq_left (by omega),Int.fdiv_eq_ediv_of_nonneg _ (Int.le_of_lt (Int.pow_pos (by omega)))];simp
 rw[e,od];unfold hasFl;rw[show(m:Int)/((2^p:Nat):Int)=((m/2^p:Nat):Int) from rfl];generalize m/2^p=x;by_cases h:x%2=0
 ·rw[bL (by omega),bH (by omega)];rfl
 ·rw[bH (by omega),bL (by omega)];rfl
theorem qI{m p:Nat}(hp:p<=60):kw (m:Int) p=((m/2^p:Nat):Int):=by
 unfold kw;rw[Nat.min_eq_left (by omega),Int.fdiv_eq_ediv_of_nonneg _ (Int.le_of_lt (Int.pow_pos (by omega)))];simp
theorem Lu{f:Int}{n:Nat}(h0:0<=f)(h:f<pw n)(hn:n<=60):kw f n=0:=by
 obtain⟨m,rfl⟩:∃m:Nat,f=m:=⟨f.toNat,by omega⟩
 rw[qI hn,Nat.div_eq_of_lt]
 ·rfl
 ·rw[Bw rfl] at h;omega
def lZ(a:AdvV)(s:Nat):List (Nat×MvV):=(List.range s).flatMap λi=>(a.st i).map λm=>(i,m)
theorem oz(a:AdvV)(s:Nat):lZ a (s+1)=lZ a s++(a.st s).map λm=>(s,m):=by
 unfold lZ;rw[List.range_succ,List.flatMap_append,l8,List.flatMap_nil,gH]
theorem zX(a:AdvV)(s:Nat):∀d,∃R,lZ a s++R=lZ a (s+d)
 |0=>⟨[],gH _⟩
 |d+1=>by
  obtain⟨R,h⟩:=zX a s d;exact⟨R++(a.st (s+d)).map λm=>(s+d,m),by rw[<-gK,h,<-oz];rfl⟩
def we(a:AdvV):List (Nat×MvV):=lZ a a.states.length
theorem AG(a:AdvV):∀s,s<=a.states.length->(lZ a s).length=dy (a.states.take s)
 |0,_=>rfl
 |s+1,h=>by
  rw[oz,cm,bC,AG a s (by omega),r9 (by omega)];rfl
theorem E9(a:AdvV):(we a).length=dy a.states:=by
 unfold we;rw[AG a _ (ba _),List.take_length]
def H7(a b:Int):Int:=IntKind.wrap .i64 (BitVec.ofInt 64 a &&& ~~~BitVec.ofInt 64 b).toNat
theorem IR(tb tf:Bool)(a b:Int):bo .andNot tb tf (.int .i64 a) (.int .i64 b)=some (.int .i64 (H7 a b)):=rfl
set_option maxRecDepth 100000 in
theorem Fa:∀a,a<32->∀b,b<32->kF ((a:Nat):Int) ((b:Nat):Int)=true->H7 ((a:Nat):Int) ((b:Nat):Int)=0:=by decide+kernel
theorem Kk{a b:Int}(ha:0<=a/\a<32)(hb:0<=b/\b<32)(h:kF a b=true):H7 a b=0:=by
 have:=Fa a.toNat (by omega) b.toNat (by omega);rw[show((a.toNat:Nat):Int)=a by omega,show((b.toNat:Nat):Int)=b by omega] at this;exact this h
theorem gj(n:Nat):bv (.agg [.int .i64 0]) n=(List.replicate n (0:Int)).map (AV.int .i64):=by
 induction n with
 |zero=>rfl
 |succ n ih=>rw[List.replicate_succ,im,<-ih];simp[bv,List.replicate_succ,AV.cells]
theorem zE:∀{l:List Int}{s:Nat}{x:Int},s<l.length->(l.set s x).getD s 0=x
 |_::_,0,_,_=>rfl
 |_::l,s+1,x,h=>zE (l:=l) (s:=s) (by simpa using h)
def Cs(lim:Int)(C:List Int)(nx:List Int)(p:Nat×MvV):List Int:=nx.set p.1 (min (nx.getD p.1 0+C.getD p.2.to.toNat 0) (lim+1))
def pp(lim:Int)(C:List Int)(n:Nat)(D:List (Nat×MvV)):List Int:=D.foldl (Cs lim C) (List.replicate n 0)
theorem Ez(lim:Int)(C:List Int)(n:Nat)(D:List (Nat×MvV))(s:Nat)(m:MvV):pp lim C n (D++[(s,m)])=(pp lim C n D).set s (min ((pp lim C n D).getD s 0+C.getD m.to.toNat 0) (lim+1)):=by
 unfold pp;rw[List.foldl_append];rfl
theorem Dw(lim:Int)(C:List Int):∀(D:List (Nat×MvV))(nx:List Int),(D.foldl (Cs lim C) nx).length=nx.length
 |[],_=>rfl
 |p::D,nx=>by rw[List.foldl_cons,Dw lim C D];exact List.length_set
theorem GX(lim:Int)(C:List Int)(n:Nat)(D:List (Nat×MvV)):(pp lim C n D).length=n:=by unfold pp;rw[Dw,List.length_replicate]
theorem DA(lim:Int)(C:List Int)(s:Nat):∀(l:List MvV)(nx:List Int),s<nx.length->(l.map λm=>(s,m)).foldl (Cs lim C) nx=nx.set s (l.foldl (λn m=>min (n+C.getD m.to.toNat 0) (lim+1)) (nx.getD s 0))
 |[],nx,h=>by
  refine List.ext_getElem? λi=>?_;show nx[i]?=(nx.set s (nx.getD s 0))[i]?;rw[List.getElem?_set];split
  ·rename_i e;subst e;simp[h,List.getD]
  ·rfl
 |m::l,nx,h=>by
  rw[im,List.foldl_cons,DA lim C s l _ (by unfold Cs;rw[List.length_set];exact h)];unfold Cs;rw[zE h,List.set_set];rfl
theorem Az{a:AdvV}{lim:Int}{C:List Int}:∀s,s<=a.states.length->pp lim C a.states.length (lZ a s)=((List.range s).map λi=>sJ lim C (a.st i))++List.replicate (a.states.length-s) 0
 |0,_=>by simp[pp,lZ]
 |s+1,h=>by
  have ih:=Az (a:=a) (lim:=lim) (C:=C) s (by omega);have hl:((List.range s).map λi=>sJ lim C (a.st i)).length=s:=by simp
  unfold pp at ih |-;rw[oz,List.foldl_append,ih,DA lim C s _ _ (by rw[cm,hl,List.length_replicate];omega)]
  have hg:(((List.range s).map λi=>sJ lim C (a.st i))++List.replicate (a.states.length-s) (0:Int)).getD s 0=0:=by
   rw[li,iG (by omega),hl,Nat.sub_self,List.getElem?_replicate,if_pos (by omega)];rfl
  rw[hg,List.set_append_right _ _ (by omega),hl,Nat.sub_self,List.range_succ,du,gK,show a.states.length-s=(a.states.length-(s+1))+1 by omega,List.replicate_succ];rfl
theorem Fe{a:AdvV}{lim:Int}{k:Nat}:pp lim (fY a lim k) a.states.length (we a)=fY a lim (k+1):=by
 unfold we;rw[Az _ (ba _),Nat.sub_self,List.replicate_zero,gH,fY];refine List.ext_getElem? λi=>?_;rw[jJ,jJ];by_cases hi:i<a.states.length
 ·rw[List.getElem?_range hi,rQ hi];simp[AdvV.st,List.getD,hi]
 ·rw[List.getElem?_eq_none (by simp;omega),List.getElem?_eq_none (by omega)];rfl
theorem CW{lim:Int}(hl:0<=lim){C:List Int}(hC:∀x∈C,0<=x/\x<=lim+1)(n:Nat):∀(D:List (Nat×MvV))(nx:List Int),(∀x∈nx,0<=x/\x<=lim+1)->∀x∈D.foldl (Cs lim C) nx,0<=x/\x<=lim+1
 |[],nx,h=>h
 |p::D,nx,h=>by
  rw[List.foldl_cons];refine CW hl hC n D _ λx hx=>?_;unfold Cs at hx;rcases List.mem_or_eq_of_mem_set hx with hx|rfl
  ·exact h x hx
  ·have h1:0<=nx.getD p.1 0:=by
     by_cases hb:p.1<nx.length
     ·exact(h _ (je hb)).1
     ·rw[li,List.getElem?_eq_none (by omega)];exact Int.le_refl _
   have h2:0<=C.getD p.2.to.toNat 0:=by
    by_cases hb:p.2.to.toNat<C.length
    ·exact(hC _ (je hb)).1
    ·rw[li,List.getElem?_eq_none (by omega)];exact Int.le_refl _
   omega
theorem GL{B n len k:Nat}(h:k<len)(hn:n≠0):lq 1 (.msl B n 1 0 len) (some (.int .i64 k)) none none=some (.msl B n 1 k (len-k)):=by
 simp only[lq,bT,Int.natCast_nonneg,if_true,bR];rw[if_pos ⟨trivial,by omega,ba _,hn⟩,if_pos (.inr h),cp,Nat.mul_one]
theorem F4{B n len k:Nat}(h:k<=len)(hn:n≠0):lq 1 (.msl B n 1 0 len) none (some (.int .i64 k)) none=some (.msl B n 1 0 k):=by
 simp only[lq,bT,Int.natCast_nonneg,if_true,bR];rw[if_pos ⟨trivial,by omega,h,hn⟩,if_pos (.inl trivial),oV,Nat.sub_zero]
theorem I0{H:Hp}{b c:Nat}{cb cs cs':List AV}(hb:H b=some cb)(hc:H c=some cs)(hne:c≠b)(h:ew (only b cb) cs cs'):Fz (only b cb) H (ap (cC H b) c cs'):=
 ⟨fun y d hd=>(by
  unfold only at hd;split at hd
  ·rename_i e;rw[e,hb];exact hd
  ·cases hd),λy d hd=>(by
  by_cases e:y=c
  ·subst e;rw[ac] at hd;cases hd;exact⟨cs,hc,if_neg hne,h⟩
  ·rw[ab e] at hd;obtain⟨h1,h2⟩:=ji hd;exact⟨d,h2,if_neg h1,ew.refl _ _⟩)⟩
section
attribute [local irreducible] aG ah bg aQ aH aK ay aN aR bq Go.Abs.Fn aP Go.Abs.Pure ak aF Yl
theorem KD(n:Nat)(h:n<=5):pU 180 [.int .i64 n] (.int .i64 (pw n-1)):=by
 refine pO L5 ?_;simp only[Oh,av]
 have hw:IntKind.wrap .i64 (1*2^(min n 64))=pw n:=by
  rw[Bw rfl];rcases(by omega:n=0\/n=1\/n=2\/n=3\/n=4\/n=5) with rfl|rfl|rfl|rfl|rfl|rfl<;>rfl
 have hs:=λtb tf=>Fs n tb tf;rw[hw] at hs;have hp:=yD (n:=(n:Int)) (by omega);generalize pw (n:Int)=w at *;refine wnZ @hs ?_;exact aA rfl
theorem Ii(r:RndV)(h:kS r=0):pU 172 [kA r] (.int .i64 0):=by
 refine pO Mr ?_;simp only[LU,av];obtain⟨h1,h5,hp⟩:=nD h;obtain⟨k,hk⟩:∃k:Nat,r.n=k:=⟨r.n.toNat,by omega⟩
 have hfu:=KD k (by omega);have hpw:=yD (n:=r.n) (by omega);have hcell:=λq hq=>GC r (q:=q) hq;unfold kA;rw[PC.2.1];rw[hk] at hp hpw h1 h5 |-;generalize pw (k:Int)=w at *;refine wnZ and_self ?_;refine gn (X:=Nat) (λq=>[(1,.ptr 0 6 0),(14,.agg [.int .i64 r.h0,.int .i64 r.h1,.int .i64 r.h2,.int .i64 r.h3,.int .i64 r.h4]),(15,.int .i64 q)]) (λq=>q<=5) (λq=>5-q) 0 (bA _) (by simp (disch:=omega) only[agr,ZG,reduceEqDiff,↓reduceIte,SL]) ?_;intro q hq;by_cases hq5:q<5
 rotate_left
 ·refine wnZ and_self ?_;exact aA rfl
 have hc:=hcell q hq5;obtain⟨p1,p2⟩:=hp q hq5;have hsh:=λtb tf=>rh tb tf (r.hs.getD q 0) q
 have hmax:0<=r.hs.getD q 0/\r.hs.getD q 0<=31:=by
  by_cases hle:(k:Int)<=q
  ·rw[p1 hle];omega
  ·have:=p2 (by omega);omega
 have hbit:=Fu (f:=r.hs.getD q 0) (p:=q) hmax.1 (by omega)
 have hz:(q:Int)<k->decide (qk (kw (r.hs.getD q 0) q)=0)=false:=λhlt=>by
  rw[(p2 hlt).2.2] at hbit;cases hd:decide (qk (kw (r.hs.getD q 0) q)=0) with
  |false=>rfl
  |true=>rw[hd] at hbit;cases hbit
 have ha1:=λtb tf=>pZ tb tf (kw (r.hs.getD q 0) q);generalize kw (r.hs.getD q 0) q=sn at *;generalize qk sn=an at *;generalize r.hs.getD q 0=x at *;by_cases hle:(k:Int)<=q
 ·have hx0:=p1 hle;refine wnZ (aI @IX @hc) ?_;exact⟨q+1,by omega,by omega,ag0,rfl,rfl⟩
 ·obtain⟨x0,x1,_⟩:=p2 (by omega);have hz:=hz (by omega);refine wnZ (zI5 @IX @hc @hsh @ha1 @hz) ?_;exact⟨q+1,by omega,by omega,ag0,rfl,rfl⟩
theorem Hc(n:Nat)(f:Int)(h1:1<=n)(h5:n<=5)(h0:0<=f)(hf:f<pw n):pU 173 [.int .i64 n,.int .i64 f] (.int .i64 0):=by
 refine pO Pb ?_;simp only[LN,av];have hp:=HM n;rw[if_neg (by omega)] at hp;have hs:=λtb tf=>rh tb tf f n;rw[Lu h0 hf (by omega)] at hs;have hpw:=yD (n:=(n:Int)) (by omega);refine wnZ @hs ?_;exact aA rfl
theorem HI(r:RndV)(h:kX r=0):pU 155 [fG r] (.int .i64 0):=by
 refine pO Pf ?_;simp only[Nd,av];obtain⟨h1,h2,h3⟩:=ko h;obtain⟨n1,n5,-⟩:=nD h1;obtain⟨k,hk⟩:∃k:Nat,r.n=k:=⟨r.n.toNat,by omega⟩
 have hg:=Ii r h1;have hps:=Hc k r.f (by omega) (by omega) h2 (by rw[<-hk];exact h3);rw[<-hk] at hps;have hd:=jy r;unfold fG;unfold kA at hg hd;rw[PC.2.1] at hg hd;rw[PC.1];refine wnZ and_self ?_;exact aA rfl
theorem ze(a:AdvV):pU 133 [ee a] (.func 157 [.iptr [.int .i64 a.n,bj a.states] 0]):=by
 refine pO Nt ?_;simp only[Oj,av];unfold ee;rw[PC.2.2.2.1];refine wnZ @PE ?_;exact iz (af (dY rfl rfl (af (.int _ _) (af (Dat.snap (gf _)) ai))) ai)
theorem uW(a:AdvV)(ha:ShA a){y:Nat}{H:Hp}{nx:Nat}(I:List (Nat×MvV)->Hp->Nat->Prop)
    (stab:∀D H H' n n',I D H n->n<=n'->(∀i,i<n->H' i=H i)->I D H' n')
    (rnd:∀D s m H n,I D H n->s<a.states.length->m∈a.st s->(∃R,D++(s,m)::R=we a)->Yl Tryz.prog y [.int .i64 s,.agg m.cs] H n λr H' n'=>r=.bool true/\I (D++[(s,m)]) H' n')
    (h0:I [] H nx):
    Abs.Fn Tryz.prog 157 [.yld y,.iptr [.int .i64 a.n,bj a.states] 0] H nx λ_ H' nx'=>I (we a) H' nx':=by
 refine fO Oq ?_;simp only[OV,av];obtain⟨h1,h2⟩:=ha;have hmA:we a=lZ a a.states.length:=rfl
 have hpre:∀s,s<a.states.length->∃R,lZ a (s+1)++R=we a:=λs hs=>by
  obtain⟨R,h⟩:=zX a (s+1) (a.states.length-(s+1));exact⟨R,by rw[h,hmA];congr 1;omega⟩
 refine wnY @PE ?_;refine br (X:=Nat) (λs=>[(0,.yld y),(1,.iptr [.int .i64 a.n,bj a.states] 0),(8,bj a.states),(9,.int .i64 a.states.length),(10,.int .i64 s)]) (λs H n=>s<=a.states.length/\I (lZ a s) H n) (λs=>a.states.length-s) 0 ⟨bA _,h0⟩ ag0 ?_;clear h0;rintro s H1 n1 ⟨s1,s2⟩;by_cases hs:s<a.states.length
 rotate_left
 ·obtain rfl:s=a.states.length:=by omega
  rw[hmA];refine wnY @PE ?_;exact s2
 have ix:=Aj hs;have hl2:=h2 _ (au (l:=a.states) hs);have hms:=oz a s;have hr:=rnd (s:=s);have hps:=hpre s hs;rw[hms] at hps;rw[pj] at ix hl2;have hr:=λD m H n h1 h2 h3=>hr D m H n h1 hs h2 h3;generalize a.st s=l at *;refine wnY (aI @PE @ix) ?_;refine br (X:=Nat) (λk=>[(0,.yld y),(1,.iptr [.int .i64 a.n,bj a.states] 0),(3,.int .i64 s),(8,bj a.states),(9,.int .i64 a.states.length),(10,.int .i64 s),(15,dt l),(16,.int .i64 l.length),(17,.int .i64 k)]) (λk H n=>k<=l.length/\I (lZ a s++(l.take k).map λm=>(s,m)) H n) (λk=>l.length-k) 0 ⟨bA _,by rw[List.take_zero,List.map_nil,gH];exact s2⟩ ag0 ?_;clear s2;rintro k H2 n2 ⟨k1,k2⟩;by_cases hk:k<l.length
 rotate_left
 ·rw[iW (by omega),<-hms] at k2;refine wnY @PE ?_;exact⟨s+1,by omega,⟨by omega,k2⟩,ag0⟩
 have ixm:=ixM hk;have hrm:=hr (lZ a s++(l.take k).map λm=>(s,m)) (l.getD k default)
 have hnx:lZ a s++(l.take (k+1)).map (λm=>(s,m))=(lZ a s++(l.take k).map λm=>(s,m))++[(s,l.getD k default)]:=by
  rw[bO hk,du,<-gK];rfl
 have hex:∃R,(lZ a s++(l.take k).map λm=>(s,m))++(s,l.getD k default)::R=we a:=by
  obtain⟨R,hR⟩:=hps;refine⟨(l.drop (k+1)).map (λm=>(s,m))++R,?_⟩;rw[<-hR,show(s,l.getD k default)::((l.drop (k+1)).map (λm=>(s,m))++R)=[(s,l.getD k default)]++((l.drop (k+1)).map (λm=>(s,m))++R) from rfl,<-gK,<-hnx,<-gK,gK (lZ a s),<-du,wk]
 have hmm:=au hk;have hrm:=λH n h=>hrm H n h hmm hex;rw[PC.2.2.1] at ixm hrm;rw[<-hnx] at hrm;generalize (lZ a s++(l.take k).map λm=>(s,m))=D at *;generalize l.getD k default=m at *;refine wnY (aI @PE @ixm) ?_;refine qD ev0 ev0 (Yl.mono (hrm _ _ (stab D H2 _ n2 _ k2 (by omega) λi hi=>by rw[ab (by omega),ab (by omega)])) ?_);rintro r H3 n3 ⟨rfl,q⟩;refine wnY @PE ?_;exact⟨k+1,by omega,⟨by omega,q⟩,ag0⟩
theorem Jg(a:AdvV)(ha:ShA a)(ho:AdvOk a):pU 131 [ee a] (.int .i64 0):=by
 refine pO OD ?_;simp only[NI,av];have hm:=ze a;have hd:=dL a;have hY:=@uW a ha;have h1:=ho.s1;have h2:=ho.s256;have h3:=ho.m4096;have hlen:=E9 a;unfold ee at hm hd |-;rw[PC.2.2.2.1] at hm hd |-;refine wnY @PE ?_;refine jh 2 3 rfl rfl ev0 (λc0 cj hy=>?_);refine Abs.Fn.mono (hY (y:=2) (nx:=3) (λD H n=>H 0=some [.int .i64 a.n,bj a.states]/\H 1=some [.int .i64 (D.length:Nat)]/\H 2=some [c0]/\3<=n) ?_ ?_ ?_) ?_
 ·rintro D H H' n n' ⟨q0,q1,q2,q3⟩ hn hh;exact⟨(hh 0 (by omega)).trans q0,(hh 1 (by omega)).trans q1,(hh 2 (by omega)).trans q2,by omega⟩
 ·rintro D s m H n ⟨q0,q1,q2,q3⟩ hs hm' ⟨R,hR⟩
  have hDl:D.length<=4096:=by
   have:=congrArg List.length hR;rw[cm] at this;omega
  refine hy _ _ _ _ q2 rfl ?_;clear hy;refine wnZ and_self ?_;refine⟨q2,?_⟩;have e0:cC H 2 0=some [.int .i64 a.n,bj a.states]:=by rw[cA (by omega)];exact q0
  have e1:cC H 2 1=some [.int .i64 (D.length:Nat)]:=by rw[cA (by omega)];exact q1
  generalize cC H 2=H1 at *;refine wnY @e1 ?_;refine⟨rfl,?_,?_,ac,q3⟩
  ·rw[ab (by omega),ab (by omega)];exact e0
  ·rw[ab (by omega),ac,cm,List.length_singleton];rfl
 ·refine⟨by simp (disch:=omega) only[ab,ac],?_,ac,by omega⟩;simp (disch:=omega) only[ab,ac];rfl
 rintro r H' n' ⟨q0,q1,q2,q3⟩;refine .inl ⟨q2,?_⟩;have e0:cC H' 2 0=some [.int .i64 a.n,bj a.states]:=by rw[cA (by omega)];exact q0
 have e1:cC H' 2 1=some [.int .i64 ((we a).length:Nat)]:=by rw[cA (by omega)];exact q1
 generalize cC H' 2=H1 at *;refine wnY (zI3 @PE @e0 @e1) ?_
 all_goals first|exact aA rfl|(exfalso;omega)
theorem IK(a:AdvV)(l:List MvV)(h1:l≠[])(h2:∀m∈l,MvOk a m)(h3:∀i,0<i->i<l.length->bz (l.getD (i-1) default).r.ints (l.getD i default).r.ints<0)(hl:l.length<=4096)(ha:a.states.length<=256):pU 132 [ee a,dt l] (.int .i64 0):=by
 refine pO Ob ?_;simp only[Oy,av];have hl0:0<l.length:=wA.2 h1;unfold ee;rw[PC.2.2.2.1];refine wnY @PE ?_;refine br (X:=Nat) (λk=>[(1,dt l),(2,.ptr 0 2 0),(11,dt l),(12,.int .i64 l.length),(13,.int .i64 k)]) (λk H n=>k<=l.length/\H 0=some [.int .i64 a.n,bj a.states]/\0<n) (λk=>l.length-k) 0 ⟨bA _,ac,ig⟩ (by simp (disch:=omega) only[agr,ZG,reduceEqDiff,↓reduceIte,SL]) ?_;rintro k H n ⟨k1,g0,hn⟩;by_cases hk:k<l.length
 rotate_left
 ·refine wnY @PE ?_;exact aA rfl
 have ix:=ixM hk;obtain⟨m1,m2,m3,m4⟩:=h2 _ (au hk);have hck:=HI (l.getD k default).r m1;have hdm:=nQ (l.getD k default).r;rw[PC.2.2.1] at ix;have hcm:=λp=>Ep p (l.getD k default).r;have hord:=h3 k;unfold fG at hck hdm;rw[PC.1] at hck hdm;have hz:decide ((l.getD k default).r.n≠a.n)=false:=bL (λh=>h m2);cases k with
 |zero=>
  generalize l.getD 0 default=m at *;have z0:decide ((0:Int)<((0:Nat):Int))=false:=rfl;refine wkY (zI5 @PE @ix @g0 @hz @z0) ?_
  all_goals first|(exfalso;omega)|skip
  exact⟨0+1,by omega,⟨by omega,by rw[ab (by omega),ab (by omega)];exact g0,by omega⟩,ag0⟩
 |succ j=>
  have z0:decide ((0:Int)<((j+1:Nat):Int))=true:=bH (by omega)
  have ix2:cu 8 (dt l) (.int .i64 (((j+1:Nat):Int)-1))=some (.iptr (l.getD j default).cs 0):=by
   rw[show((j+1:Nat):Int)-1=(j:Int) by omega];exact ixM (by omega)
  rw[PC.2.2.1] at ix2;have hcp:=hcm (l.getD j default).r;have hdp:=nQ (l.getD j default).r;unfold fG at hdp hcp;rw[PC.1] at hdp;rw[PC.1,PC.1] at hcp;have hord:=hord (by omega) hk;rw[show j+1-1=j from rfl] at hord;clear hcm;generalize l.getD (j+1) default=m at *;generalize l.getD j default=p at *;generalize bz p.r.ints m.r.ints=O at *;have zz:=aI @PE (aI @ix (aI @ix2 (aI @g0 (aI @hz @z0))));repeat' (first|refine zW ?_|refine zM ?_|apply a_n|refine zO ?_|refine vY ?_|refine cY ?_ (hp:=by first|exact hck|exact hcp)|refine alY ?_|refine stY ?_|refine gTY ?_|refine cFY ?_|(refine zGY ?_ ?_<;>(intro _hg;try (exfalso;omega)))|fail)
  all_goals first|(exfalso;omega)|skip
  exact⟨j+1+1,by omega,⟨by omega,by rw[ab (by omega),ab (by omega)];exact g0,by omega⟩,ag0⟩
theorem CK(a:AdvV)(ha:ShA a)(ho:AdvOk a):pU 107 [ee a] (.int .i64 0):=by
 refine pO Nr ?_;simp only[NB,av];have hsz:=Jg a ha ho;have hst:=λl hl=>IK a l (ho.ne l hl) (ho.mv l hl) (ho.asc l hl) (fA (py hl) ho.m4096) ho.s256;have hm:=ze a;have hd:=dL a;have hY:=@uW a ha;have n1:=ho.n1;have n5:=ho.n5;have hl8:=ha.len
 have hgrow:∀l∈a.states,∀m∈l,∀k∈a.st m.to.toNat,H7 m.r.f k.r.f=0:=λl hl m hml k hk=>by
  have hg:=eA.1 (eA.1 ho.grow l hl) m hml;have hin:=eA.1 hg k hk;have ok1:=ho.mv l hl m hml;have ok2:=ho.mv _ (mh (a:=a) (s:=m.to.toNat) (by have:=ok1.to0;have:=ok1.to1;omega)) k hk;obtain⟨_,p0,p1⟩:=ko ok1.r;obtain⟨_,p2,p3⟩:=ko ok2.r;have hpw:=yD (n:=a.n) n5;rw[ok1.n] at p1;rw[ok2.n] at p3;exact Kk ⟨p0,by omega⟩ ⟨p2,by omega⟩ hin
 unfold ee at hsz hst hm hd |-;rw[PC.2.2.2.1] at hsz hst hm hd |-;refine wnY @PE ?_;refine br (X:=Nat) (λk=>[(1,.ptr 0 2 0),(2,.ptr 1 1 0),(25,bj a.states),(26,.int .i64 a.states.length),(27,.int .i64 k)]) (λk H n=>k<=a.states.length/\H 0=some [.int .i64 a.n,bj a.states]/\H 1=some [.int .i64 0]/\n=2) (λk=>a.states.length-k) 0 ⟨bA _,by simp (disch:=omega) only[ab,ac],by simp (disch:=omega) only[ac],rfl⟩ (by simp (disch:=omega) only[agr,ZG,reduceEqDiff,↓reduceIte,SL]) ?_;rintro k H n ⟨k1,g0,g1,rfl⟩;by_cases hk:k<a.states.length
 ·have ix:=Aj hk;have hs:=hst _ (au hk);have hdl:=j9 (a.states.getD k default);generalize a.states.getD k default=l at *;refine wnY (zI3 @PE @ix @g0) ?_;exact⟨k+1,by omega,⟨by omega,g0,g1,rfl⟩,ag0⟩
 refine wnY (aI @PE @g0) ?_;refine jh 2 3 rfl rfl ev0 (λc0 cj hy=>?_);refine Abs.Fn.mono (hY (y:=2) (nx:=3) (λD H n=>H 0=some [.int .i64 a.n,bj a.states]/\H 1=some [.int .i64 0]/\H 2=some [c0]/\3<=n) ?_ ?_ ?_) ?_
 ·rintro D H H' n n' ⟨q0,q1,q2,q3⟩ hn hh;exact⟨(hh 0 (by omega)).trans q0,(hh 1 (by omega)).trans q1,(hh 2 (by omega)).trans q2,by omega⟩
 ·rintro D s m H n ⟨q0,q1,q2,q3⟩ hs hm'-;have ok:=ho.mv _ (mh hs) m hm';have t0:=ok.to0;have t1:=ok.to1;have hgm:=hgrow _ (mh hs) m hm';have ixs:=JC (l:=a.states) ⟨t0,t1⟩;rw[pj] at ixs;have hll:=ha.each _ (mh (a:=a) (s:=m.to.toNat) (by omega));generalize a.st m.to.toNat=l at *;refine hy _ _ _ _ q2 rfl ?_;clear hy;rw[PC.2.2.1];refine wnY and_self ?_;refine⟨by simp (disch:=omega) only[ab];exact q2,?_⟩;generalize hX:cC (ap _ _ _) 2=H1;have e0:H1 0=some [.int .i64 a.n,bj a.states]:=by rw[<-hX];simp (disch:=omega) only[cA,ab];exact q0
  have e1:H1 1=some [.int .i64 0]:=by rw[<-hX];simp (disch:=omega) only[cA,ab];exact q1
  have em:H1 n=some [.int .i64 m.r.n,.int .i64 m.r.h0,.int .i64 m.r.h1,.int .i64 m.r.h2,.int .i64 m.r.h3,.int .i64 m.r.h4,.int .i64 m.r.f,.int .i64 m.to]:=by rw[<-hX];simp (disch:=omega) only[cA,ac];rfl
  clear hX q0 q1 q2;refine wnY (zI4 @PE @e0 @em @ixs) ?_;refine br (X:=Nat) (λj=>[(1,.ptr 0 2 0),(2,.ptr 1 1 0),(8,.ptr n 8 0),(47,dt l),(48,.int .i64 l.length),(49,.int .i64 j)]) (λj H' n'=>j<=l.length/\H' 0=some [.int .i64 a.n,bj a.states]/\H' 1=some [.int .i64 0]/\H' n=some [.int .i64 m.r.n,.int .i64 m.r.h0,.int .i64 m.r.h1,.int .i64 m.r.h2,.int .i64 m.r.h3,.int .i64 m.r.h4,.int .i64 m.r.f,.int .i64 m.to]/\n<n') (λj=>l.length-j) 0 ⟨bA _,e0,e1,em,by omega⟩ (by simp (disch:=omega) only[agr,ZG,reduceEqDiff,↓reduceIte,SL]) ?_;clear e0 e1 em;rintro j H2 n2 ⟨j1,e0,e1,em,hn2⟩;by_cases hj:j<l.length
  rotate_left
  ·refine wnY @PE ?_;exact⟨rfl,by rw[ab (by omega)];exact e0,by rw[ab (by omega)];exact e1,ac,by omega⟩
  have ixj:=ixM hj;have hg:=hgm _ (au hj);have hae:=λtb tf=>IR tb tf m.r.f (l.getD j default).r.f;rw[hg] at hae;rw[PC.2.2.1] at ixj;generalize l.getD j default=k at *;refine wnY (zI4 @PE @ixj @em @hae) ?_;exact⟨j+1,by omega,⟨by omega,by simp (disch:=omega) only[ab];exact e0,by simp (disch:=omega) only[ab];exact e1,by simp (disch:=omega) only[ab];exact em,by omega⟩,ag0⟩
 ·exact⟨by rw[ab (by omega)];exact g0,by rw[ab (by omega)];exact g1,ac,by omega⟩
 rintro r H' n' ⟨q0,q1,q2,q3⟩;refine .inl ⟨q2,?_⟩;have e1:cC H' 2 1=some [.int .i64 0]:=by rw[cA (by omega)];exact q1
 generalize cC H' 2=H1 at *;refine wnY (aI @PE @e1) ?_;exact aA rfl
theorem IY(a b:Nat)(ha:a<65536)(hb:b<65536):pU 57 [.int .u64 a,.int .u64 b] (.tup [.int .u64 0,.int .u64 ((a*b:Nat):Int)]):=by
 refine pO Qz ?_;simp only[b57,av];have hab:a*b<=65535*65535:=Nat.mul_le_mul (by omega) (by omega)
 have hA:∀(n:Nat)(tb tf:Bool),n<65536->bo .and tb tf (.int .u64 n) (.int .u64 4294967295)=some (.int .u64 n):=λn tb tf h=>by
  have:=I2 (k:=.u64) (a:=n) (b:=4294967295) (tb:=tb) (tf:=tf) (by simp[IntKind.bits];omega) (by simp[IntKind.bits]);rw[show((4294967295:Nat):Int)=4294967295 from rfl] at this;rw[this,show(4294967295:Nat)=2^32-1 from rfl,GK,Nat.mod_eq_of_lt (by omega)]
 have hS:∀(n:Nat)(tb tf:Bool),n<4294967296->bo .shr tb tf (.int .u64 n) (.int .u64 32)=some (.int .u64 0):=λn tb tf h=>by
  have:=yb (k:=.u64) (k':=.u64) (a:=n) (b:=32) (tb:=tb) (tf:=tf) (by simp[IntKind.bits]);rw[show((32:Nat):Int)=32 from rfl] at this;rw[this,Nat.div_eq_of_lt (by omega)];rfl
 have hS0:∀(tb tf:Bool),bo .shr tb tf (.int .u64 0) (.int .u64 32)=some (.int .u64 0):=λtb tf=>hS 0 tb tf (by omega);have hA0:∀(tb tf:Bool),bo .and tb tf (.int .u64 0) (.int .u64 4294967295)=some (.int .u64 0):=λtb tf=>hA 0 tb tf (by omega)
 have hM:IntKind.wrap .u64 ((a:Int)*b)=((a*b:Nat):Int):=by
  rw[<-Int.natCast_mul];exact jU (by omega) (by omega)
 have w0:IntKind.wrap .u64 0=0:=by decide
 have qa:=λtb tf=>hA a tb tf ha;have qb:=λtb tf=>hA b tb tf hb;have sa:=λtb tf=>hS a tb tf (by omega);have sb:=λtb tf=>hS b tb tf (by omega);have sab:=λtb tf=>hS (a*b) tb tf (by omega);refine wnZ (aI @qa (aI @qb (aI @sa (fI @sb @hM @sab @Int.zero_mul @Int.mul_zero @Int.add_zero @Int.zero_add @w0 @hS0 @hA0)))) ?_;refine cR (af (aA rfl) (af (aA rfl) ai))
theorem Oo(a b:Nat)(ha:a<65536)(hb:b<65536):pU 30 [.int .u64 a,.int .u64 b] (.tup [.int .u64 0,.int .u64 ((a*b:Nat):Int)]):=by
 refine pO Qp ?_;simp only[b30,av];have bfe:(false=true)=False:=by simp
 have zz:=@bfe;repeat' (first|refine zW ?_|apply a_n|refine zO ?_|refine vZ ?_|refine cZ ?_ (hp:=by exact IY a b ha hb) (hs:=by(first|refine aB ?_ rfl|apply aS);(repeat' (first|exact ai|apply bI|apply bd|exact Dat.int));first|done|fail)|refine cFZ ?_|refine bn rfl ?_|refine r2Z ?_|fail)
 refine cR (af (aA rfl) (af (aA rfl) ai))
theorem Hs(v:Int)(n:Nat)(h1:1<=n)(h2:n<=1000):PureF Tryz.prog 8 [aD [v],.int .i64 n] (aD (List.replicate n v)):=by
 refine qO is8 ?_;simp only[b8,av];have e1:IntKind.wrap .u64 (([v].length:Nat):Int)=((1:Nat):Int):=jU (by simp) (by simp);have e2:IntKind.wrap .u64 (n:Int)=n:=jU (by omega) (by omega);have e3:IntKind.wrap .i64 ((1*n:Nat):Int)=n:=by rw[jK]<;>omega
 have zz:=aI @e1 @e2;repeat' (first|refine zW ?_|apply a_n|refine zO ?_|refine vZ ?_|refine cZ ?_ (hp:=by exact Oo 1 n (by omega) (by omega)) (hs:=by(first|refine aB ?_ rfl|apply aS);(repeat' (first|exact ai|apply bI|apply bd|exact Dat.int));first|done|fail)|refine gTZ ?_|(refine zGZ ?_ ?_<;>(intro _hg;try (exfalso;omega)))|fail)
 refine mN rfl ev0 ev0 (by omega) (by omega) (by omega) (by omega) ?_;have e4:((1*n:Nat):Int).toNat=n:=by omega
 rw[e4,gj,Nat.mul_one];refine wnZ and_self ?_;refine GB (n:=1) (by((try simp only[bU,ZA,reduceEqDiff,↓reduceIte,reduceAdd,reduceLeDiff]);(try with_reducible rfl));exact xO (m:=1) (new:=[.int .i64 v]) (k:=1) va (by simp;omega) (by omega) ac (by simp) rfl (by omega) rfl) ?_;have hrow:∀k:Nat,1<=k->k<=n->(List.replicate k v++List.replicate (n-k) (0:Int)).length=n:=λk h1 h2=>by simp;omega
 have hst:bw ((List.replicate n (0:Int)).map (AV.int .i64)) 0 [.int .i64 v]=(List.replicate 1 v++List.replicate (n-1) (0:Int)).map (AV.int .i64):=by
  obtain⟨m,rfl⟩:∃m,n=m+1:=⟨n-1,by omega⟩
  simp[bw,List.replicate_succ]
 rw[hst];refine wnZ and_self ?_;refine br (X:=Nat) (λk=>[(7,.msl 0 n 1 0 n),(8,.int .i64 k)]) (λk H nx=>1<=k/\k<=n/\H 0=some ((List.replicate k v++List.replicate (n-k) (0:Int)).map (AV.int .i64))) (λk=>n-k) 1 ⟨ba _,h1,ac⟩ ag0 ?_;rintro k H nx ⟨k1,k2,hH⟩;by_cases hk:k<n
 ·have s1:lq 1 (.msl 0 n 1 0 n) (some (.int .i64 k)) none none=some (.msl 0 n 1 k (n-k)):=GL hk (by omega);have s2:lq 1 (.msl 0 n 1 0 n) none (some (.int .i64 k)) none=some (.msl 0 n 1 0 k):=F4 (by omega) (by omega)
  have hcp:sf 1 (.msl 0 n 1 k (n-k)) (.msl 0 n 1 0 k) H=some (min k (n-k),ap H 0 (bw ((List.replicate k v++List.replicate (n-k) (0:Int)).map (AV.int .i64)) k ((List.replicate (min k (n-k)) v).map (AV.int .i64)))):=by
   refine xO (m:=min k (n-k)) (ls:=k) (k:=min k (n-k)) rfl rfl (by omega) hH (by simp;omega) ?_ (by omega) nI;have h:=gr (H:=H) (sz:=1) (b:=0) (n:=n) (off:=0) (len:=min k (n-k)) hH (by simp;omega) (by omega);refine h.trans ?_
   congr 2
   simp only[List.drop_zero,Nat.mul_one,du,List.map_replicate];rw[vA (by simp;omega),List.take_replicate]
   congr 1;omega
  refine wnZ (aI @s1 @s2) ?_;refine GB (by((try simp only[bU,ZA,reduceEqDiff,↓reduceIte,reduceAdd,reduceLeDiff]);(try with_reducible rfl));exact hcp) ?_
  have e5:bw ((List.replicate k v++List.replicate (n-k) (0:Int)).map (AV.int .i64)) k ((List.replicate (min k (n-k)) v).map (AV.int .i64))=(List.replicate (k+min k (n-k)) v++List.replicate (n-(k+min k (n-k))) (0:Int)).map (AV.int .i64):=by
   simp only[bw,du,List.map_replicate,List.length_replicate];rw[vA (by simp),List.take_replicate,Nat.min_self,List.drop_append];simp only[List.drop_replicate,List.length_replicate];rw[show k-(k+min k (n-k))=0 by omega,show n-k-(k+min k (n-k)-k)=n-(k+min k (n-k)) by omega,List.replicate_zero,List.nil_append,List.replicate_append_replicate.symm]
   try simp
  rw[e5];simp only[im,List.map_nil,List.getD_cons_succ,List.getD_cons_zero];refine wnZ and_self ?_;refine⟨k+min k (n-k),by omega,⟨by omega,by omega,ac⟩,ag0⟩
 ·have hkn:k=n:=by omega
  subst hkn;refine wnZ and_self ?_;rw[Nat.sub_self,List.replicate_zero,gH] at hH;exact rM hH rfl (by simp)
theorem F0(a:AdvV)(ha:ShA a)(ho:AdvOk a)(k:Nat)(hk:k<=6)(lim:Int)(hl:0<=lim)(hl2:lim<=1048576):pU 108 [ee a,.int .i64 k,.int .i64 lim] (.int .i64 (kV a k lim)):=by
 refine pO Pk ?_;simp only[Me,av];have h0:=ho.s1;have h8:=ha.len;have hm:=ze a;have hd:=dL a;have hY:=@uW a ha;have hrp:=Hs 1 a.states.length h0 (by omega);have hcl:=t7 (a:=a) (lim:=lim);have hcb:=tF (a:=a) (lim:=lim) hl;have hupc:=λj=>Fe (a:=a) (lim:=lim) (k:=j);have hok:=ho.mv;have e0:fY a lim 0=List.replicate a.states.length (1:Int):=by unfold fY;exact List.map_const' ..
 unfold ee kV at *;rw[PC.2.2.2.1] at hm hd |-;refine wnY @PE ?_;refine oE (ys:=[aD [1],.int .i64 a.states.length]) ev0 ev0 hrp ?_ ?_
 ·exact af (nt ac rfl (by decide) rfl (fun y hy=>by simp at hy; subst hy; rfl) (fun i x c hx hc=>by
    match i with
    |0=>simp at hx hc;subst hx hc;exact .int _ _)) (af (.int _ _) ai)
 rw[<-e0];refine wnY @PE ?_
 refine sB (X:=Nat) (λj=>[(1,.int .i64 k),(3,.ptr 0 2 0),(5,.ptr 1 1 0),(7,.ptr 3 1 0),(16,.int .i64 k),(17,.int .i64 j)]) (λj H n=>j<=k/\H 0=some [.int .i64 a.n,bj a.states]/\H 1=some [.int .i64 lim]/\H 3=some [aD (fY a lim j)]/\3<n) (λj=>k-j) 0
  ⟨bK,_,Fz.none,⟨bA _,by simp (disch:=omega) only[ab,ac],by simp (disch:=omega) only[ab,ac],by rw[ac];rfl,by omega⟩,fk (by simp (disch:=omega) only[agr,ZG,reduceEqDiff,↓reduceIte,SL])⟩ ?_
 rintro j H nx ⟨j1,g0,g1,g3,hnx⟩;by_cases hj:j<k
 rotate_left
 ·obtain rfl:j=k:=by omega
  have ix:cu 1 (aD (fY a lim j)) (.int .i64 0)=some (.iptr [.int .i64 ((fY a lim j).getD 0 0)] 0):=l9 (Int.le_refl _) (by rw[hcl];omega);refine wnY (aI @g3 @ix) ?_;exact aA rfl
 have hcj:=hcb j;have hlj:=hcl j;have hup:=hupc j;have hcn:=hcl (j+1);generalize hC1e:fY a lim (j+1)=C1 at *;generalize fY a lim j=C at *;refine wnY @g3 ?_;rw[hlj];refine mN rfl ev0 ev0 (by omega) (by omega) (by omega) (by omega) ?_;rw[bR,gj,Nat.mul_one];refine wnY (aI @PE @g0) ?_;generalize hX:ap (ap (ap H nx _) _ _) _ _=H1;have e0':H1 0=some [.int .i64 a.n,bj a.states]:=by rw[<-hX];simp (disch:=omega) only[ab];exact g0
 have e1:H1 1=some [.int .i64 lim]:=by rw[<-hX];simp (disch:=omega) only[ab];exact g1
 have e3:H1 3=some [aD C]:=by rw[<-hX];simp (disch:=omega) only[ab];exact g3
 have er:H1 nx=some ((pp lim C a.states.length []).map (AV.int .i64)):=by rw[<-hX];simp (disch:=omega) only[ab,ac];rfl
 have et:H1 (nx+1)=some [.msl nx a.states.length 1 0 a.states.length]:=by rw[<-hX];simp (disch:=omega) only[ac];rfl
 clear hX g0 g1 g3;refine jh (nx+2) (nx+3) (by omega) rfl ev0 (λc0 cj hy=>?_);refine Abs.Fn.mono (hY (y:=nx+2) (nx:=nx+3) (λD H n=>H 0=some [.int .i64 a.n,bj a.states]/\H 1=some [.int .i64 lim]/\H 3=some [aD C]/\H nx=some ((pp lim C a.states.length D).map (AV.int .i64))/\H (nx+1)=some [.msl nx a.states.length 1 0 a.states.length]/\H (nx+2)=some [c0]/\nx+3<=n) ?_ ?_ ?_) ?_
 ·rintro D H H' n n' ⟨q0,q1,q3,qr,qt,qy,q4⟩ hn hh;exact⟨(hh 0 (by omega)).trans q0,(hh 1 (by omega)).trans q1,(hh 3 (by omega)).trans q3,(hh nx (by omega)).trans qr,(hh (nx+1) (by omega)).trans qt,(hh (nx+2) (by omega)).trans qy,by omega⟩
 ·rintro D s m H n ⟨q0,q1,q3,qr,qt,qy,q4⟩ hs hm'-;have ok:=hok _ (mh hs) m hm';have t0:=ok.to0;have t1:=ok.to1;have hul:=GX lim C a.states.length D;have hub:=CW hl hcj a.states.length D (List.replicate a.states.length 0) λx hx=>by rw[(List.mem_replicate.1 hx).2];omega
  have hus:=Ez lim C a.states.length D s m;change ∀x∈pp lim C a.states.length D,_ at hub;generalize pp lim C a.states.length (D++[(s,m)])=U' at *;generalize pp lim C a.states.length D=U at *;have hbu:=hub _ (je (l:=U) (i:=s) (by omega));have hbc:=hcj _ (je (l:=C) (i:=m.to.toNat) (by omega));have ixc:cu 1 (aD C) (.int .i64 m.to)=some (.iptr [.int .i64 (C.getD m.to.toNat 0)] 0):=l9 t0 (by omega)
  have hgu:(U.map (AV.int .i64))[s]?=some (.int .i64 (U.getD s 0)):=by
   rw[jJ];simp[List.getD,show s<U.length by omega]
  have hlp:∀x:Int,bw (U.map (AV.int .i64)) s [.int .i64 x]=(U.set s x).map (AV.int .i64):=λx=>by
   rw[ga (by rw[bC];omega),jv]
  have hml:(U.map (AV.int .i64)).length=a.states.length:=by rw[bC,hul]
  generalize C.getD m.to.toNat 0=x at *;generalize U.getD s 0=u at *;have hsN:s<a.states.length:=hs;generalize hL:U.map (AV.int .i64)=L at *;refine hy _ _ _ _ qy rfl ?_;clear hy;rw[PC.2.2.1];refine wnY and_self ?_;refine⟨by simp (disch:=omega) only[ab];exact qy,?_⟩;generalize hX:cC (ap _ _ _) (nx+2)=H3;have w:∀y,y<n->y≠nx+2->H3 y=H y:=λy h1 h2=>by rw[<-hX];simp (disch:=omega) only[cA,ab]
  have w0:=(w 0 (by omega) (by omega)).trans q0;have w1:=(w 1 (by omega) (by omega)).trans q1;have w3:=(w 3 (by omega) (by omega)).trans q3;have wr:=(w nx (by omega) (by omega)).trans qr;have wt:=(w (nx+1) (by omega) (by omega)).trans qt;have wm:H3 n=some [.int .i64 m.r.n,.int .i64 m.r.h0,.int .i64 m.r.h1,.int .i64 m.r.h2,.int .i64 m.r.h3,.int .i64 m.r.h4,.int .i64 m.r.f,.int .i64 m.to]:=by rw[<-hX];simp (disch:=omega) only[cA,ac];rfl
  clear w hX q0 q1 q3 qr qt qy;refine wnY (zI9 @w0 @w1 @w3 @wr @wt @wm @hml @hgu @ixc) ?_;refine⟨rfl,?_,?_,?_,?_,?_,ac,by omega⟩
  ·simp (disch:=omega) only[ab];exact w0
  ·simp (disch:=omega) only[ab];exact w1
  ·simp (disch:=omega) only[ab];exact w3
  ·simp (disch:=omega) only[ab,ac];rw[hlp,hus]
  ·simp (disch:=omega) only[ab];exact wt
 ·exact⟨by rw[ab (by omega)];exact e0',by rw[ab (by omega)];exact e1,by rw[ab (by omega)];exact e3,by rw[ab (by omega)];exact er,by rw[ab (by omega)];exact et,ac,by omega⟩
 rintro r H' n' ⟨q0,q1,q3,qr,qt,qy,q4⟩;refine .inl ⟨qy,?_⟩;have hdl:∀y,y≠nx+2->cC H' (nx+2) y=H' y:=λy hy=>cA hy;have f0:=(hdl 0 (by omega)).trans q0;have f1:=(hdl 1 (by omega)).trans q1;have f3:=(hdl 3 (by omega)).trans q3;have fr:=(hdl nx (by omega)).trans qr;have ft:=(hdl (nx+1) (by omega)).trans qt;generalize cC H' (nx+2)=H2 at *;rw[hup] at fr;refine wnY (aI @f3 @ft) ?_;refine⟨j+1,by omega,_,_,I0 (b:=nx) (c:=3) (cs':=[aD C1]) (by rw[ab (by omega)];exact fr) ac (by omega) ⟨rfl,λi x x' h1 h2=>?_⟩,⟨by omega,?_,?_,by rw[ac,hC1e],by omega⟩,fk ag0⟩
 ·match i with
  |0=>
   change some (AV.msl nx a.states.length 1 0 a.states.length)=some x at h1;change some (aD C1)=some x' at h2;cases h1;cases h2;exact .inr (Row.snapI (Row.box1 fF (by rw[bC,hcn])))
  |i+1=>simp at h2
 ·simp (disch:=omega) only[ab,cA];exact f0
 ·simp (disch:=omega) only[ab,cA];exact f1
theorem xu(a:AdvV)(ha:ShA a)(ho:AdvOk a)(k:Nat)(hk:k<=6)(lim:Int)(hl:0<=lim)(hl2:lim<=1048576)(hn:kV a k lim<=lim):pU 75 [ee a,.int .i64 k,.int .i64 lim] (.tup [.int .i64 (kV a k lim),.int .i64 0]):=by
 refine pO PB ?_;simp only[b75,av];have h1:=CK a ha ho;have h2:=F0 a ha ho k hk lim hl hl2;have hd:=dL a;unfold ee at h1 h2 hd |-;rw[PC.2.2.2.1] at h1 h2 hd |-;generalize kV a k lim=M at *;refine wnZ @PE ?_;exact cR (af (.int _ _) (af (.int _ _) ai))
theorem Ik(a:AdvV)(ha:ShA a)(ho:AdvOk a)(k:Nat)(hk:k<=6)(hn:kV a k 1048576<=1048576):pU 74 [ee a,.int .i64 k] (.tup [.int .i64 (kV a k 1048576),.int .i64 0]):=by
 refine pO Pz ?_;simp only[b74,av];have h2:=xu a ha ho k hk 1048576 (by omega) (by omega) hn;have hd:=dL a;unfold ee at h2 hd |-;rw[PC.2.2.2.1] at h2 hd |-;generalize kV a k 1048576=M at *;refine wnZ @PE ?_;exact cR (af (.int _ _) (af (.int _ _) ai))
end
end Go.Proofs.YtmpcledaoigkaaaGreat
namespace Go.Proofs.YtmpcledaoigkaaaGreat
open Go Go.Abs
open Nat (reduceEqDiff reduceAdd reduceLeDiff)
theorem El{L:List Spx}{h:Nat}{x:Spx}(hh:h<L.length):(L.set h x).take (h+1)=L.take h++[x]:=by
 rw[bO (by simpa using hh),List.take_set_of_le (ba h)];simp[List.getD,hh]
theorem tY{B n len k:Nat}(h:k<len)(hn:n≠0):lq 1 (.msl B n 1 0 len) (some (.int .i64 k)) none none=some (.msl B n 1 k (len-k)):=by
 simp only[lq,bT,Int.natCast_nonneg,if_true,bR];rw[if_pos ⟨trivial,by omega,ba _,hn⟩,if_pos (.inr h),cp,Nat.mul_one]
theorem Ca{B n len k:Nat}(h:k<=len)(hn:n≠0):lq 1 (.msl B n 1 0 len) none (some (.int .i64 k)) none=some (.msl B n 1 0 k):=by
 simp only[lq,bT,Int.natCast_nonneg,if_true,bR];rw[if_pos ⟨trivial,by omega,h,hn⟩,if_pos (.inl trivial),oV,Nat.sub_zero]
theorem wL{H:Hp}{sz:Nat}{s:AV}{elems:List AV}(h:Row H sz s (elems.flatMap AV.cells))(hc:∀y∈elems,y.cells.length=sz)(hz:0<sz)(hd:∀y∈elems,∀c∈y.cells,SnapF H c c):SnapF H s (.sl sz elems):=by
 obtain⟨f1,f2⟩:=fT elems hc;generalize he:elems.flatMap AV.cells=cs at h;cases h with
 |nil=>
  have:elems.length*sz=0:=by rw[<-f1,he];rfl
  have:elems=[]:=eG.1 (by
   rcases Nat.mul_eq_zero.1 this with h|h
   ·exact h
   ·omega)
  subst this;exact .eslsl sz
 |box b len cs hb hl=>
  have hlen:elems.length=len:=Nat.eq_of_mul_eq_mul_right hz (by rw[<-f1,he,hl]);refine .msl b (len*sz) sz 0 len cs elems hb hl (by omega) hlen hc (λi j y a c hy hc' ha=>?_);have hj:j<sz:=by rw[<-hc y (iX hy)];exact(bZ.1 hc').1
  have key:∀(l:List AV)(i j:Nat)(y c:AV),(∀z∈l,z.cells.length=sz)->l[i]?=some y->y.cells[j]?=some c->j<sz->(l.flatMap AV.cells)[i*sz+j]?=some c:=by
   intro l
   induction l with
   |nil=>intro i j y c _ h;simp at h
   |cons x l ih=>
    intro i j y c hl hy hc hj;rw[l8];cases i with
    |zero=>
     simp at hy;subst hy;rw[oV,cp,gZ (by rw[hl x (by simp)];exact hj)];exact hc
    |succ i=>
     rw[iG (by rw[hl x (by simp),eJ];omega),hl x (by simp)];have:=ih i j y c (λz hz=>hl z (by simp[hz])) (by simpa using hy) hc hj;rw[<-this];congr 1;rw[eJ];omega
  have:=key elems i j y c hc hy hc' hj;rw[he,<-cp (i*sz)] at this;rw[this] at ha;cases ha;exact hd y (iX hy) a (iX hc')
theorem CE{H:Hp}{s:AV}{l:Spx}(h:Row H 2 s (cX l)):SnapF H s (aC l):=by
 refine wL (elems:=l.map bQ) (by rw[Cv];exact h) (λy hy=>?_) (by omega) (λy hy c hx=>?_)
 ·obtain⟨n,_,rfl⟩:=dF.1 hy;rfl
 ·obtain⟨n,_,rfl⟩:=dF.1 hy;simp only[bQ,AV.cells,fR,List.not_mem_nil,or_false] at hx;rcases hx with rfl|rfl<;>exact .int _ _
section
attribute [local irreducible] aG ah bg aQ aH aK ay aN aR bq Go.Abs.Fn aP Go.Abs.Pure ak aF Yl
theorem Ae(l:List Spx)(hl:Shn l)(hls:∀s∈l,Shn s)(h0:l≠[])(H:Hp)(B nx:Nat)(hH:H B=some (l.map aC))(hB:B<nx):
    Abs.Fn Tryz.prog 122 [.msl B l.length 1 0 l.length,.func 123 []] H nx λr H' nx'=>r=.msl B l.length 1 0 (eo l l.length)/\(∃C,H'=ap H B C/\C.length=l.length/\C.take (eo l l.length)=(iC l l.length).map aC)/\nx'=nx:=by
 refine fO JK ?_;simp only[Ks,av];have hl':l.length<=17592186044416:=hl;have hpos:=wA.2 h0;have hid:H=ap H B (l.map aC):=mB hH
 repeat' (first|refine zW ?_|apply a_n|apply a_r|refine zO ?_|refine vZ ?_|(refine zGZ ?_ ?_<;>(intro _hg;try (exfalso;omega)))|refine bn rfl ?_|refine r1Z ?_|fail)
 ·have e1:l.length=1:=by omega
  have e2:iC l l.length=l:=by
   match l,e1 with
   |[a],_=>rfl
  refine⟨?_,⟨_,hid,by simp,?_⟩,rfl⟩
  ·rw[show eo l l.length=l.length by rw[e1];rfl]
  ·rw[e2,show eo l l.length=l.length by rw[e1];rfl,iW (by simp)]
 refine br (X:=Nat) (λk=>[(0,.msl B l.length 1 0 l.length),(1,.func 123 []),(5,.int .i64 k)]) (λk H' nx'=>H'=H/\nx'=nx/\1<=k/\k<=l.length/\eo l k=k/\iC l k=l.take k) (λk=>l.length-k) 1 ⟨rfl,rfl,ba _,hpos,rfl,by match l,h0 with|a::r,_=>rfl⟩ ag0 ?_;rintro k H' nx' ⟨rfl,rfl,k1,k2,k3,k4⟩;by_cases hk:k<l.length
 ·have tk:(k:Int)-1=(k-1:Nat):=by omega
  have heq:=AB (l.getD k default) (l.getD (k-1) default) (hls _ (cr hk)) (hls _ (cr (by omega)));by_cases he:l.getD k default=l.getD (k-1) default
  ·have hs:=tY (B:=B) (n:=l.length) hk (Nat.ne_of_gt hpos);rw[bH he] at heq;refine wkZ (zI6 @tk @hH @bR @hs @ce @bN) ?_
   refine br (X:=Nat×List Spx) (λx=>[(0,.msl B l.length 1 0 l.length),(1,.func 123 []),(5,.int .i64 (eo l (k+x.1):Nat)),(6,.msl B l.length 1 k (l.length-k)),(7,.int .i64 x.1)]) (λx H2 nx2=>x.2.length=l.length/\1<=x.1/\k+x.1<=l.length/\eo l (k+x.1)+1<=k+x.1/\H2=ap H' B (x.2.map aC)/\nx2=nx'/\(∀p,k+x.1<=p+1->x.2.getD p default=l.getD p default)/\x.2.take (eo l (k+x.1))=iC l (k+x.1)) (λx=>l.length-x.1) (1,l)
    ⟨rfl,ba _,hk,by dsimp only;rw[md (by omega) he];omega,hid,rfl,λ_ _=>rfl,by dsimp only;rw[md (by omega) he,vj (by omega) he,k3,k4]⟩ (by simp (disch:=omega) only[agr,ZG,reduceEqDiff,↓reduceIte,md (show k≠0 by omega) he,k3]) ?_
   rintro⟨j,L⟩ H2 nx2 ⟨a1,a2,a3,a4,rfl,rfl,a5,a6⟩;dsimp only at a1 a2 a3 a4 a5 a6 |-;by_cases hj:k+j<l.length
   ·have tj:(j:Int)-1=(j-1:Nat):=by omega
    have r1:=a5 (k+j) (by omega);have r2:=a5 (k+(j-1)) (by omega);have heq2:=AB (l.getD (k+j) default) (l.getD (k+(j-1)) default) (hls _ (cr hj)) (hls _ (cr (by omega)));by_cases hd:l.getD (k+j) default=l.getD (k+(j-1)) default
    ·have hq:eo l (k+(j+1))=eo l (k+j):=md (l:=l) (k:=k+j) (by omega) (by rw[hd,show k+j-1=k+(j-1) by omega]);rw[bH hd] at heq2;refine wkZ (zI6 @tj @bR @r1 @r2 @ce @bN) ?_;refine⟨(j+1,L),by dsimp only;omega,⟨a1,by dsimp only;omega,by dsimp only;omega,?_,rfl,rfl,λp hp=>a5 p (by dsimp only at hp;omega),by dsimp only;rw[hq,show k+(j+1)=k+j+1 from rfl,vj (by omega) (by rw[hd,show k+j-1=k+(j-1) by omega])];exact a6⟩,(have zz:=@hq;agZ)⟩;dsimp only;rw[hq];omega
    ·have hq:eo l (k+(j+1))=eo l (k+j)+1:=uI (l:=l) (k:=k+j) (by rw[show k+j-1=k+(j-1) by omega];exact hd);have hlm:=lm (f:=aC) (l:=L) (k:=eo l (k+j)) (x:=l.getD (k+j) default) (by omega);rw[bL hd] at heq2;refine wkZ (zI6 @tj @bR @r1 @r2 @ce @bN) ?_;refine⟨(j+1,L.set (eo l (k+j)) (l.getD (k+j) default)),by dsimp only;omega,⟨by simp[a1],by dsimp only;omega,by dsimp only;omega,?_,?_,rfl,λp hp=>?_,by dsimp only;rw[hq,El (by omega),a6,show k+(j+1)=k+j+1 from rfl,wc (by rw[show k+j-1=k+(j-1) by omega];exact hd)]⟩,(have zz:=@hq;agZ)⟩
     ·dsimp only;rw[hq];omega
     ·dsimp only;rw[bh,hlm]
     ·dsimp only at hp |-;rw[li,List.getElem?_set_ne (by omega),<-li];exact a5 p (by omega)
   ·have hn:k+j=l.length:=by omega
    have hl1:=tY (B:=B) (n:=l.length) (show eo l (k+j)<l.length by omega) (Nat.ne_of_gt hpos);have hl2:=Ca (B:=B) (n:=l.length) (show eo l (k+j)<=l.length by omega) (Nat.ne_of_gt hpos);refine wnZ (aI @hl1 @hl2) ?_;refine NA (H':=ap (ap H' B (L.map aC)) B (bw (L.map aC) (eo l (k+j)) (bv .esl (l.length-eo l (k+j))))) ?_ ?_
    ·((try simp only[bU,ZA,reduceEqDiff,↓reduceIte,reduceAdd,reduceLeDiff]);(try with_reducible rfl))
     simp only[wa];rw[if_neg (by omega),ac];dsimp only;rw[if_pos ⟨by simp[a1],trivial,rfl,rfl,by omega⟩];rfl
    ·refine wnZ @hl2 ?_;refine⟨by rw[hn],⟨_,bh _ _ _ _,?_,?_⟩,rfl⟩
     ·have hz:(bv AV.esl (l.length-eo l (k+j))).length=l.length-eo l (k+j):=by simp[bv,show AV.esl.cells.length=1 from rfl]
      simp[bw,hz];omega
     ·rw[<-hn,<-a6,List.map_take];simp only[bw];rw[gK,vA (by simp;omega),iW (by simp;omega)]
  ·rw[bL he] at heq;refine wkZ (zI5 @tk @hH @bR @ce @bN) ?_;exact⟨k+1,by omega,⟨rfl,rfl,by omega,by omega,by rw[uI he,k3],by rw[wc he,k4,bO hk]⟩,ag0⟩
 ·refine wnZ and_self ?_;have e:l.length=k:=by omega
  refine⟨by rw[e,k3],⟨_,hid,by simp,?_⟩,rfl⟩;rw[e,k3,k4,<-List.map_take]
theorem EI(l:Spx)(hl:l.length<=1000000):PureF Tryz.prog 124 [aC l] (aC l):=by
 refine qO Jz ?_;simp only[KN,av];refine wnY and_self ?_;have hn:fS (aC l)=some l.length:=by unfold aC gX;simp[fS]
 refine mY (k:=l.length) (by((try simp only[bU,ZA,reduceEqDiff,↓reduceIte,reduceAdd,reduceLeDiff]);(try with_reducible rfl));exact hn) (λh=>?_) (λh=>?_) (λh=>?_)
 ·refine wnY and_self ?_;refine iK rfl ev0 ev0 FU (tB _) (by omega) (by omega) ?_;refine wnY and_self ?_;exact CE (Row.box _ l.length (cX l) ac (mo l))
 ·refine wnY and_self ?_;obtain rfl:=eG.1 h;exact .eslsl 2
 ·refine wnY and_self ?_;refine iK rfl ev0 ev0 FU (tB _) (by omega) (by omega) ?_;refine wnY and_self ?_;exact CE (Row.box _ l.length (cX l) ac (mo l))
theorem D0(s:AV)(l:List Spx)(hl:l.length<=1000000)(H:Hp)(nx:Nat)(hn:fS s=some l.length)(hs:∀H',(∀x,x<nx->H' x=H x)->e7 1 H' s=some (l.length,l.map aC)):Abs.Fn Tryz.prog 121 [s] H nx λr H' nx'=>nx'<=nx+1/\nx<=nx'/\(∀x,x<nx->H' x=H x)/\if l=[] then dw r=some (.int .i64 0)/\∀H'',Snap H'' r (be []) else r=.msl nx l.length 1 0 l.length/\H'=ap H nx (l.map aC)/\nx'=nx+1:=by
 refine fO O7 ?_;simp only[Ns,av]
 have hones:AV.ones (l.map aC)=true:=by
  unfold AV.ones;rw[eA];intro x hx;obtain⟨y,_,rfl⟩:=dF.1 hx;rfl
 refine wnY and_self ?_;refine mY (k:=l.length) (by((try simp only[bU,ZA,reduceEqDiff,↓reduceIte,reduceAdd,reduceLeDiff]);(try with_reducible rfl));exact hn) (λh=>?_) (λh=>?_) (λh=>?_)
 ·refine wnY and_self ?_;refine iK rfl ev0 ev0 (hs _ λx _=>rfl) hones (by omega) (by omega) ?_;refine wnY and_self ?_;refine⟨ba _,by omega,λx hx=>ab (by omega),?_⟩;rw[if_neg (by rintro rfl;exact absurd h (by simp))];exact⟨rfl,rfl,rfl⟩
 ·refine wnY and_self ?_;refine⟨by omega,ba _,λx hx=>rfl,?_⟩;rw[if_pos (eG.1 h)];exact⟨rfl,λ_=>.eslsl 1⟩
 ·refine wnY and_self ?_;refine iK rfl ev0 ev0 (hs _ λx _=>rfl) hones (by omega) (by omega) ?_;refine wnY and_self ?_;refine⟨ba _,by omega,λx hx=>ab (by omega),?_⟩;obtain rfl:=eG.1 h;rw[if_pos rfl];exact⟨rfl,λ_=>.mslnil _ _ _ _ _⟩
section
variable{g:Nat}{caps:List AV}{s:AV}
theorem Lr(hs:dw s=some (.int .i64 0)){H:Hp}{nx:Nat}:Abs.Fn Tryz.prog 136 [s,.int .i64 0,.int .i64 0,.func g caps] H nx λr H' nx'=>nx'=nx/\H'=H:=by
 refine fO JM ?_;simp only[K6,av];refine wnZ and_self ?_;refine br (X:=Unit) (λx=>[(0,s),(1,.int .i64 0),(2,.int .i64 0),(3,.func g caps),(8,.int .i64 1)]) (λx H' nx'=>H'=H/\nx'=nx) (λx=>0) () ⟨rfl,rfl⟩ (by simp (disch:=omega) only[agr,ZG,reduceEqDiff,↓reduceIte,Int.zero_add,true_and]) ?_;rintro _ _ _ ⟨rfl,rfl⟩;refine wnZ and_self ?_;exact⟨rfl,rfl⟩
theorem KS(hs:dw s=some (.int .i64 0)){H:Hp}{nx:Nat}:Abs.Fn Tryz.prog 110 [s,.int .i64 0,.int .i64 0,.int .i64 0,.func g caps] H nx λr H' nx'=>nx'=nx/\H'=H:=by
 refine fO JF ?_;simp only[Kc,av];refine wnZ and_self ?_;refine br (X:=Unit) (λx=>[(0,s),(1,.int .i64 0),(2,.int .i64 0),(3,.int .i64 0),(4,.func g caps)]) (λx H' nx'=>H'=H/\nx'=nx) (λx=>0) () ⟨rfl,rfl⟩ ag0 ?_;rintro _ _ _ ⟨rfl,rfl⟩;refine wnZ and_self ?_;refine aX ev0 ev0 (Lr hs) ?_;rintro _ _ _ ⟨rfl,rfl⟩;refine wnZ and_self ?_;exact⟨rfl,rfl⟩
theorem vv(hs:dw s=some (.int .i64 0)){H:Hp}{nx:Nat}:Abs.Fn Tryz.prog 87 [s,.func g caps] H nx λr H' nx'=>nx'=nx/\H'=H:=by
 refine fO Ny ?_;simp only[b87,av];have w8:IntKind.wrap .u64 0=0:=by decide
 refine wnZ (aI @w8 @hs) ?_;refine aX ev0 (have zz:=@w8;evZ) LS ?_;rintro _ _ _ ⟨rfl,rfl,rfl⟩;refine wnZ and_self ?_;refine aX ev0 ev0 (KS hs) ?_;rintro _ _ _ ⟨rfl,rfl⟩;refine wnZ and_self ?_;exact⟨rfl,rfl⟩
theorem B4(hs:dw s=some (.int .i64 0)){H:Hp}{nx:Nat}:Abs.Fn Tryz.prog 122 [s,.func g caps] H nx λr H' nx'=>r=s/\nx'=nx/\H'=H:=by
 refine fO JK ?_;simp only[Ks,av];refine wnZ @hs ?_;exact⟨rfl,rfl,rfl⟩
end
end
end Go.Proofs.YtmpcledaoigkaaaGreat
namespace Go.Proofs.YtmpcledaoigkaaaGreat
open Go Go.Abs Tk
open Nat (reduceEqDiff reduceAdd reduceLeDiff)
theorem lu{b:Nat}{c:List AV}{H:Hp}(h:H b=some c):Sub (only b c) H:=λx cs hx=>by
 unfold only at hx;split at hx
 ·rename_i e;rw[e,h];exact hx
 ·cases hx
theorem xU(b1 b2:Nat)(c1 c2:List AV)(hne:b2≠b1):∃S:Hp,S b1=some c1/\S b2=some c2/\∀H:Hp,H b1=some c1->H b2=some c2->Sub S H:=by
 refine⟨λx=>if x=b1 then some c1 else if x=b2 then some c2 else none,?_,?_,λH h1 h2 x cs hx=>?_⟩
 ·dsimp only;rw[if_pos rfl]
 ·dsimp only;rw[if_neg hne,if_pos rfl]
 ·dsimp only at hx;split at hx
  ·rename_i e;rw[e,h1];exact hx
  ·split at hx
   ·rename_i e;rw[e,h2];exact hx
   ·cases hx
theorem tN{α:Type}{f:α->AV}{sz:Nat}(l:List α):fS (gX sz f l)=some l.length:=B8
theorem xm{cs new:List AV}{k:Nat}{pre:List AV}(h1:cs.take k=pre)(h2:k+new.length<=cs.length):(bw cs k new).length=cs.length/\(bw cs k new).take (k+new.length)=pre++new:=by
 subst h1;unfold bw;have hl:(cs.take k).length=k:=by rw[jg];omega
 refine⟨by rw[cm,cm,rH,hl];omega,?_⟩;rw[vA (by rw[cm,hl];omega),iW (by rw[cm,hl];omega)]
theorem BK(a:AdvV)(d s:Nat)(w:List RndV):(bt a (d+1) s).map (w++ ·)=(a.st s).flatMap λm=>(bt a d m.to.toNat).map ((w++[m.r])++ ·):=by
 rw[bt,List.map_flatMap]
 congr 1
 funext m
 rw[List.map_map];refine wB λv _=>?_;simp
theorem Jv{H:Hp}(l:List RndV):e7 7 H (bV l)=some (l.length,cL fG l):=uK
theorem HK{H:Hp}{s:AV}{l:List RndV}(h:Row H 7 s (cL fG l)):SnapF H s (bV l):=by
 refine wL (elems:=l.map fG) (by rw[Cq];exact h) (λy hy=>?_) (by omega) (λy hy c hx=>?_)
 ·obtain⟨n,_,rfl⟩:=dF.1 hy;rfl
 ·obtain⟨n,_,rfl⟩:=dF.1 hy;rw[PE.2.2.2.2.2.2.2.2.2.2.2.2.2.2.2.2.2.2.2.2.2.1,PC.1] at hx;simp only[fR,List.not_mem_nil,or_false] at hx;rcases hx with rfl|rfl|rfl|rfl|rfl|rfl|rfl<;>exact .int _ _
theorem pX{α:Type}[Inhabited α]{f:α->AV}{l:List α}{i:Nat}(h:i<l.length):cL f l=cL f (l.take i)++((f (l.getD i default)).cells++cL f (l.drop (i+1))):=by
 have e:l=l.take i++(l.getD i default::l.drop (i+1)):=by
  rw[<-dB h,wk]
 conv=>lhs;rw[e]
 rw[jp];rfl
theorem Lm{α:Type}[Inhabited α]{f:α->AV}{sz:Nat}(hc:∀x,(f x).cells.length=sz){l:List α}{i:Nat}(h:i<l.length):((cL f l).drop (i*sz)).take sz=(f (l.getD i default)).cells:=by
 have hl:(cL f (l.take i)).length=i*sz:=by rw[pA hc,jg,Nat.min_eq_left (by omega)]
 rw[pX h,List.drop_append,hl,Nat.sub_self,List.drop_zero,nZ (by omega),List.nil_append,vA (by rw[hc];exact ba _),iW (by rw[hc];exact ba _)]
theorem LB{α:Type}[Inhabited α]{f:α->AV}{sz:Nat}(hc:∀x,(f x).cells.length=sz){l:List α}{i:Nat}(h:i<l.length):bw (cL f l) (i*sz) (f (l.getD i default)).cells=cL f l:=by
 have hl:(cL f (l.take i)).length=i*sz:=by rw[pA hc,jg,Nat.min_eq_left (by omega)]
 unfold bw
 have h1:(cL f l).take (i*sz)=cL f (l.take i):=by
  rw[pX h,vA (by omega),iW (by omega)]
 have h2:(cL f l).drop (i*sz+(f (l.getD i default)).cells.length)=cL f (l.drop (i+1)):=by
  rw[pX h,<-gK,List.drop_append,nZ (by rw[cm,hl];omega),List.nil_append,cm,hl,Nat.sub_self,List.drop_zero]
 rw[h1,h2,gK,<-pX h]
theorem pJ(c:CaseV):(kD c).cells.length=3:=rfl
theorem HL(c:CaseV):∀x∈(kD c).cells,Dat x:=DatL.cons (fc _) (DatL.cons (d8 _) (DatL.cons (d8 _) DatL.nil))
theorem Lo(l:List CaseV):(cL kD l).length=l.length*3:=pA pJ l
theorem HD(l:List CaseV):AV.ones (cL kD l)=true:=tA (f:=kD) (λ_=>rfl) l
theorem Mh{H:Hp}(l:List CaseV):e7 3 H (cI l)=some (l.length,cL kD l):=uK
theorem HN{H:Hp}(l:List (List MvV)):e7 1 H (bj l)=some (l.length,l.map dt):=wO (λ_=>rfl)
theorem FY{H:Hp}(l:List MvV):e7 8 H (dt l)=some (l.length,cL iU l):=uK
theorem Ly(l:List MvV):(cL iU l).length=l.length*8:=pA (f:=iU) (λ_=>rfl) l
theorem CR(l:List MvV):AV.ones (cL iU l)=true:=tA (f:=iU) (λ_=>rfl) l
theorem Lq{H:Hp}{s:AV}{l:List MvV}(h:Row H 8 s (cL iU l)):Snap H s (dt l):=qW (f:=iU) (by omega) (λ_=>rfl) (λx=>yI x) h
theorem KY{H:Hp}{s:AV}{l:List CaseV}(h:Row H 3 s (cL kD l)):Snap H s (cI l):=qW (f:=kD) (by omega) pJ HL h
theorem H9{H:Hp}{s:AV}{l:List (List MvV)}(h:Row H 1 s (l.map dt)):Snap H s (bj l):=h.snapL' (λ_=>rfl) (λx _=>j9 x)
def wo(n:Nat):List AV:=(List.range n).map λ(k:Nat)=>.int .i64 (k:Int)
structure Bd(H:Hp)(bb mb:Nat)(n:Int)(vs:List VwV)(VS:AV):Prop where
 b:H bb=some [.int .i64 n,VS,.mp mb]
 r:Row H 8 VS (cL dD vs)
 m:H mb=some [.omap (vs.map dD) (wo vs.length)]
theorem Km(v w:VwV):nL (.st [.int,.int,.int,.int,.int,.int,.int,.int]) (dD v) (dD w)=some (decide (v=w)):=by
 have h:=rK [v.proc,v.round,v.input,v.h0,v.h1,v.h2,v.h3,v.h4] [w.proc,w.round,w.input,w.h0,w.h1,w.h2,w.h3,w.h4] rfl;show dg _ v.cs w.cs=_;rw[PC.2.2.2.2.2.1];refine h.trans ?_
 congr 1
 exact decide_eq_decide.2 Fp
theorem Ld(v:VwV)(ks:List VwV):eT (.st [.int,.int,.int,.int,.int,.int,.int,.int]) (dD v) (ks.map dD)=some (if v∈ks then some (ks.idxOf v) else none):=lH _ dD Km v ks
theorem GP{n k:Nat}(h:k<n):(wo n).getD k .undef=.int .i64 (k:Int):=by
 unfold wo;simp[List.getD,h]
theorem Eo(n:Nat):wo (n+1)=wo n++[.int .i64 (n:Int)]:=by
 unfold wo;rw[List.range_succ,du];rfl
theorem AQ{f:Int}{p:Nat}(h0:0<=f)(hp:p<=60):decide (qk (kw f p)=1)=hasFl f p:=by
 obtain⟨m,rfl⟩:∃m:Nat,f=m:=⟨f.toNat,by omega⟩
 rw[qI hp,od];unfold hasFl;rw[show(m:Int)/((2^p:Nat):Int)=((m/2^p:Nat):Int) from rfl];generalize m/2^p=x;exact decide_eq_decide.2 (by omega)
def kY(n:Nat)(W:List (List RndV)):List (Nat×List RndV):=(List.range n).flatMap λc=>W.map λw=>(c,w)
theorem nG(n:Nat)(W:List (List RndV)):kY (n+1) W=kY n W++W.map λw=>(n,w):=by
 unfold kY;rw[List.range_succ,List.flatMap_append,l8,List.flatMap_nil,gH]
theorem Dd(W:List (List RndV))(s:Nat):∀d,∃R,kY s W++R=kY (s+d) W
 |0=>⟨[],gH _⟩
 |d+1=>by
  obtain⟨R,h⟩:=Dd W s d;exact⟨R++W.map λw=>(s+d,w),by rw[<-gK,h,<-nG];rfl⟩
def hm(G:Nat->Int)(q:Nat):List Int:=(List.range 5).map λi=>if i<q then G i else-1
theorem Hl(G:Nat->Int)(q:Nat):(hm G q).length=5:=by simp[hm]
theorem LC{G:Nat->Int}{k:Nat}(h:k<5):(hm G k).set k (G k)=hm G (k+1):=by
 rcases(by omega:k=0\/k=1\/k=2\/k=3\/k=4) with rfl|rfl|rfl|rfl|rfl<;>rfl
theorem HE{G:Nat->Int}{k:Nat}(h:G k=-1):hm G (k+1)=hm G k:=by
 unfold hm;refine wB λi _=>?_;by_cases e:i<k
 ·rw[if_pos e,if_pos (by omega)]
 ·rw[if_neg e];split
  ·rw[show i=k by omega,h]
  ·rfl
theorem KR{G:Nat->Int}{n:Nat}(h:∀i,n<=i->G i=-1):hm G n=hk G 5:=by
 unfold hm hk;refine wB λi hi=>?_;rw[if_pos (iR.1 hi)];split
 ·rfl
 ·rw[h i (by omega)]
theorem AW(f:Nat->VwV)(vs:List VwV)(q N:Nat)(h:q<N)(x:Int):bw ((eW f q vs++List.replicate (N-q) (0:Int)).map (AV.int .i64)) q [.int .i64 x]=(eW f q vs++[x]++List.replicate (N-(q+1)) (0:Int)).map (AV.int .i64):=by
 have hl:=iM f q vs;rw[ga (by rw[bC,cm,hl,List.length_replicate];omega),jv,List.set_append_right _ _ (by omega),hl,Nat.sub_self,show N-q=(N-(q+1))+1 by omega,List.replicate_succ,gK];rfl
theorem GH(r:RndV){q:Nat}(h:q<5):([.int .i64 r.n,.int .i64 r.h0,.int .i64 r.h1,.int .i64 r.h2,.int .i64 r.h3,.int .i64 r.h4,.int .i64 r.f]:List AV)[1+q]?=some (.int .i64 (r.hs.getD q 0)):=by
 rcases(by omega:q=0\/q=1\/q=2\/q=3\/q=4) with rfl|rfl|rfl|rfl|rfl<;>rfl
def Fr(H0 H:Hp)(nx bb mb:Nat)(VS0:AV):Prop:=∀y,y<nx->y≠bb->y≠mb->bk VS0≠some y->H y=H0 y
def VB(nx n' bb mb:Nat)(VS0 VS:AV):Prop:=∀b,bk VS=some b->b<n'/\b≠bb/\b≠mb/\(bk VS0=some b\/nx<=b)
def stD(p:PrbV)(D:List (Nat×List RndV)):BldS:=D.foldl (λs x=>sT p x.1 s x.2) ⟨[],[]⟩
theorem Bi(p:PrbV)(D:List (Nat×List RndV))(c:Nat)(w:List RndV):stD p (D++[(c,w)])=sT p c (stD p D) w:=by unfold stD;rw[List.foldl_append];rfl
theorem yR(p:PrbV):∀n,stD p (kY n (eZ p))=bldS p n
 |0=>rfl
 |n+1=>by
  rw[nG,rA,<-yR p n];unfold stD CM eZ;rw[List.foldl_append,List.foldl_map]
theorem zg{p:PrbV}(hn:p.task.n<=5)(hr:p.rounds<=6):∀D:List (Nat×List RndV),(stD p D).execs.length=D.length/\(stD p D).views.length<=35*D.length:=λD=>by
 suffices h:∀(D:List (Nat×List RndV))(s:BldS),(D.foldl (λs x=>sT p x.1 s x.2) s).execs.length=s.execs.length+D.length/\(D.foldl (λs x=>sT p x.1 s x.2) s).views.length<=s.views.length+35*D.length by
  have:=h D ⟨[],[]⟩;unfold stD;simpa using this
 intro D
 induction D with
 |nil=>intro s;exact⟨rfl,ba _⟩
 |cons x D ih=>
  intro s;rw[List.foldl_cons,d5];have h1:=ih (sT p x.1 s x.2);have h2:=C0 hn hr x.1 s x.2;omega
theorem Db(n:Nat)(W:List (List RndV)):(kY n W).length=n*W.length:=by
 induction n with
 |zero=>rw[oV];rfl
 |succ n ih=>rw[nG,cm,ih,bC,eJ,Nat.one_mul]
theorem Iw{t:TaskV}(h:Cu t=true):∀c∈t.cases,c.out.length<=1000000/\c.calm.length<=1000000:=λc hc=>by
 have hf:=eA.1 (Bool.and_eq_true_iff.1 (show(decide (t.cases.length<=30)&&t.cases.all ws)=true from h)).2 c hc;unfold ws pH at hf;simp only[d9,gI] at hf;omega
theorem PZ(v:VwV):gP .neq [.int,.int,.int,.int,.int,.int,.int,.int] [.int .i64 v.proc,.int .i64 v.round,.int .i64 v.input,.int .i64 v.h0,.int .i64 v.h1,.int .i64 v.h2,.int .i64 v.h3,.int .i64 v.h4] [.int .i64 v.proc,.int .i64 v.round,.int .i64 v.input,.int .i64 v.h0,.int .i64 v.h1,.int .i64 v.h2,.int .i64 v.h3,.int .i64 v.h4]=some (.bool false):=by
 rw[EQ.2.2.2.2.2,bH rfl];rfl
theorem Qf(r:RndV):gP .neq [.int,.int,.int,.int,.int,.int,.int] [.int .i64 r.n,.int .i64 r.h0,.int .i64 r.h1,.int .i64 r.h2,.int .i64 r.h3,.int .i64 r.h4,.int .i64 r.f] [.int .i64 r.n,.int .i64 r.h0,.int .i64 r.h1,.int .i64 r.h2,.int .i64 r.h3,.int .i64 r.h4,.int .i64 r.f]=some (.bool false):=by
 rw[EQ.2.2.2.1,bH rfl];rfl
def ShE(x:ExV):Prop:=x.word.length<=1000000/\x.views.length<=1000000/\∀v∈x.views,v.length<=1000000
theorem Df{α:Type}{P:List α->Prop}(nil:P [])(snoc:∀l x,P l->P (l++[x]))(l:List α):P l:=by
 suffices h:∀n,∀l:List α,l.length=n->P l from h _ l rfl
 intro n
 induction n with
 |zero=>intro l hl;rw[eG.1 hl];exact nil
 |succ n ih=>
  intro l hl;have hne:l≠[]:=λe=>by subst e;cases hl
  rw[<-List.dropLast_concat_getLast hne];exact snoc _ _ (ih _ (by rw[List.length_dropLast];omega))
structure XOk(n R:Nat)(x:ExV):Prop where
 wl:x.word.length=R
 wf:∀r∈x.word,0<=r.f/\r.f<32
 vl:x.views.length=R+1
 vr:∀l∈x.views,l.length=n/\∀z∈l,0<=z/\z<=5000
theorem C7(f:Nat->VwV):∀(q:Nat)(vs:List VwV),∀z∈eW f q vs,0<=z/\z<=(vs.length+q:Nat)
 |0,_,z,h=>(by cases h)
 |q+1,vs,z,h=>by
  rw[eW] at h;rcases gV.1 h with h|h
  ·have:=C7 f q vs z h;omega
  ·rw[ed] at h;have h1:=List.idxOf_le_length (a:=f q) (l:=fP f (q+1) vs);have h2:=lI f (q+1) vs;omega
theorem Ho(n:Nat)(inp:List Int)(w:List RndV)(vs:List VwV):∀k,∀l∈(plV n inp w vs k).2,∀z∈l,0<=z/\z<=(vs.length+k*n:Nat)
 |0,l,h=>(by cases h)
 |k+1,l,h=>by
  rw[plV] at h;have e:(k+1)*n=k*n+n:=by rw[eJ,Nat.one_mul]
  rw[e];rcases gV.1 h with h|h
  ·intro z hz;have:=Ho n inp w vs k l h z hz;omega
  ·rw[ed] at h;subst h;intro z hz;have h1:=C7 _ n (plV n inp w vs k).1 z hz;have h2:=(me n inp w vs k).2.2;omega
theorem Ic{p:PrbV}(hn:p.task.n<=5)(hr:p.rounds<=6):∀{D:List (Nat×List RndV)}{x:ExV},D.length<=100->x∈(stD p D).execs->∃c w,(c,w)∈D/\x.case=(c:Nat)/\x.word=w/\x.views.length=p.rounds.toNat+1/\∀l∈x.views,l.length=p.task.n.toNat/\∀z∈l,0<=z/\z<=5000:=by
 intro D
 induction D using Df with
 |nil=>intro x _ h;cases h
 |snoc D d ih=>
  intro x hl h;obtain⟨c,w⟩:=d;rw[cm,List.length_singleton] at hl;rw[Bi,yq] at h;rcases gV.1 h with h|h
  ·obtain⟨c',w',h1,h2⟩:=ih (by omega) h;exact⟨c',w',qs _ h1,h2⟩
  ·rw[ed] at h;subst h;have hv:=(zg hn hr D).2;obtain⟨p1,p2,-⟩:=me p.task.n.toNat (p.task.cases.getD c default).inp w (stD p D).views (p.rounds.toNat+1);refine⟨c,w,sK _ (ed.2 rfl),rfl,rfl,p1,λl hl'=>⟨p2 l hl',λz hz=>?_⟩⟩;have:=Ho _ _ _ _ _ l hl' z hz;have h3:(p.rounds.toNat+1)*p.task.n.toNat<=7*5:=Nat.mul_le_mul (by omega) (by omega);omega
theorem HQ{n:Nat}{W:List (List RndV)}{c:Nat}{w:List RndV}(h:(c,w)∈kY n W):c<n/\w∈W:=by
 induction n with
 |zero=>cases h
 |succ n ih=>
  rw[nG] at h;rcases gV.1 h with h|h
  ·have:=ih h;exact⟨by omega,this.2⟩
  ·obtain⟨w',h1,h2⟩:=dF.1 h;cases h2;exact⟨by omega,h1⟩
theorem jo(p:PrbV)(h:OkP p):1<=(bG p).execs.length/\(bG p).execs.length<=60/\(bG p).views.length<=2100/\∀x∈(bG p).execs,XOk p.task.n.toNat p.rounds.toNat x:=by
 obtain⟨hck,ho,hn,r0,r6⟩:=fg h.e0;obtain⟨n1,n5,c1,c2⟩:=dv hck;obtain⟨f1,f2,f3,f4⟩:=oo h.e0 h.num;have e:bldS p p.task.cases.length=stD p (kY p.task.cases.length (eZ p)):=(yR p _).symm;have hl:=Db p.task.cases.length (eZ p);obtain⟨s1,s2⟩:=zg (p:=p) n5 r6 (kY p.task.cases.length (eZ p));have hpos:1*1<=p.task.cases.length*(eZ p).length:=Nat.mul_le_mul f3 f4;refine⟨?_,?_,?_,λx hx=>?_⟩
 ·show 1<=(bldS p p.task.cases.length).execs.length;rw[e];omega
 ·show(bldS p p.task.cases.length).execs.length<=60;rw[e];omega
 ·show(bldS p p.task.cases.length).views.length<=2100;rw[e];omega
 ·have hx':x∈(bldS p p.task.cases.length).execs:=hx;rw[e] at hx';obtain⟨c,w,g1,g2,g3,g4,g5⟩:=Ic n5 r6 (by omega) hx';have hw:=(HQ g1).2;refine⟨by rw[g3];exact nR hw,λr hr=>?_,g4,g5⟩;rw[g3] at hr;obtain⟨l,hl,m,hm,rfl⟩:=qA hw r hr;have ok:=ho.mv l hl m hm;obtain⟨q1,q2,q3⟩:=ko ok.r;have:=yD (n:=m.r.n) (by rw[ok.n];exact ho.n5);omega
theorem J4(p:PrbV)(h:OkP p):(bldS p p.task.cases.length).views.length<=1000000/\(bldS p p.task.cases.length).execs.length<=1000000/\∀x∈(bldS p p.task.cases.length).execs,ShE x:=by
 obtain⟨h1,h2,h3,h4⟩:=jo p h;obtain⟨hck,ho,hn,r0,r6⟩:=fg h.e0;obtain⟨n1,n5,c1,c2⟩:=dv hck;exact⟨fA h3 (by omega),fA h2 (by omega),λx hx=>⟨by have:=(h4 x hx).wl;omega,by have:=(h4 x hx).vl;omega,λv hv=>by have:=((h4 x hx).vr v hv).1;omega⟩⟩
def eh(x:ExV):List Int:=x.views.getD (x.views.length-1) []
def iY(x:ExV):Int:=if x.word.length=0 then 0 else(x.word.getD (x.word.length-1) default).f
def oJ(x:ExV)(q:Nat):List Int:=(List.range (eh x).length).map λi=>if i<q/\hasFl (iY x) i=true then-1 else(eh x).getD i 0
def ik(x:ExV):List Int:=oJ x (eh x).length
theorem nM(x:ExV)(q:Nat):(oJ x q).length=(eh x).length:=by simp[oJ]
theorem Ku(x:ExV):oJ x 0=eh x:=by
 refine List.ext_getElem (nM x 0) λi h1 h2=>?_;simp[oJ,List.getD,h2]
theorem GG{x:ExV}{q i:Nat}(h:i<(eh x).length):(oJ x q).getD i 0=if i<q/\hasFl (iY x) i=true then-1 else(eh x).getD i 0:=by
 simp[oJ,List.getD,h]
theorem DK{x:ExV}{q:Nat}(hq:q<(eh x).length):oJ x (q+1)=if hasFl (iY x) q=true then(oJ x q).set q (-1) else oJ x q:=by
 have hc:∀i,i≠q->((i<q+1/\hasFl (iY x) i=true)↔(i<q/\hasFl (iY x) i=true)):=λi hi=>⟨λh=>⟨by omega,h.2⟩,λh=>⟨by omega,h.2⟩⟩
 cases hf:hasFl (iY x) q with
 |true=>
  rw[if_pos rfl];refine List.ext_getElem (by simp[nM]) λi h1 h2=>?_;by_cases e:i=q
  ·subst e;simp[oJ,hf]
  ·rw[List.getElem_set_ne (by omega)];simp[oJ,hc i e]
 |false=>
  rw[if_neg (by decide)];refine List.ext_getElem (by simp[nM]) λi h1 h2=>?_;by_cases e:i=q
  ·subst e;simp[oJ,hf]
  ·simp[oJ,hc i e]
theorem XOk.last{n R:Nat}{x:ExV}(h:XOk n R x):(eh x).length=n/\∀z∈eh x,0<=z/\z<=5000:=h.vr _ (au (by have:=h.vl;omega))
theorem XOk.flt{n R:Nat}{x:ExV}(h:XOk n R x):0<=iY x/\iY x<32:=by
 unfold iY;split
 ·omega
 ·exact h.wf _ (au (by omega))
theorem JA(l:List (List Int))(h:l.length≠0):cu 1 (bm l) (.int .i64 ((l.length:Int)-1))=some (.iptr [aD (l.getD (l.length-1) [])] 0):=by
 rw[show((l.length:Int)-1)=((l.length-1:Nat):Int) by omega,pz,if_pos ⟨by omega,by omega⟩,bR];rfl
def s9(x:ExV)(q:Nat):Spx:=(List.range q).filterMap λi=>if hasFl (iY x) i=true then none else some ⟨(i:Nat),(eh x).getD i 0⟩
def gN(x:ExV):Spx:=s9 x (eh x).length
theorem oB(x:ExV)(q:Nat):s9 x (q+1)=if hasFl (iY x) q=true then s9 x q else s9 x q++[⟨(q:Nat),(eh x).getD q 0⟩]:=by
 unfold s9;rw[List.range_succ,List.filterMap_append];cases h:hasFl (iY x) q with
 |true=>simp[h]
 |false=>simp[h]
theorem v7(x:ExV):∀q,(s9 x q).length<=q
 |0=>ba _
 |q+1=>by
  have:=v7 x q;rw[oB];split
  ·omega
  ·rw[cm];simp;omega
theorem vu{x:ExV}{v:Vtx}:v∈gN x↔ ∃i,i<(eh x).length/\hasFl (iY x) i=false/\v=⟨(i:Nat),(eh x).getD i 0⟩:=by
 unfold gN s9;rw[List.mem_filterMap];constructor
 ·rintro⟨i,h1,h2⟩;rw[iR] at h1;cases h:hasFl (iY x) i with
  |true=>rw[h] at h2;cases h2
  |false=>rw[h] at h2;cases h2;exact⟨i,h1,h,rfl⟩
 ·rintro⟨i,h1,h2,rfl⟩;exact⟨i,iR.2 h1,by rw[h2];rfl⟩
theorem Fo{f:Int}{p:Nat}(h0:0<=f)(hp:p<=60):decide (qk (kw f p)=0)=!hasFl f p:=by
 obtain⟨m,rfl⟩:∃m:Nat,f=m:=⟨f.toNat,by omega⟩
 rw[qI hp,od];unfold hasFl;rw[show(m:Int)/((2^p:Nat):Int)=((m/2^p:Nat):Int) from rfl];generalize m/2^p=x;rw[<-decide_not];exact decide_eq_decide.2 (by omega)
def ez(p:PrbV):List Spx:=(bG p).execs.map gN
section
attribute [local irreducible] aG ah bg aQ aH aK ay aN aR bq Go.Abs.Fn aP Go.Abs.Pure ak aF Yl
theorem vD(l:List RndV)(hl:l.length<=100000):PureF Tryz.prog 47 [bV l] (bV l):=by
 refine qO QQ ?_;simp only[b47,av];refine wnY and_self ?_;have hfin:∀H b,H b=some (cL fG l)->SnapF H (.msl b (l.length*7) 7 0 l.length) (bV l):=λH b hb=>HK (Row.box b l.length _ hb (yh l));refine mY (k:=l.length) (by((try simp only[bU,ZA,reduceEqDiff,↓reduceIte,reduceAdd,reduceLeDiff]);(try with_reducible rfl));exact tN l) (λh=>?_) (λh=>?_) (λh=>?_)
 ·refine wnY and_self ?_;refine iK rfl ev0 ev0 (Jv l) (xX l) (by omega) (by omega) ?_;refine wnY and_self ?_;exact hfin _ _ ac
 ·refine wnY and_self ?_;obtain rfl:=eG.1 h;exact .eslsl 7
 ·refine wnY and_self ?_;refine iK rfl ev0 ev0 (Jv l) (xX l) (by omega) (by omega) ?_;refine wnY and_self ?_;exact hfin _ _ ac
theorem FL(a:AdvV)(ha:ShA a)(ho:AdvOk a)(R n:Nat)(hn:n<=5000)(hR:R<=6):∀(d s len:Nat)(w:List RndV)(D:List (List RndV))(cs C:List AV)(H:Hp)(nx:Nat),len+d=R->w.length=len->s<a.states.length->D.length+(bt a d s).length<=n->
    H 0=some [.int .i64 a.n,bj a.states]->H 1=some [.int .i64 R]->H 2=some cs->cs.length=n->cs.take D.length=D.map bV->H 3=some [.msl 2 n 1 0 D.length]->H 4=some [.func 76 [.ptr 1 1 0,.ptr 3 1 0,.ptr 0 2 0,.ptr 4 1 0]]->H 5=some C->C.length=R*7->C.take (len*7)=cL fG w->6<=nx->
    Abs.Fn Tryz.prog 76 [.int .i64 s,.msl 5 (R*7) 7 0 len,.ptr 1 1 0,.ptr 3 1 0,.ptr 0 2 0,.ptr 4 1 0] H nx λr H' nx'=>r=.tup []/\nx<=nx'/\H' 0=H 0/\H' 1=H 1/\H' 4=H 4/\H' 3=some [.msl 2 n 1 0 (D.length+(bt a d s).length)]/\
     (∃cs',H' 2=some cs'/\cs'.length=n/\cs'.take (D.length+(bt a d s).length)=(D++(bt a d s).map (w++ ·)).map bV)/\∃C',H' 5=some C'/\C'.length=R*7/\C'.take (len*7)=cL fG w:=by
 intro d
 induction d with
 |zero=>
  intro s len w D cs C H nx hd hw hs hDn h0 h1 h2 hcl hct h3 h4 h5 hCl hCt hnx;refine fO Nw ?_;simp only[b76,av];obtain rfl:len=R:=by omega
  have hCw:C=cL fG w:=by rw[<-hCt,iW (by omega)]
  have hlw:(bt a 0 s)=[[]]:=rfl;rw[hlw] at hDn |-;have hDn:D.length+1<=n:=hDn;have hcl1:=vD w (by omega);have z:decide ((len:Int)=(len:Int))=true:=bH rfl;refine wnY (zI5 @h0 @h1 @h3 @h4 @z) ?_;refine iL (only 3 [.msl 2 n 1 0 D.length]) rfl (lu h3) ?_;have s3:only 3 [.msl 2 n 1 0 D.length] 3=some [.msl 2 n 1 0 D.length]:=fF;refine wnY @s3 ?_;refine eE ?_;refine oE (ys:=[bV w]) ev0 ev0 hcl1 (af (FJ (by have:=Row.box (H:=H) (sz:=7) 5 len C h5 (by omega);rwa [hCw] at this)) ai) ?_;refine iS ⟨lu h3,?_⟩;refine eE ?_;refine wnY @PE ?_;refine⟨lu (by rw[ab (by omega)];exact h3),?_⟩;refine gL ?_;refine B6 (b:=2) (m:=n) (off:=0) (len:=D.length) (n:=1) (new:=[bV w]) rfl ev0 (by rw[ab (by omega)];exact h2) ev0 (cP rfl) rfl hcl (λ_=>by omega) (by omega) (by omega) ?_;have hlp:=xm (cs:=cs) (new:=[bV w]) (k:=0+D.length*1) (pre:=D.map bV) (by rw[cp,Nat.mul_one];exact hct) (by simp;omega);have hlp1:(bw cs (0+D.length*1) [bV w]).length=n:=hlp.1.trans hcl
  have hlp2:(bw cs (0+D.length*1) [bV w]).take (D.length+1)=(D++[w]).map bV:=by
   have:=hlp.2;rw[List.length_singleton,cp,Nat.mul_one] at this;rw[cp,Nat.mul_one,this,du];rfl
  generalize bw cs (0+D.length*1) [bV w]=cs' at *;have k3:ap (ap H nx [bV w]) 2 cs' 3=some [.msl 2 n 1 0 D.length]:=by simp (disch:=omega) only[ab];exact h3
  have zz:=@h3;repeat' (first|apply a_n|apply a_r|refine zO ?_|apply gL|refine stY ?_|refine bn rfl ?_|fail)
  refine⟨rfl,by omega,by simp (disch:=omega) only[ab],by simp (disch:=omega) only[ab],by simp (disch:=omega) only[ab],ac,⟨cs',by simp (disch:=omega) only[ab,ac],hlp1,?_⟩,C,by simp (disch:=omega) only[ab];exact h5,hCl,hCt⟩;rw[im,List.map_nil,gH];exact hlp2
 |succ d ih=>
  intro s len w D cs C H nx hd hw hs hDn h0 h1 h2 hcl hct h3 h4 h5 hCl hCt hnx;refine fO Nw ?_;simp only[b76,av];have z:decide ((len:Int)=(R:Int))=false:=bL (by omega);have ix:=Aj hs;have hWs:=BK a d s w;have hWl:(bt a (d+1) s).length=((bt a (d+1) s).map (w++ ·)).length:=by rw[bC]
  rw[hWl,hWs] at hDn |-;have hok:=ho.mv _ (mh hs);rw[pj] at ix;have hll:=ha.each _ (mh hs);clear hWl hWs;generalize a.st s=l at *;refine wnY (zI7 @PE @h0 @h1 @h3 @h4 @z @ix) ?_
  refine br (X:=Nat × List (List RndV)) (fun x=>[(1,.msl 5 (R * 7) 7 0 len),(5,.ptr 4 1 0),(23,dt l),(24,.int .i64 l.length),(25,.int .i64 x.1)]) (fun x H' n'=>x.1 ≤ l.length∧nx ≤ n'∧H' 0=H 0∧H' 1=H 1∧H' 4=H 4∧H' 3=some [.msl 2 n 1 0 x.2.length] ∧
   (∃cs',H' 2=some cs'/\cs'.length=n/\cs'.take x.2.length=x.2.map bV)/\(∃C',H' 5=some C'/\C'.length=R*7/\C'.take (len*7)=cL fG w)/\
   x.2++((l.drop x.1).flatMap λm=>(bt a d m.to.toNat).map ((w++[m.r])++ ·))=D++l.flatMap λm=>(bt a d m.to.toNat).map ((w++[m.r])++ ·)) (λx=>l.length-x.1) (0,D) ⟨bA _,ba _,rfl,rfl,rfl,h3,⟨cs,h2,hcl,hct⟩,⟨C,h5,hCl,hCt⟩,by rw[List.drop_zero]⟩ ag0 ?_
  generalize hTot:D++l.flatMap (λm=>(bt a d m.to.toNat).map ((w++[m.r])++ ·))=Tot at *;have hTl:Tot.length<=n:=by rw[<-hTot,cm];exact hDn
  have hTl2:D.length+(l.flatMap λm=>(bt a d m.to.toNat).map ((w++[m.r])++ ·)).length=Tot.length:=by rw[<-hTot,cm]
  rw[hTl2];clear hcl hct h2 h3 h5 hCl hCt hDn hTl2 hTot;rintro⟨i,D1⟩ H1 n1 ⟨i1,i2,e0,e1,e4,e3,⟨cs1,e2,c1,c2⟩,⟨C1,e5,d1,d2⟩,htot⟩;dsimp only at i1 e3 c2 htot |-;by_cases hi:i<l.length
  rotate_left
  ·rw[nZ (by omega),List.flatMap_nil,gH] at htot;subst htot;refine wnY @PE ?_;exact⟨rfl,i2,e0,e1,e4,e3,⟨cs1,e2,c1,c2⟩,C1,e5,d1,d2⟩
  have ixm:=ixM hi;obtain⟨m1,m2,m3,m4⟩:=hok _ (au hi);rw[List.drop_eq_getElem_cons hi,show l[i]=l.getD i default by simp[List.getD,hi],l8,<-gK] at htot;rw[PC.2.2.1] at ixm;generalize l.getD i default=m at *;refine wnY (aI @PE @ixm) ?_;have f4:=e4.trans h4;obtain⟨S,s4,sm,hsub⟩:=xU 4 n1 [.func 76 [.ptr 1 1 0,.ptr 3 1 0,.ptr 0 2 0,.ptr 4 1 0]] [.int .i64 m.r.n,.int .i64 m.r.h0,.int .i64 m.r.h1,.int .i64 m.r.h2,.int .i64 m.r.h3,.int .i64 m.r.h4,.int .i64 m.r.f,.int .i64 m.to] (by omega);generalize hX:ap (ap H1 n1 _) n1 _=H2;have w2:∀y,y<n1->H2 y=H1 y:=λy hy=>by rw[<-hX];simp (disch:=omega) only[ab]
  have wm:H2 n1=some [.int .i64 m.r.n,.int .i64 m.r.h0,.int .i64 m.r.h1,.int .i64 m.r.h2,.int .i64 m.r.h3,.int .i64 m.r.h4,.int .i64 m.r.f,.int .i64 m.to]:=by rw[<-hX,ac];rfl
  clear hX;have w4:=(w2 4 (by omega)).trans f4;refine iL S rfl (hsub _ w4 wm) ?_;refine wnY (zI3 @PE @s4 @sm) ?_;refine eE ?_;refine wnY @PE ?_;refine⟨hsub _ (by rw[ab (by omega)];exact w4) (by rw[ab (by omega)];exact wm),?_⟩;refine eE ?_;refine B6 (b:=5) (m:=R*7) (off:=0) (len:=len) (n:=1) (new:=[.int .i64 m.r.n,.int .i64 m.r.h0,.int .i64 m.r.h1,.int .i64 m.r.h2,.int .i64 m.r.h3,.int .i64 m.r.h4,.int .i64 m.r.f]) rfl ev0 (by rw[ab (by omega),w2 5 (by omega)];exact e5) ev0 (cP rfl) rfl d1 (λ_=>by omega) (by omega) (by omega) ?_;refine iS ⟨hsub _ (by rw[ab (by omega),ab (by omega)];exact w4) (by rw[ab (by omega),ab (by omega)];exact wm),?_⟩;refine gL ?_;have hlp:=xm (cs:=C1) (new:=[AV.int .i64 m.r.n,.int .i64 m.r.h0,.int .i64 m.r.h1,.int .i64 m.r.h2,.int .i64 m.r.h3,.int .i64 m.r.h4,.int .i64 m.r.f]) (k:=0+len*7) (pre:=cL fG w) (by rw[cp];exact d2) (by rw[d1,cp];show len*7+7<=R*7;omega);have hlp1:(bw C1 (0+len*7) [AV.int .i64 m.r.n,.int .i64 m.r.h0,.int .i64 m.r.h1,.int .i64 m.r.h2,.int .i64 m.r.h3,.int .i64 m.r.h4,.int .i64 m.r.f]).length=R*7:=hlp.1.trans d1
  have hlp2:(bw C1 (0+len*7) [AV.int .i64 m.r.n,.int .i64 m.r.h0,.int .i64 m.r.h1,.int .i64 m.r.h2,.int .i64 m.r.h3,.int .i64 m.r.h4,.int .i64 m.r.f]).take ((len+1)*7)=cL fG (w++[m.r]):=by
   have:=hlp.2;rw[show 0+len*7+[AV.int .i64 m.r.n,.int .i64 m.r.h0,.int .i64 m.r.h1,.int .i64 m.r.h2,.int .i64 m.r.h3,.int .i64 m.r.h4,.int .i64 m.r.f].length=(len+1)*7 by show 0+len*7+7=_;omega] at this;rw[this,jp,uz];rfl
  generalize bw C1 (0+len*7) [AV.int .i64 m.r.n,.int .i64 m.r.h0,.int .i64 m.r.h1,.int .i64 m.r.h2,.int .i64 m.r.h3,.int .i64 m.r.h4,.int .i64 m.r.f]=C2 at *
  have hDl:D1.length+(bt a d m.to.toNat).length<=n:=by
   have:=congrArg List.length htot;rw[cm,cm,bC] at this;omega
  have hih:=ih m.to.toNat (len+1) (w++[m.r]) D1 cs1 C2 (ap (ap H2 n1.succ [.int .i64 m.r.n,.int .i64 m.r.h0,.int .i64 m.r.h1,.int .i64 m.r.h2,.int .i64 m.r.h3,.int .i64 m.r.h4,.int .i64 m.r.f]) 5 C2) (n1+1+1) (by omega) (by rw[cm,hw];rfl) (by omega) hDl
   (by simp (disch:=omega) only[ab];rw[w2 0 (by omega),e0];exact h0) (by simp (disch:=omega) only[ab];rw[w2 1 (by omega),e1];exact h1) (by simp (disch:=omega) only[ab];rw[w2 2 (by omega)];exact e2) c1 c2 (by simp (disch:=omega) only[ab];rw[w2 3 (by omega)];exact e3) (by simp (disch:=omega) only[ab];exact w4) ac hlp1 hlp2 (by omega)
  rw[show((m.to.toNat:Nat):Int)=m.to by omega] at hih;refine aX ev0 ev0 hih ?_;rintro r H4 n4 ⟨rfl,p1,p2,p3,p4,p5,⟨cs4,p6,p7,p8⟩,C4,p9,p10,p11⟩;refine wnY and_self ?_;refine⟨(i+1,D1++(bt a d m.to.toNat).map ((w++[m.r])++ ·)),by dsimp only;omega,⟨by dsimp only;omega,by omega,?_,?_,?_,?_,⟨cs4,p6,p7,?_⟩,⟨C4,p9,p10,?_⟩,htot⟩,ag0⟩
  ·rw[p2];simp (disch:=omega) only[ab];rw[w2 0 (by omega),e0]
  ·rw[p3];simp (disch:=omega) only[ab];rw[w2 1 (by omega),e1]
  ·rw[p4];simp (disch:=omega) only[ab];rw[w2 4 (by omega),e4]
  ·rw[p5];dsimp only;rw[cm,bC]
  ·dsimp only;rw[cm,bC];exact p8
  ·have:=congrArg (List.take (len*7)) p11;rw[List.take_take,Nat.min_eq_left (by omega),jp,vA (by rw[yh];omega),iW (l:=cL fG w) (by rw[yh];omega)] at this;exact this
theorem Iz(a:AdvV)(ha:ShA a)(ho:AdvOk a)(R:Nat)(hR:R<=6)(hn:kV a R 4096<=4096):pU 44 [ee a,.int .i64 R] (.tup [dU (bt a R 0),.int .i64 0]):=by
 refine pO PO ?_;simp only[b44,av];have hct:=xu a ha ho R hR 4096 (by omega) (by omega) hn;have hd:=dL a;have hto:Cz a:=λl hl m hm=>⟨(ho.mv l hl m hm).to0,(ho.mv l hl m hm).to1⟩
 have h1:=ho.s1;have hnum:=tI hto (by omega) (lim:=4096) (by omega) R;have hlen:(bt a R 0).length<=4096:=by omega
 have hnb:kV a R 4096=((bt a R 0).length:Nat):=by omega
 have hpos:=rN hto ho.ne R 0 (by omega);have hwp:0<(bt a R 0).length:=wA.2 hpos;rw[hnb] at hct;have hF:=FL a ha ho R (bt a R 0).length (by omega) hR R 0 0 [] [] (bv (.agg [.esl]) (bt a R 0).length) (bv (AV.agg [.int .i64 0,.int .i64 0,.int .i64 0,.int .i64 0,.int .i64 0,.int .i64 0,.int .i64 0]) R);unfold ee at hct hd |-;rw[PC.2.2.2.1] at hct hd |-;generalize bt a R 0=W at *;refine wnY @PE ?_;refine mN rfl ev0 ev0 (Int.le_refl _) (by omega) (by omega) (by omega) ?_;rw[bR,Int.toNat_zero];refine wnY @PE ?_;obtain⟨S,s4,s1,hsub⟩:=xU 4 1 [.func 76 [.ptr 1 1 0,.ptr 3 1 0,.ptr 0 2 0,.ptr 4 1 0]] [.int .i64 R] (by omega);generalize hX:ap (ap _ _ [AV.nilf]) _ _=H2;have k4:H2 4=some [.func 76 [.ptr 1 1 0,.ptr 3 1 0,.ptr 0 2 0,.ptr 4 1 0]]:=by rw[<-hX];simp (disch:=omega) only[ac];rfl
 have k0:H2 0=some [.int .i64 a.n,bj a.states]:=by rw[<-hX];simp (disch:=omega) only[ab,ac]
 have k1:H2 1=some [.int .i64 R]:=by rw[<-hX];simp (disch:=omega) only[ab,ac]
 have k2:H2 2=some (bv (.agg [.esl]) W.length):=by rw[<-hX];simp (disch:=omega) only[ab,ac]
 have k3:H2 3=some [.msl 2 W.length 1 0 0]:=by
  rw[<-hX];simp (disch:=omega) only[ab,ac,Nat.mul_one];rfl
 clear hX;refine iL S rfl (hsub _ k4 k1) ?_;refine wnY (zI3 @PE @s4 @s1) ?_;refine eE ?_;refine mN (k1:=.i64) (k2:=.i64) (n:=0) (m:=R) rfl ev0 ev0 (Int.le_refl _) (by omega) (by omega) (by omega) ?_;rw[bR,Int.toNat_zero];refine iS ⟨hsub _ (by rw[ab (by omega)];exact k4) (by rw[ab (by omega)];exact k1),?_⟩;refine gL ?_;have z1:(bv (.agg [.esl]) W.length).length=W.length:=by simp[bv,AV.cells]
 have z2:(bv (AV.agg [.int .i64 0,.int .i64 0,.int .i64 0,.int .i64 0,.int .i64 0,.int .i64 0,.int .i64 0]) R).length=R*7:=by simp[bv,AV.cells]
 have hFF:=hF (ap H2 5 (bv (AV.agg [.int .i64 0,.int .i64 0,.int .i64 0,.int .i64 0,.int .i64 0,.int .i64 0,.int .i64 0]) R)) 6 (by omega) rfl (by omega) (by simp) (by rw[ab (by omega)];exact k0) (by rw[ab (by omega)];exact k1) (by rw[ab (by omega)];exact k2) z1 (by simp) (by rw[ab (by omega)];exact k3) (by rw[ab (by omega)];exact k4) ac z2 (by simp[cL]) (ba _);rw[show((0:Nat):Int)=(0:Int) from rfl] at hFF;refine aX ev0 ev0 hFF ?_;rintro r H3 n3 ⟨rfl,p1,p2,p3,p4,p5,⟨cs4,p6,p7,p8⟩,-⟩;rw[iH,cp] at p5 p8;refine wnY @p5 ?_;rw[iW (by omega),List.nil_append,show(λx:List RndV=>([]:List RndV)++x)=id from rfl,List.map_id] at p8;subst p8;exact cR (af (CU (Row.box1 p6 (by rw[bC]))) (af (.int _ _) ai))
theorem Jh(p:PrbV)(h:OkP p):pU 73 [cT p] (.int .i64 0):=by
 refine pO P8 ?_;simp only[b73,av];obtain⟨hck,ho,hn,r0,r6⟩:=fg h.e0;have h1:=Tk.check_c p.task h.sh.c h.sh.t;rw[hck] at h1;have h2:=CK p.adv h.sa ho;have d1:=nw p.task;have d2:=dL p.adv;unfold cT;unfold qj at h1 d1;unfold ee at h2 d2;rw[PC.2.2.2.1] at h2 d2;rw[PC.2.2.2.2.1];refine wnZ @PE ?_;exact aA rfl
theorem Jr(p:PrbV)(h:OkP p):pU 43 [cT p] (.tup [.int .i64 (((eZ p).length:Nat)*(p.task.cases.length:Nat):Int),.int .i64 0]):=by
 refine pO PF ?_;simp only[b43,av];obtain⟨hck,ho,hn,r0,r6⟩:=fg h.e0;obtain⟨q1,q2,q3,q4⟩:=oo h.e0 h.num;have hto:Cz p.adv:=λl hl m hm=>⟨(ho.mv l hl m hm).to0,(ho.mv l hl m hm).to1⟩
 have hs1:=ho.s1;have hnum:=tI hto (by omega) (lim:=1048576) (by omega) p.rounds.toNat;change kV p.adv p.rounds.toNat 1048576=min ((eZ p).length:Int) (1048576+1) at hnum;have h1:=Jh p h;have h2:=Ik p.adv h.sa ho p.rounds.toNat (by omega) (by omega);rw[show kV p.adv p.rounds.toNat 1048576=((eZ p).length:Nat) by omega,show((p.rounds.toNat:Nat):Int)=p.rounds by omega] at h2;have d1:=fh p;have d2:=dL p.adv;generalize (eZ p).length=L at *;have hm1:(L:Int)*(p.task.cases.length:Nat)=((p.task.cases.length*L:Nat):Int):=by rw[Int.natCast_mul,Int.mul_comm]
 have hw:IntKind.wrap .i64 ((L:Int)*(p.task.cases.length:Nat))=(L:Int)*(p.task.cases.length:Nat):=jK (by omega) (by omega);have hz:decide (1048576<(L:Int)*(p.task.cases.length:Nat))=false:=bL (by omega);unfold cT at h1 d1 |-;unfold ee at h2 d2;rw[PC.2.2.2.1] at h2 d2;rw[PC.2.2.2.2.1] at h1 d1 |-;refine wnZ (zI3 @PE @hw @hz) ?_;exact cR (af (.int _ _) (af (.int _ _) ai))
theorem wR(l:List (List Int))(hl:l.length<=1000000)(hs:∀x∈l,Tk.Sh x):pU 79 [bm l] (bm l):=by
 refine pO PN ?_;simp only[b79,av];refine wnY and_self ?_;refine br (X:=Nat×AV) (λx=>[(3,x.2),(6,bm l),(7,.int .i64 l.length),(8,.int .i64 x.1)]) (λx H nx=>x.1<=l.length/\Row H 1 x.2 ((l.take x.1).map aD)/\∀b,bk x.2=some b->b<nx) (λx=>l.length-x.1) (0,.esl) ⟨bA _,.nil,λb h=>(by cases h)⟩ ag0 ?_;rintro⟨i,sv⟩ H nx ⟨i1,hrow,hb⟩;dsimp only at i1 hrow hb |-;by_cases hi:i<l.length
 rotate_left
 ·rw[iW (by omega)] at hrow;refine wnY and_self ?_;exact hrow.snapV
 have hcl:=Tk.cloneF_c (l.getD i default) (hs _ (au hi));have htk:(l.take (i+1)).map aD=(l.take i).map aD++[aD (l.getD i default)]:=by rw[bO hi,du];rfl
 generalize hv:l.getD i default=v at *;refine wnY @hv ?_;refine oE (ys:=[aD v]) ev0 ev0 hcl (af (Dat.snap (fc _)) ai) ?_;refine wnY and_self ?_;refine ef (k:=1) (new:=[aD v]) rfl ev0 (hrow.same λb h=>ab (by have:=hb b h;omega)) ev0 (cP rfl) rfl rfl ig (by simp;omega) (by simp;omega) ?_;rintro s' H' nx' r1 r2 r3 r4 r5;refine wnY and_self ?_;refine⟨(i+1,s'),by dsimp only;omega,⟨by dsimp only;omega,by dsimp only;rw[htk];exact r1,λb h=>?_⟩,ag0⟩;rcases r5 b h with h|h
 ·have:=hb b h;omega
 ·omega
theorem Hb(l:List MvV)(hl:l.length<=1000000):pU 81 [dt l] (dt l):=by
 refine pO PA ?_;simp only[b81,av];refine wnY and_self ?_;have hfin:∀H b,H b=some (cL iU l)->Snap H (.msl b (l.length*8) 8 0 l.length) (dt l):=λH b hb=>Lq (Row.box b l.length _ hb (Ly l));refine mY (k:=l.length) (by((try simp only[bU,ZA,reduceEqDiff,↓reduceIte,reduceAdd,reduceLeDiff]);(try with_reducible rfl));exact tN l) (λh=>?_) (λh=>?_) (λh=>?_)
 ·refine wnY and_self ?_;refine iK rfl ev0 ev0 (FY l) (CR l) (by omega) (by omega) ?_;refine wnY and_self ?_;exact hfin _ _ ac
 ·refine wnY and_self ?_;obtain rfl:=eG.1 h;exact .eslsl 8
 ·refine wnY and_self ?_;refine iK rfl ev0 ev0 (FY l) (CR l) (by omega) (by omega) ?_;refine wnY and_self ?_;exact hfin _ _ ac
theorem F8(l:List CaseV)(hl:l.length<=1000000)(h0:l≠[])(H:Hp)(nx:Nat):Abs.Fn Tryz.prog 77 [cI l] H nx λr H' nx'=>r=.msl nx (l.length*3) 3 0 l.length/\H'=ap H nx (cL kD l)/\nx'=nx+1:=by
 refine fO Qm ?_;simp only[b77,av];have hl0:0<l.length:=wA.2 h0;refine wnY and_self ?_;refine mY (k:=l.length) (by((try simp only[bU,ZA,reduceEqDiff,↓reduceIte,reduceAdd,reduceLeDiff]);(try with_reducible rfl));exact tN l) (λh=>?_) (λh=>absurd h (by omega)) (λh=>absurd h (by omega));refine wnY and_self ?_;refine iK rfl ev0 ev0 (Mh l) (HD l) (by omega) (by omega) ?_;refine wnY and_self ?_;exact⟨rfl,rfl,rfl⟩
theorem EV(l:List (List MvV))(hl:l.length<=1000000)(h0:l≠[])(H:Hp)(nx:Nat):Abs.Fn Tryz.prog 80 [bj l] H nx λr H' nx'=>r=.msl nx l.length 1 0 l.length/\H'=ap H nx (l.map dt)/\nx'=nx+1:=by
 refine fO Qj ?_;simp only[b80,av];have hl0:0<l.length:=wA.2 h0;have hones:AV.ones (l.map dt)=true:=Hi (λ_=>rfl);refine wnY and_self ?_;refine mY (k:=l.length) (by((try simp only[bU,ZA,reduceEqDiff,↓reduceIte,reduceAdd,reduceLeDiff]);(try with_reducible rfl));exact tN l) (λh=>?_) (λh=>absurd h (by omega)) (λh=>absurd h (by omega));refine wnY and_self ?_;refine iK rfl ev0 ev0 (HN l) hones (by omega) (by omega) ?_;refine wnY and_self ?_;exact⟨rfl,rfl,rfl⟩
theorem Ff(p:PrbV)(h:ShP p)(hc0:p.task.cases≠[])(hs0:p.adv.states≠[])(hcl:p.task.cases.length<=1024)(hco:∀c∈p.task.cases,c.out.length<=1000000/\c.calm.length<=1000000)(hsl:p.adv.states.length<=256)(hml:∀l∈p.adv.states,l.length<=4096):pU 45 [cT p] (cT p):=by
 refine pO Pw ?_;simp only[b45,av];have hC0:=wA.2 hc0;have hS0:=wA.2 hs0;have hclC:=F8 p.task.cases (by omega) hc0;have hclM:=EV p.adv.states (by omega) hs0;have hsh:=h.c;unfold cT;rw[PC.2.2.2.2.1];generalize p.task.cases=L at *;generalize p.adv.states=M at *;refine wnY @PE ?_;refine aX ev0 ev0 (hclC _ _) ?_;rintro r H' nx' ⟨rfl,rfl,rfl⟩;refine wnY @PE ?_;refine br (X:=Nat) (λi=>[(1,.ptr 0 7 0),(2,.ptr 1 7 0),(15,.msl 2 (L.length*3) 3 0 L.length),(16,.int .i64 L.length),(17,.int .i64 i)]) (λi H n=>i<=L.length/\3<=n/\H 0=some [.int .i64 p.task.n,.int .i64 p.task.ins,.int .i64 p.task.outs,.msl 2 (L.length*3) 3 0 L.length,.int .i64 p.adv.n,bj M,.int .i64 p.rounds]/\H 1=some [.int .i64 0,.int .i64 0,.int .i64 0,.esl,.int .i64 0,.esl,.int .i64 0]/\H 2=some (cL kD L)) (λi=>L.length-i) 0 ⟨bA _,by omega,by simp (disch:=omega) only[ab,ac];rfl,by simp (disch:=omega) only[ab,ac],by simp (disch:=omega) only[ab,ac]⟩ (by simp (disch:=omega) only[agr,ZG,reduceEqDiff,↓reduceIte,SL]) ?_;rintro i H n ⟨i1,hn,g0,g1,g2⟩;have hcC:=Lo L;by_cases hi:i<L.length
 ·have hget:((cL kD L).drop (i*3)).take 3=[aD (L.getD i default).inp,bm (L.getD i default).out,bm (L.getD i default).calm]:=Lm pJ hi;have hput:bw (cL kD L) (i*3) [aD (L.getD i default).inp,bm (L.getD i default).out,bm (L.getD i default).calm]=cL kD L:=LB pJ hi
  have hix:cu 3 (.msl 2 (L.length*3) 3 0 L.length) (.int .i64 (i:Int))=some (.ptr 2 (L.length*3) (i*3)):=by
   rw[gu,if_pos ⟨by omega,by omega⟩,bR,cp]
  obtain⟨s1,s2,s3,s4,s5⟩:=hsh _ (au hi);obtain⟨o1,o2⟩:=hco _ (au hi);have q1:=Tk.cloneF_c _ s1;have q2:=wR _ o1 s3;have q3:=wR _ o2 s5
  have hrd:∀H':Hp,H' 2=some (cL kD L)->rd H' 3 (.ptr 2 (L.length*3) (i*3))=some [aD (L.getD i default).inp,bm (L.getD i default).out,bm (L.getD i default).calm]:=λH' h'=>by
   rw[KO h' hcC (by omega),hget]
  have hr0:=hrd H g2;generalize L.getD i default=c at *;refine wnY (zI4 @PE @g0 @hix @hr0) ?_;obtain⟨S,z0,zm,hsub⟩:=xU 0 n [.int .i64 p.task.n,.int .i64 p.task.ins,.int .i64 p.task.outs,.msl 2 (L.length*3) 3 0 L.length,.int .i64 p.adv.n,bj M,.int .i64 p.rounds] [aD c.inp,bm c.out,bm c.calm] (by omega);generalize hX:ap (ap H n _) n _=H2;have w2:∀y,y<n->H2 y=H y:=λy hy=>by rw[<-hX];simp (disch:=omega) only[ab]
  have wm:H2 n=some [aD c.inp,bm c.out,bm c.calm]:=by rw[<-hX,ac];rfl
  clear hX;have w0:=(w2 0 (by omega)).trans g0;have w22:=(w2 2 (by omega)).trans g2;refine iL S rfl (hsub _ w0 wm) ?_;refine wnY (zI3 @PE @z0 @zm) ?_;refine eE ?_;refine oE (ys:=[aD c.inp]) ev0 ev0 q1 (af (Dat.snap (fc _)) ai) ?_;refine iS ⟨hsub _ w0 wm,?_⟩;refine eE ?_;refine dE ev0 ev0 q2 (aS (af (Dat.snap (d8 _)) ai)) ?_;refine iS ⟨hsub _ w0 wm,?_⟩;refine eE ?_;refine dE ev0 ev0 q3 (aS (af (Dat.snap (d8 _)) ai)) ?_;refine iS ⟨hsub _ w0 wm,?_⟩;have zz:=aI @PE @hix;repeat' (first|apply a_n|refine zO ?_|refine nvY ?_|apply gL|fail)
  refine ml (b:=2) (n:=L.length*3) (off:=i*3) (cs:=cL kD L) (vs:=[aD c.inp,bm c.out,bm c.calm]) rfl ev0 ev0 w22 rfl (by simp only[SO,fi,ec,Bool.and_self]) hcC rfl (by omega) ?_;rw[hput];refine wnY and_self ?_;exact⟨i+1,by omega,⟨by omega,by omega,by simp (disch:=omega) only[ab];exact w0,by simp (disch:=omega) only[ab];exact(w2 1 (by omega)).trans g1,ac⟩,ag0⟩
 refine wnY (aI @PE @g0) ?_;refine aX ev0 ev0 (hclM _ _) ?_;rintro r H' nx' ⟨rfl,rfl,rfl⟩;refine wnY (aI @PE @g0) ?_;refine br (X:=Nat) (λi=>[(1,.ptr 0 7 0),(2,.ptr 1 7 0),(46,.msl n M.length 1 0 M.length),(47,.int .i64 M.length),(48,.int .i64 i)]) (λi H n'=>i<=M.length/\n<n'/\H 0=some [.int .i64 p.task.n,.int .i64 p.task.ins,.int .i64 p.task.outs,.msl 2 (L.length*3) 3 0 L.length,.int .i64 p.adv.n,.msl n M.length 1 0 M.length,.int .i64 p.rounds]/\H 1=some [.int .i64 0,.int .i64 0,.int .i64 0,.esl,.int .i64 0,.esl,.int .i64 0]/\H 2=some (cL kD L)/\H n=some (M.map dt)) (λi=>M.length-i) 0 ⟨bA _,by omega,by simp (disch:=omega) only[ab,ac];rfl,by simp (disch:=omega) only[ab];exact g1,by simp (disch:=omega) only[ab];exact g2,by simp (disch:=omega) only[ab,ac]⟩ (by simp (disch:=omega) only[agr,ZG,reduceEqDiff,↓reduceIte,SL]) ?_;clear g0 g1 g2;rintro j H1 n1 ⟨j1,hn1,g0,g1,g2,g3⟩;have hMl:(M.map dt).length=M.length:=bC _;by_cases hj:j<M.length
 ·have hgm:(M.map dt)[j]?=some (dt (M.getD j default)):=by
    rw[jJ];simp[List.getD,hj]
  have hix:cu 1 (.msl n M.length 1 0 M.length) (.int .i64 (j:Int))=some (.ptr n M.length j):=by
   rw[gu,if_pos ⟨by omega,by omega⟩,bR,cp,Nat.mul_one]
  have hr0:rd1 H1 (.ptr n M.length j)=some (dt (M.getD j default)):=by rw[x7 g3 hMl,hgm]
  have hput:bw (M.map dt) j [dt (M.getD j default)]=M.map dt:=by
   rw[ga (by omega)];refine List.ext_getElem? λk=>?_;rw[List.getElem?_set];split
   ·rename_i e;subst e;rw[if_pos (by omega),hgm]
   ·rfl
  have q1:=Hb _ (fA (hml _ (au hj)) (by omega));generalize M.getD j default=l at *;refine wnY (zI4 @PE @g0 @hix @hr0) ?_;refine iL (only 0 [.int .i64 p.task.n,.int .i64 p.task.ins,.int .i64 p.task.outs,.msl 2 (L.length*3) 3 0 L.length,.int .i64 p.adv.n,.msl n M.length 1 0 M.length,.int .i64 p.rounds]) rfl (lu g0) ?_;have z0:∀c,only 0 c 0=some c:=λc=>fF;refine wnY (aI @PE @z0) ?_;refine eE ?_;refine dE ev0 ev0 q1 (aS (af (Dat.snap (j9 _)) ai)) ?_;refine iS ⟨lu g0,?_⟩;have zz:=aI @PE @hix;repeat' (first|apply a_n|refine zO ?_|refine nvY ?_|apply gL|fail)
  refine ml (b:=n) (n:=M.length) (off:=j) (cs:=M.map dt) (vs:=[dt l]) rfl ev0 ev0 g3 rfl rfl hMl rfl (by omega) ?_;rw[hput];refine wnY and_self ?_;exact⟨j+1,by omega,⟨by omega,by omega,by simp (disch:=omega) only[ab];exact g0,by simp (disch:=omega) only[ab];exact g1,by simp (disch:=omega) only[ab];exact g2,ac⟩,ag0⟩
 refine wnY (zI3 @PE @g0 @g1) ?_;refine gy (af (.int _ _) (af (.int _ _) (af (.int _ _) (af (KY ?_) (af (.int _ _) (af (H9 ?_) (af (.int _ _) ai)))))))
 ·exact Row.box 2 L.length _ (by rw[ab (by omega)];exact g2) hcC
 ·exact Row.box1 (by rw[ab (by omega)];exact g3) hMl
theorem G4(n:Int)(vs:List VwV)(v:VwV)(hl:vs.length<=100000)(H:Hp)(nx bb mb:Nat)(VS:AV)(hB:Bd H bb mb n vs VS)(hbb:bb<nx)(hmb:mb<nx)(hne:mb≠bb)(hr:∀b,bk VS=some b->b<nx/\b≠bb/\b≠mb):
    Abs.Fn Tryz.prog 83 [.ptr bb 3 0,dD v] H nx λr H' nx'=>r=.int .i64 ((kq vs v).idxOf v:Nat)/\nx<nx'/\∃VS',Bd H' bb mb n (kq vs v) VS'/\(∀b,bk VS'=some b->bk VS=some b\/(nx<=b/\b<nx'))/\∀y,y<nx->y≠bb->y≠mb->bk VS≠some y->H' y=H y:=by
 refine fO Qr ?_;simp only[b83,av];obtain⟨hb,hrow,hm⟩:=hB;obtain⟨o1,o2⟩:=hrow.one;have hmf:=Ld v vs;have hlen:=hrow.lenS (uE vs) (by omega);have hkf:oT (.st [.int,.int,.int,.int,.int,.int,.int,.int]) (dD v)=true:=rfl;have hcl:=uE vs;unfold dD at hmf hkf |-;rw[PC.2.2.2.2.2.1] at hmf hkf |-;refine wnY @PE ?_;have w:∀cs y,y<nx->ap H nx cs y=H y:=λcs y hy=>ab (by omega);refine iL _ rfl (λ_ _ h=>h) ?_;have zz:=aI @PE (aI @SV3 @hb);repeat' (first|apply a_n|refine zO ?_|refine nvY ?_|apply gL|fail)
 by_cases hv:v∈vs
 ·rw[if_pos hv] at hmf;have hi:=List.idxOf_lt_length_of_mem hv;have hav:kq vs v=vs:=by unfold kq;rw[if_pos hv]
  rw[hav];refine fC (b:=mb) ev0 ((w _ mb hmb).trans hm) ev0 hkf hmf ?_;rw[show mget (AV.int .i64 0) true (some (vs.idxOf v)) (wo vs.length)=.tup [(wo vs.length).getD (vs.idxOf v) .undef,.bool true] from rfl,GP hi];refine wnY @PE ?_;exact⟨rfl,by omega,VS,⟨(w _ bb hbb).trans hb,hrow.same λb h=>w _ b (hr b h).1,(w _ mb hmb).trans hm⟩,λb h=>.inl h,λy hy _ _ _=>w _ y hy⟩
 ·rw[if_neg hv] at hmf;have hav:kq vs v=vs++[v]:=by unfold kq;rw[if_neg hv]
  have hio:(vs++[v]).idxOf v=vs.length:=by rw[List.idxOf_append,if_neg hv];simp
  rw[hav,hio];refine fC (b:=mb) ev0 ((w _ mb hmb).trans hm) ev0 hkf hmf ?_;rw[show mget (AV.int .i64 0) true none (wo vs.length)=.tup [.int .i64 0,.bool false] from rfl];refine wnY (zI6 @PE @SV3 @hb @hlen @o1 @o2) ?_;refine iL _ rfl (λ_ _ h=>h) ?_;clear zz;have zz:=aI @PE (aI @SV3 @hb);repeat' (first|apply a_n|refine zO ?_|refine nvY ?_|apply gL|fail)
  refine l7 (b:=mb) ev0 ((w _ mb hmb).trans hm) ev0 ev0 hkf hmf ?_;refine wnY (zI5 @PE @SV3 @hb @o1 @o2) ?_;refine ef (k:=1) (xv:=.msl (nx+1) 8 8 0 1) (new:=[.int .i64 v.proc,.int .i64 v.round,.int .i64 v.input,.int .i64 v.h0,.int .i64 v.h1,.int .i64 v.h2,.int .i64 v.h3,.int .i64 v.h4]) rfl ev0 (hrow.same λb h=>by have:=hr b h;simp (disch:=omega) only[ab]) ev0 (cP rfl) rfl rfl (by omega) (by omega) (by omega) ?_;rintro VS' H' nx' r1 r2 r3 r4 r5;obtain⟨p1,p2⟩:=r1.one;have nbb:bk VS≠some bb:=λh=>(hr bb h).2.1 rfl;have nmb:bk VS≠some mb:=λh=>(hr mb h).2.2 rfl
  have hb':H' bb=some [.int .i64 n,VS,.mp mb]:=by
   rw[r4 bb (by omega) nbb];simp (disch:=omega) only[ab];exact hb
  have hm':H' mb=some [.omap ((vs++[v]).map dD) (wo (vs++[v]).length)]:=by
   rw[r4 mb (by omega) nmb];simp (disch:=omega) only[ab,ac];rw[du,cm,List.length_singleton,Eo];rfl
  refine wnY (zI5 @PE @SV3 @hb' @p1 @p2) ?_
  have hVS:∀b,bk VS'=some b->bk VS=some b\/(nx<=b/\b<nx'):=λb h=>by
   rcases r5 b h with h|h
   ·exact .inl h
   ·omega
  have hVb:∀b,bk VS'=some b->b≠bb:=λb h=>by
   rcases hVS b h with h|h
   ·exact(hr b h).2.1
   ·omega
  refine⟨rfl,by omega,VS',⟨ac,?_,by rw[ab hne];exact hm'⟩,hVS,λy hy h1 h2 h3=>?_⟩
  ·rw[jp,uz];exact r1.same λb h=>ab (hVb b h)
  ·rw[ab h1,r4 y (by omega) h3];simp (disch:=omega) only[ab]
theorem w9:pU 84 [] (.agg [.int .i64 (-1),.int .i64 (-1),.int .i64 (-1),.int .i64 (-1),.int .i64 (-1)]):=by
 refine pO P2 ?_;simp only[b84,av];refine wnZ and_self ?_;refine br (X:=Nat) (λk=>[(0,.ptr 0 5 0),(1,.ptr 1 5 0),(3,.int .i64 k)]) (λk H nx=>k<=5/\H 0=some [.int .i64 0,.int .i64 0,.int .i64 0,.int .i64 0,.int .i64 0]/\H 1=some ((hk (λ_=>-1) k).map (AV.int .i64))) (λk=>5-k) 0 ⟨bA _,rfl,rfl⟩ (by simp (disch:=omega) only[agr,ZG,reduceEqDiff,↓reduceIte,SL]) ?_;rintro k H nx ⟨k1,g0,g1⟩;by_cases hk5:k<5
 rotate_left
 ·obtain rfl:k=5:=by omega
  rw[show(hk (λ_=>-1) 5).map (AV.int .i64)=[.int .i64 (-1),.int .i64 (-1),.int .i64 (-1),.int .i64 (-1),.int .i64 (-1)] from rfl] at g1;refine wnZ (aI @g0 @g1) ?_;exact(Dat.agg (DatL.cons .int (DatL.cons .int (DatL.cons .int (DatL.cons .int (DatL.cons .int DatL.nil)))))) _
 have hl:((hk (λ_=>-1) k).map (AV.int .i64)).length=5:=by rw[bC,pk]
 have hp:bw ((hk (λ_=>-1) k).map (AV.int .i64)) k [.int .i64 (-1)]=(hk (λ_=>-1) (k+1)).map (AV.int .i64):=by
  rw[ga (by omega),jv,<-yX hk5]
 generalize (hk (λ_=>-1) k).map (AV.int .i64)=L at *;refine wnZ (zI3 @IX @g0 @g1) ?_;exact⟨k+1,by omega,⟨by omega,g0,by rw[ac,hp]⟩,ag0⟩
theorem xV(p:PrbV)(W:List (List RndV)):pU 46 [cT p,dU W] (.func 82 [.iptr [.int .i64 p.task.n,.int .i64 p.task.ins,.int .i64 p.task.outs,cI p.task.cases,.int .i64 p.adv.n,bj p.adv.states,.int .i64 p.rounds] 0,.iptr [dU W] 0]):=by
 refine pO Px ?_;simp only[b46,av];unfold cT;rw[PC.2.2.2.2.1];refine wnZ @PE ?_;exact iz (af (dY rfl rfl (af (.int _ _) (af (.int _ _) (af (.int _ _) (af (Dat.snap (jd _)) (af (.int _ _) (af (Dat.snap (gf _)) (af (.int _ _) ai)))))))) (af (dY rfl rfl (af (Dat.snap (vH _)) ai)) ai))
theorem K0(p:PrbV)(W:List (List RndV))(hW:W.length<=100000)(hC:p.task.cases.length<=100000){y:Nat}{H:Hp}{nx:Nat}(I:List (Nat×List RndV)->Hp->Nat->Prop)
    (rnd:∀D c w H n,I D H n->c<p.task.cases.length->w∈W->(∃R,D++(c,w)::R=kY p.task.cases.length W)->Yl Tryz.prog y [.int .i64 c,bV w] H n λr H' n'=>r=.bool true/\I (D++[(c,w)]) H' n')
    (h0:I [] H nx):
    Abs.Fn Tryz.prog 82 [.yld y,.iptr [.int .i64 p.task.n,.int .i64 p.task.ins,.int .i64 p.task.outs,cI p.task.cases,.int .i64 p.adv.n,bj p.adv.states,.int .i64 p.rounds] 0,.iptr [dU W] 0] H nx λ_ H' nx'=>I (kY p.task.cases.length W) H' nx':=by
 refine fO Qt ?_;simp only[b82,av];generalize p.task.cases=L at *;refine wnY @PE ?_;refine br (X:=Nat) (λc=>[(0,.yld y),(2,.iptr [dU W] 0),(10,.int .i64 L.length),(11,.int .i64 c)]) (λc H n=>c<=L.length/\I (kY c W) H n) (λc=>L.length-c) 0 ⟨bA _,h0⟩ ag0 ?_;clear h0;rintro c H1 n1 ⟨c1,c2⟩;by_cases hc:c<L.length
 rotate_left
 ·obtain rfl:c=L.length:=by omega
  refine wnY @PE ?_;exact c2
 have hs:=nG c W
 have hpre:∃R,kY (c+1) W++R=kY L.length W:=by
  obtain⟨R,h⟩:=Dd W (c+1) (L.length-(c+1));exact⟨R,by rw[h];congr 1;omega⟩
 rw[hs] at hpre;refine wnY @PE ?_;refine br (X:=Nat) (λk=>[(0,.yld y),(2,.iptr [dU W] 0),(4,.int .i64 c),(10,.int .i64 L.length),(11,.int .i64 c),(14,dU W),(15,.int .i64 W.length),(16,.int .i64 k)]) (λk H n=>k<=W.length/\I (kY c W++(W.take k).map λw=>(c,w)) H n) (λk=>W.length-k) 0 ⟨bA _,by rw[List.take_zero,List.map_nil,gH];exact c2⟩ ag0 ?_;clear c2;rintro k H2 n2 ⟨k1,k2⟩;by_cases hk:k<W.length
 rotate_left
 ·rw[iW (by omega),<-hs] at k2;refine wnY @PE ?_;exact⟨c+1,by omega,⟨by omega,k2⟩,ag0⟩
 have ix:=KM hk
 have hnx:kY c W++(W.take (k+1)).map (λw=>(c,w))=(kY c W++(W.take k).map λw=>(c,w))++[(c,W.getD k default)]:=by
  rw[bO hk,du,<-gK];rfl
 have hex:∃R,(kY c W++(W.take k).map λw=>(c,w))++(c,W.getD k default)::R=kY L.length W:=by
  obtain⟨R,hR⟩:=hpre;refine⟨(W.drop (k+1)).map (λw=>(c,w))++R,?_⟩;rw[<-hR,show(c,W.getD k default)::((W.drop (k+1)).map (λw=>(c,w))++R)=[(c,W.getD k default)]++((W.drop (k+1)).map (λw=>(c,w))++R) from rfl,<-gK,<-hnx,<-gK,gK (kY c W),<-du,wk]
 have hr:=rnd _ c (W.getD k default) H2 n2 k2 hc (au hk) hex;rw[<-hnx] at hr;generalize W.getD k default=w at *;refine wnY (aI @PE @ix) ?_;refine qD ev0 ev0 (Yl.mono hr ?_);rintro r H3 n3 ⟨rfl,q⟩;refine wnY @PE ?_;exact⟨k+1,by omega,⟨by omega,q⟩,ag0⟩
theorem HU(N:Nat)(hN:N<=5)(inp:List Int)(w:List RndV)(vs:List VwV)(hinp:inp.length=N)(hw:w.length<=6)(hwr:∀r∈w,r.n=N/\∀q,q<5->0<=r.hs.getD q 0/\r.hs.getD q 0<=9223372036854775807)(hl:vs.length<=90000)(H0:Hp)(nx bb mb:Nat)(VS0:AV)(hB:Bd H0 bb mb N vs VS0)(hbb:bb<nx)(hmb:mb<nx)(hne:mb≠bb)(hr:∀b,bk VS0=some b->b<nx/\b≠bb/\b≠mb):
    Abs.Fn Tryz.prog 48 [.ptr bb 3 0,aD inp,bV w] H0 nx λr H' nx'=>Row H' 1 r ((plV N inp w vs (w.length+1)).2.map aD)/\nx<nx'/\∃VS',Bd H' bb mb N (plV N inp w vs (w.length+1)).1 VS'/\VB nx nx' bb mb VS0 VS'/\(∀b,bk r=some b->nx<=b/\b<nx'/\bk VS'≠some b)/\Fr H0 H' nx bb mb VS0:=by
 refine fO QY ?_;simp only[b48,av];have g0:=hB.b;have hpl:=me N inp w vs;have hp1:plV N inp w vs 1=(fP (pq inp) N vs,[eW (pq inp) N vs]):=rfl;have hpk:∀k,plV N inp w vs (k+2)=(fP (mD (w.getD k default) (k+1) ((plV N inp w vs (k+1)).2.getD k [])) N (plV N inp w vs (k+1)).1,(plV N inp w vs (k+1)).2++[eW (mD (w.getD k default) (k+1) ((plV N inp w vs (k+1)).2.getD k [])) N (plV N inp w vs (k+1)).1]):=λ_=>rfl;have hf1:∀q:Nat,pq inp q=⟨q,0,inp.getD q 0,-1,-1,-1,-1,-1⟩:=λ_=>rfl;generalize plV N inp w vs=PL at *;generalize pq inp=f at *;refine wnY (aI @SV3 @g0) ?_;refine mN rfl ev0 ev0 (by omega) (by omega) (by omega) (by omega) ?_;rw[bR,gj,Nat.mul_one];refine wnY and_self ?_
 refine br (X:=Nat×AV) (λx=>[(0,.ptr bb 3 0),(1,aD inp),(2,bV w),(7,.msl nx N 1 0 N),(23,.int .i64 N),(24,.int .i64 x.1)]) (λx H n'=>x.1<=N/\nx<n'/\Bd H bb mb N (fP f x.1 vs) x.2/\VB nx n' bb mb VS0 x.2/\bk x.2≠some nx/\H nx=some ((eW f x.1 vs++List.replicate (N-x.1) (0:Int)).map (AV.int .i64))/\Fr H0 H nx bb mb VS0) (λx=>N-x.1) (0,VS0)
  ⟨bA _,by omega,⟨by rw[ab (by omega)];exact hB.b,hB.r.same λb h=>ab (by have:=hr b h;omega),by rw[ab (by omega)];exact hB.m⟩,λb h=>by have:=hr b h;exact⟨by omega,this.2.1,this.2.2,.inl h⟩,λh=>by have:=hr _ h;omega,ac,λy hy _ _ _=>ab (by omega)⟩ ag0 ?_
 rintro⟨q,VS⟩ H n1 ⟨q1,hn1,hBd,hVB,hVn,hA,hFr⟩;dsimp only at q1 hBd hVB hVn hA |-;by_cases hq:q<N
 ·have ixq:cu 1 (aD inp) (.int .i64 (q:Int))=some (.iptr [.int .i64 (inp.getD q 0)] 0):=by
    have:=l9 (l:=inp) (n:=(q:Int)) (by omega) (by omega)
    rwa [bR] at this
  have hVl:(fP f q vs).length<=100000:=by have:=lI f q vs;omega
  have hnI:eW f (q+1) vs=eW f q vs++[(((kq (fP f q vs) (f q)).idxOf (f q):Nat):Int)]:=rfl;have hnV:fP f (q+1) vs=kq (fP f q vs) (f q):=rfl;have hadd:=G4 N (fP f q vs) (f q) hVl H n1 bb mb VS hBd (by omega) (by omega) hne λb h=>⟨(hVB b h).1,(hVB b h).2.1,(hVB b h).2.2.1⟩
  have hpt:=AW f vs q N hq (((kq (fP f q vs) (f q)).idxOf (f q):Nat):Int);rw[<-hnI] at hpt;rw[<-hnV] at hadd hpt
  have hix:cu 1 (.msl nx N 1 0 N) (.int .i64 (q:Int))=some (.ptr nx N q):=by
   rw[gu,if_pos ⟨by omega,by omega⟩,bR,cp,Nat.mul_one]
  have hAl:((eW f q vs++List.replicate (N-q) (0:Int)).map (AV.int .i64)).length=N:=by rw[bC,cm,iM,List.length_replicate];omega
  rw[hf1 q] at hadd hpt;unfold dD at hadd;rw[PC.2.2.2.2.2.1] at hadd;generalize inp.getD q 0=x at *;refine wnY and_self ?_;refine iL bK rfl (λy cs h=>by cases h) ?_;refine wnY @ixq ?_;refine eE ?_
  repeat' (first|apply a_n|refine zO ?_|refine cY ?_ (hp:=w9)|fail)
  refine⟨λy cs h=>(by cases h),?_⟩
  repeat' (first|apply a_n|refine zO ?_|refine nvY ?_|apply gL|fail)
  refine aX ev0 ev0 hadd ?_;rintro r H2 n2 ⟨rfl,k1,VS2,hBd2,hV2,hF2⟩;have zz:=@hix;repeat' (first|apply a_n|refine zO ?_|refine nvY ?_|apply gL|fail)
  have hA2:=(hF2 nx (by omega) (by omega) (by omega) hVn).trans hA;refine ml (b:=nx) (n:=N) (off:=q) (vs:=[.int .i64 _]) rfl ev0 ev0 hA2 rfl rfl hAl rfl (by omega) ?_;rw[hpt];refine wnY and_self ?_
  have hVB2:VB nx n2 bb mb VS0 VS2:=λb h=>by
   rcases hV2 b h with h|h
   ·have:=hVB b h;exact⟨by omega,this.2.1,this.2.2.1,this.2.2.2⟩
   ·exact⟨by omega,by omega,by omega,.inr (by omega)⟩
  have hVn2:bk VS2≠some nx:=λh=>by
   rcases hV2 nx h with h|h
   ·exact hVn h
   ·omega
  refine⟨(q+1,VS2),by dsimp only;omega,⟨by dsimp only;omega,by omega,⟨by rw[ab (by omega)];exact hBd2.b,hBd2.r.same λb h=>ab λe=>hVn2 (e▸h),by rw[ab (by omega)];exact hBd2.m⟩,hVB2,hVn2,ac,λy hy h1 h2 h3=>?_⟩,ag0⟩
  rw [ab (by omega),hF2 y (by omega) h1 h2 (fun h=>by
   have:=hVB y h;rcases this.2.2.2 with h|h
   ·exact h3 h
   ·omega)]
  exact hFr y hy h1 h2 h3
 obtain rfl:q=N:=by omega
 rw[Nat.sub_self,List.replicate_zero,gH] at hA;refine wnY @PE ?_;have hrA:(eW f q vs).length=q:=iM f q vs;have hAs:Snap (only nx ((eW f q vs).map (AV.int .i64))) (.msl nx q 1 0 q) (aD (eW f q vs)):=Row.snapI (Row.box1 fF (by rw[bC,hrA]));obtain⟨H5,hfz,hr5,hs5⟩:=fp (H:=ap H n1 [.msl nx q 1 0 q]) (sz:=1) (t:=.msl n1 1 1 0 1) (cs:=[]) (x:=.msl nx q 1 0 q) (x':=aD (eW f q vs)) (nb:=nx) (Row.box1 ac rfl) (by rw[ab (by omega)];exact hA) hAs (λe=>by cases e;omega)
 have h5:∀y,y≠nx->y<n1->H5 y=H y:=λy h1 h2=>by
  rw[hs5 y h1 (λe=>by cases e;omega),ab (by omega)]
 refine sB (nx:=n1+1) (X:=Nat×AV×AV) (λx=>[(0,.ptr bb 3 0),(7,aD ((PL (x.1+1)).2.getD x.1 [])),(9,x.2.2),(42,bV w),(43,.int .i64 w.length),(44,.int .i64 x.1)]) (λx H n'=>x.1<=w.length/\nx<n'/\Bd H bb mb q (PL (x.1+1)).1 x.2.1/\VB nx n' bb mb VS0 x.2.1/\Row H 1 x.2.2 ((PL (x.1+1)).2.map aD)/\(∀b,bk x.2.2=some b->nx<=b/\b<n'/\bk x.2.1≠some b)/\Fr H0 H nx bb mb VS0) (λx=>w.length-x.1) (0,VS,.msl n1 1 1 0 1)
  ⟨_,H5,hfz,⟨bA _,by omega,?_,fun b h=>by have:=hVB b h; exact ⟨by omega,this.2.1,this.2.2.1,this.2.2.2⟩,by rw [hp1]; exact hr5,fun b h=>by
   have e:b=n1:=by cases h;rfl
   refine⟨by omega,by omega,λh'=>?_⟩;have:=(hVB b h').1;omega,λy hy h1 h2 h3=>by rw[h5 y (by omega) (by omega)];exact hFr y hy h1 h2 h3⟩,?_⟩ ?_
 ·dsimp only;rw[hp1];exact⟨by rw[h5 bb (by omega) (by omega)];exact hBd.b,hBd.r.same λb h=>h5 b (λe=>hVn (e▸h)) (hVB b h).1,by rw[h5 mb (by omega) (by omega)];exact hBd.m⟩
 ·dsimp only;rw[hp1]
  exact ⟨.inl ev0,.inr (by
   have e:∀v,v=.msl nx q 1 0 q->Snap (only nx ((eW f q vs).map (AV.int .i64))) v (aD (eW f q vs)):=λv h=>h▸hAs;exact e _ ev0),.inl ev0,.inl ev0,.inl ev0,.inl (have zz:=@Int.natCast_zero;evZ),trivial⟩
 clear hA hFr hVn hVB hBd hfz hr5 hs5 h5 hAs;rintro⟨k,VS,out⟩ H n1 ⟨k1,hn1,hBd,hVB,hrow,hrb,hFr⟩;dsimp only at k1 hBd hVB hrow hrb |-;by_cases hk:k<w.length
 rotate_left
 ·obtain rfl:k=w.length:=by omega
  refine wnY @PE ?_;exact⟨hrow,hn1,VS,hBd,hVB,hrb,hFr⟩
 have ixw:=ixR hk;obtain⟨hrn,hrh⟩:=hwr _ (au hk);obtain⟨pl1,pl2,pl3⟩:=hpl (k+1);have hPk:=hpk k;have hnl:((PL (k+1)).2.getD k []).length=q:=pl2 _ (iA (by omega));have hsn:∀p,mD (w.getD k default) (k+1) ((PL (k+1)).2.getD k []) p=⟨p,(k+1:Nat),0,hrd ((w.getD k default).hs.getD p 0) ((PL (k+1)).2.getD k []) 0,hrd ((w.getD k default).hs.getD p 0) ((PL (k+1)).2.getD k []) 1,hrd ((w.getD k default).hs.getD p 0) ((PL (k+1)).2.getD k []) 2,hrd ((w.getD k default).hs.getD p 0) ((PL (k+1)).2.getD k []) 3,hrd ((w.getD k default).hs.getD p 0) ((PL (k+1)).2.getD k []) 4⟩:=λ_=>rfl;have hcell:=λp hp=>GH (w.getD k default) (q:=p) hp
 have hVl0:(PL (k+1)).1.length<=99000:=by
  have:(k+1)*q<=7*5:=Nat.mul_le_mul (by omega) hN;omega
 generalize hg:mD (w.getD k default) (k+1) ((PL (k+1)).2.getD k [])=g at *;generalize hnow:(PL (k+1)).2.getD k []=now at *;generalize (PL (k+1)).2=rows at *;generalize (PL (k+1)).1=V at *;rw[PC.1] at ixw;generalize w.getD k default=r at *;obtain⟨o1,o2⟩:=hrow.one;have gB:=hBd.b;refine wnY (zI4 @PE @ixw @SV3 @gB) ?_;refine mN rfl ev0 ev0 (by omega) (by omega) (by omega) (by omega) ?_;rw[bR,gj,Nat.mul_one];refine wnY and_self ?_;generalize hX:ap (ap (ap H n1 _) n1 _) (n1+1) _=H1;have w1:∀y,y<n1->H1 y=H y:=λy hy=>by rw[<-hX];simp (disch:=omega) only[ab]
 have wC:H1 n1=some [.int .i64 r.n,.int .i64 r.h0,.int .i64 r.h1,.int .i64 r.h2,.int .i64 r.h3,.int .i64 r.h4,.int .i64 r.f]:=by rw[<-hX];simp (disch:=omega) only[ab,ac];rfl
 have wD:H1 (n1+1)=some ((List.replicate q (0:Int)).map (AV.int .i64)):=by rw[<-hX,ac]
 clear hX;have nO:∀b,bk out=some b->b<n1:=λb h=>(hrb b h).2.1
 refine br (X:=Nat×AV) (λx=>[(0,.ptr bb 3 0),(7,aD now),(9,out),(10,.int .i64 k),(11,.ptr n1 7 0),(12,.msl (n1+1) q 1 0 q),(42,bV w),(43,.int .i64 w.length),(44,.int .i64 k),(55,.int .i64 q),(56,.int .i64 x.1)]) (λx H' n'=>x.1<=q/\n1+1<n'/\Bd H' bb mb q (fP g x.1 V) x.2/\VB nx n' bb mb VS0 x.2/\(∀b,bk x.2=some b->b≠n1/\b≠n1+1/\bk out≠some b)/\H' n1=some [.int .i64 r.n,.int .i64 r.h0,.int .i64 r.h1,.int .i64 r.h2,.int .i64 r.h3,.int .i64 r.h4,.int .i64 r.f]/\H' (n1+1)=some ((eW g x.1 V++List.replicate (q-x.1) (0:Int)).map (AV.int .i64))/\(∀b,bk out=some b->H' b=H b)/\Fr H0 H' nx bb mb VS0) (λx=>q-x.1) (0,VS)
  ⟨bA _,by omega,⟨(w1 bb (by omega)).trans hBd.b,hBd.r.same λb h=>w1 b (hVB b h).1,(w1 mb (by omega)).trans hBd.m⟩,λb h=>by have:=hVB b h;exact⟨by omega,this.2.1,this.2.2.1,this.2.2.2⟩,λb h=>by have:=hVB b h;exact⟨by omega,by omega,λh'=>(hrb b h').2.2 h⟩,wC,wD,λb h=>w1 b (nO b h),λy hy h1 h2 h3=>by rw[w1 y (by omega)];exact hFr y hy h1 h2 h3⟩ (by simp (disch:=omega) only[agr,ZG,reduceEqDiff,↓reduceIte,SL]) ?_
 clear wC wD w1 hFr hVB hBd gB;rintro⟨p,VS⟩ H1 n2 ⟨p1,hn2,hBd,hVB,hVx,wC,wD,hO,hFr⟩;dsimp only at p1 hBd hVB hVx wD |-;by_cases hp:p<q
 rotate_left
 ·obtain rfl:p=q:=by omega
  rw[Nat.sub_self,List.replicate_zero,gH] at wD;have hrl:(rows.map aD).length<=7:=by rw[bC];omega
  have hrowH:Row H1 1 out (rows.map aD):=hrow.same λb h=>hO b h;refine wnY (zI3 @PE @o1 @o2) ?_;refine ef (k:=1) (sv:=out) (cs:=rows.map aD) (new:=[.msl (n1+1) p 1 0 p]) rfl ev0 (hrowH.same λb h=>ab (by have:=nO b h;omega)) ev0 (cP rfl) rfl rfl ig (by omega) (by omega) ?_;rintro out2 H3 n3 r1 r2 r3 r4 r5;have fx:∀y,y<n2->bk out≠some y->H3 y=H1 y:=λy h1 h2=>by rw[r4 y (by omega) h2,ab (by omega)]
  have hrI:(eW g p V).length=p:=iM g p V;have hDs:Snap (only (n1+1) ((eW g p V).map (AV.int .i64))) (.msl (n1+1) p 1 0 p) (aD (eW g p V)):=Row.snapI (Row.box1 fF (by rw[bC,hrI]));have nOD:bk out≠some (n1+1):=λh=>by have:=nO _ h;omega
  have ho2:∀b,bk out2=some b->bk out=some b\/(n2<=b/\b<n3):=λb h=>by
   rcases r5 b h with h|h
   ·exact .inl h
   ·omega
  have nO2:bk out2≠some (n1+1):=λh=>by
   rcases ho2 _ h with h|h
   ·exact nOD h
   ·omega
  obtain⟨H5,hfz,hr5,hs5⟩:=fp (x':=aD (eW g p V)) r1 ((fx (n1+1) (by omega) nOD).trans wD) hDs nO2;have hkp:H5=H5:=rfl
  have h5:∀y,y<n2->y≠n1+1->bk out≠some y->H5 y=H1 y:=λy h1 h2 h3=>by
   rw [hs5 y h2 (fun h=>by
    rcases ho2 _ h with h|h
    ·exact h3 h
    ·omega)]
   exact fx y h1 h3
  refine wnY and_self ?_
  have hgl:((rows++[eW g p V]).getD (k+1) [])=eW g p V:=by
   rw[li,iG (by omega),pl1,Nat.sub_self];rfl
  have nbo:bk out≠some bb:=λh=>by have:=(hrb _ h).1;omega
  have nmo:bk out≠some mb:=λh=>by have:=(hrb _ h).1;omega
  refine⟨(k+1,VS,out2),by dsimp only;omega,_,H5,hfz,⟨by dsimp only;omega,by omega,?_,λb h=>by have:=hVB b h;exact⟨by omega,this.2.1,this.2.2.1,this.2.2.2⟩,?_,λb h=>?_,λy hy h1 h2 h3=>?_⟩,?_⟩
  ·dsimp only;rw[hPk];exact⟨by rw[h5 bb (by omega) (by omega) nbo];exact hBd.b,hBd.r.same λb h=>h5 b (hVB b h).1 (hVx b h).2.1 (hVx b h).2.2,by rw[h5 mb (by omega) (by omega) nmo];exact hBd.m⟩
  ·dsimp only;rw[hPk,du];exact hr5
  ·rcases ho2 b h with h|h
   ·have:=hrb b h;exact⟨this.1,by omega,λh'=>(hVx b h').2.2 h⟩
   ·exact⟨by omega,by omega,λh'=>by have:=(hVB b h').1;omega⟩
  ·rw[h5 y (by omega) (by omega) (λh=>by have:=(hrb _ h).1;omega)];exact hFr y hy h1 h2 h3
  ·dsimp only;rw[hPk];dsimp only;rw[hgl]
   exact ⟨.inl ev0,.inr (by
    have e:∀v,v=.msl (n1+1) p 1 0 p->Snap (only (n1+1) ((eW g p V).map (AV.int .i64))) v (aD (eW g p V)):=λv h=>h▸hDs;exact e _ ev0),.inl ev0,.inl ev0,.inl ev0,.inl (have zz:=aI @Int.natCast_add @Int.natCast_one;evZ),trivial⟩
 have hVl:(fP g p V).length<=100000:=by have:=lI g p V;omega
 have hnI:eW g (p+1) V=eW g p V++[(((kq (fP g p V) (g p)).idxOf (g p):Nat):Int)]:=rfl;have hnV:fP g (p+1) V=kq (fP g p V) (g p):=rfl;have hpt:=AW g V p q hp (((kq (fP g p V) (g p)).idxOf (g p):Nat):Int);rw[<-hnI] at hpt;have hDl:((eW g p V++List.replicate (q-p) (0:Int)).map (AV.int .i64)).length=q:=by rw[bC,cm,iM,List.length_replicate];omega
 have hix:cu 1 (.msl (n1+1) q 1 0 q) (.int .i64 (p:Int))=some (.ptr (n1+1) q p):=by
  rw[gu,if_pos ⟨by omega,by omega⟩,bR,cp,Nat.mul_one]
 have hcp:=hcell p (by omega);obtain⟨x0,x1⟩:=hrh p (by omega);have hsp:=hsn p;generalize r.hs.getD p 0=x at *;generalize hG:hrd x now=G at *;have hG1:∀i,G i=if i<now.length/\hasFl x i=true then now.getD i 0 else-1:=λi=>by rw[<-hG];rfl
 have hGz:∀i,q<=i->G i=-1:=λi hi=>by rw[hG1,if_neg λh=>by omega]
 have hma:=KR hGz;have hgc:(g p).cs=vwc p (k+1:Nat) 0 (hm G q):=by rw[hma,F9,hsp];rfl
 have zz:=@PE;repeat' (first|refine zW ?_|apply a_n|refine zO ?_|refine vY ?_|refine cY ?_ (hp:=w9)|refine alY ?_|refine stY ?_|(refine zGY ?_ ?_<;>(intro _hg;try (exfalso;omega)))|fail)
 generalize hX:ap (ap H1 n2 _) n2 _=H2;have w2:∀y,y≠n2->H2 y=H1 y:=λy hy=>by rw[<-hX];simp (disch:=omega) only[ab]
 have wE:H2 n2=some (vwc p (k+1:Nat) 0 (hm G 0)):=by rw[<-hX,ac];rfl
 clear zz;clear hX;refine br (X:=Nat) (λi=>[(0,.ptr bb 3 0),(7,aD now),(9,out),(10,.int .i64 k),(11,.ptr n1 7 0),(12,.msl (n1+1) q 1 0 q),(13,.int .i64 p),(14,.ptr n2 8 0),(42,bV w),(43,.int .i64 w.length),(44,.int .i64 k),(55,.int .i64 q),(56,.int .i64 p),(64,aD now),(65,.int .i64 now.length),(66,.int .i64 i)]) (λi H' n'=>i<=now.length/\n'=n2+1/\H' n2=some (vwc p (k+1:Nat) 0 (hm G i))/\∀y,y≠n2->H' y=H1 y) (λi=>now.length-i) 0 ⟨bA _,rfl,wE,w2⟩ (by simp (disch:=omega) only[agr,ZG,reduceEqDiff,↓reduceIte,SL]) ?_;clear wE w2;rintro i H2 n3 ⟨i1,rfl,wE,w2⟩;by_cases hi:i<now.length
 ·have ixn:cu 1 (aD now) (.int .i64 (i:Int))=some (.iptr [.int .i64 (now.getD i 0)] 0):=by
    have:=l9 (l:=now) (n:=(i:Int)) (by omega) (by omega)
    rwa [bR] at this
  have gC:=(w2 n1 (by omega)).trans wC;have hsh:=λtb tf=>rh tb tf x i;have ha1:=λtb tf=>pZ tb tf (kw x i);have hbit:=AQ (f:=x) (p:=i) x0 (by omega);have hGi:=hG1 i;have hlv:=pI p (k+1:Nat) 0 (Hl G i);have hpv:=tL (a:=p) (b:=(k+1:Nat)) (c:=0) (Hl G i) (show i<5 by omega) (G i);rw[LC (by omega)] at hpv;generalize kw x i=sn at *;generalize qk sn=an at *;cases hb:hasFl x i with
  |false=>
   rw[hb] at hGi hbit;rw[if_neg λh=>by cases h.2] at hGi;rw[<-HE hGi] at wE;refine wnY (zI7 @IX @ixn @gC @hcp @hsh @ha1 @hbit) ?_;exact⟨i+1,by omega,⟨by omega,rfl,wE,w2⟩,ag0⟩
  |true=>
   rw[hb] at hGi hbit;rw[if_pos ⟨hi,rfl⟩] at hGi;rw[<-hGi] at ixn;generalize vwc p (k+1:Nat) 0 (hm G i)=L at *;refine wnY (zI7 @IX @ixn @gC @hcp @hsh @ha1 @hbit) ?_;refine ml (b:=n2) (n:=8) (off:=3+i) (cs:=L) (vs:=[.int .i64 (G i)]) rfl ev0 ev0 wE rfl rfl hlv rfl (by omega) ?_;rw[hpv];refine wnY and_self ?_;exact⟨i+1,by omega,⟨by omega,rfl,ac,λy hy=>by rw[ab hy];exact w2 y hy⟩,ag0⟩
 obtain rfl:i=now.length:=by omega
 rw[hnl,<-hgc] at wE;have hBd2:Bd H2 bb mb q (fP g p V) VS:=⟨by rw[w2 bb (by omega)];exact hBd.b,hBd.r.same λb h=>w2 b (by have:=(hVB b h).1;omega),by rw[w2 mb (by omega)];exact hBd.m⟩
 have hadd:=G4 q (fP g p V) (g p) hVl H2 (n2+1) bb mb VS hBd2 (by omega) (by omega) hne λb h=>by have:=hVB b h;exact⟨by omega,this.2.1,this.2.2.1⟩
 rw[<-hnV] at hadd hpt;unfold dD at hadd;rw[PC.2.2.2.2.2.1] at hadd wE;generalize g p=v at *;refine wnY @wE ?_;refine aX ev0 ev0 hadd ?_;rintro _ H3 n3 ⟨rfl,k1,VS2,hBd3,hV2,hF2⟩;refine wnY @hix ?_;have nVD:bk VS≠some (n1+1):=λh=>(hVx _ h).2.1 rfl;have nVC:bk VS≠some n1:=λh=>(hVx _ h).1 rfl;have wD3:=(hF2 (n1+1) (by omega) (by omega) (by omega) nVD).trans ((w2 (n1+1) (by omega)).trans wD);refine ml (b:=n1+1) (n:=q) (off:=p) (vs:=[.int .i64 _]) rfl ev0 ev0 wD3 rfl rfl hDl rfl (by omega) ?_;rw[hpt];refine wnY and_self ?_
 have hVx2:∀b,bk VS2=some b->b≠n1/\b≠n1+1/\bk out≠some b:=λb h=>by
  rcases hV2 b h with h|h
  ·exact hVx b h
  ·exact⟨by omega,by omega,λh'=>by have:=nO b h';omega⟩
 refine⟨(p+1,VS2),by dsimp only;omega,⟨by dsimp only;omega,by omega,⟨by rw[ab (by omega)];exact hBd3.b,hBd3.r.same λb h=>ab (hVx2 b h).2.1,by rw[ab (by omega)];exact hBd3.m⟩,λb h=>?_,hVx2,?_,ac,λb h=>?_,λy hy h1 h2 h3=>?_⟩,ag0⟩
 ·rcases hV2 b h with h|h
  ·have:=hVB b h;exact⟨by omega,this.2.1,this.2.2.1,this.2.2.2⟩
  ·exact⟨by omega,by omega,by omega,.inr (by omega)⟩
 ·rw[ab (by omega),hF2 n1 (by omega) (by omega) (by omega) nVC,w2 n1 (by omega)];exact wC
 ·have hb1:=hrb b h;rw[ab (by omega),hF2 b (by omega) (by omega) (by omega) (λh'=>(hVx b h').2.2 h),w2 b (by omega)];exact hO b h
 ·rw [ab (by omega),hF2 y (by omega) h1 h2 (fun h=>by
    rcases(hVB y h).2.2.2 with h|h
    ·exact h3 h
    ·omega),w2 y (by omega)]
  exact hFr y hy h1 h2 h3
theorem zh(p:PrbV)(h:OkP p):pU 20 [cT p] (.tup [fZ (bG p),.int .i64 0]):=by
 refine pO QE ?_;simp only[b20,av];obtain⟨hck,ho,hn,r0,r6⟩:=fg h.e0;obtain⟨n1,n5,c1,c2⟩:=dv hck;obtain⟨f1,f2,f3,f4⟩:=oo h.e0 h.num;have hcnt:=Jr p h;have hto:Cz p.adv:=λl hl m hm=>⟨(ho.mv l hl m hm).to0,(ho.mv l hl m hm).to1⟩
 have hnum:=tI hto (by have:=ho.s1;omega) (lim:=4096) (by omega) p.rounds.toNat
 have hnb:kV p.adv p.rounds.toNat 4096<=4096:=by
  have:(bt p.adv p.rounds.toNat 0).length<=60:=f2;omega
 have hwo:=Iz p.adv h.sa ho p.rounds.toNat (by omega) hnb;have hcp:=Ff p h.sh (λe=>by rw[e] at c1;simp at c1) (λe=>by have:=ho.s1;rw[e] at this;simp at this) c2 (Iw h.few) ho.s256 (λl hl=>fA (py hl) ho.m4096);have hex:=xV p (eZ p);have hY:=@K0 p (eZ p) (by omega) (by omega)
 have hwl:∀w∈eZ p,w.length=p.rounds.toNat/\∀r∈w,r.n=p.task.n/\∀q,q<5->0<=r.hs.getD q 0/\r.hs.getD q 0<=9223372036854775807:=λw hw=>by
  refine⟨nR hw,λr hr=>?_⟩;obtain⟨l,hl,m,hm,rfl⟩:=qA hw r hr;have ok:=ho.mv l hl m hm;obtain⟨g1,_,_⟩:=ko ok.r;obtain⟨_,_,g2⟩:=nD g1;refine⟨by rw[ok.n,hn],λq hq=>?_⟩;obtain⟨g3,g4⟩:=g2 q hq;by_cases hqn:m.r.n<=q
  ·rw[g3 hqn];omega
  ·have:=g4 (by omega);have:=yD (n:=m.r.n) (by rw[ok.n];exact ho.n5);omega
 have hN:((p.task.n.toNat:Nat):Int)=p.task.n:=by omega
 have hRn:((p.rounds.toNat:Nat):Int)=p.rounds:=by omega
 rw[hRn] at hwo;change pU 44 [ee p.adv,.int .i64 p.rounds] (.tup [dU (eZ p),.int .i64 0]) at hwo;have hal:=Db p.task.cases.length (eZ p);have hsl:=zg (p:=p) n5 r6;have hss:=Bi p;have hxe:=λc s w=>yq p c s w;have hall:=yR p p.task.cases.length;have hinp:=λc hc=>uM hck (c:=c) hc;have hs00:stD p []=⟨[],[]⟩:=rfl;have hsys:(bG p).cs=[.int .i64 p.task.n,.int .i64 p.task.ins,.int .i64 p.task.outs,cI p.task.cases,.int .i64 p.adv.n,bj p.adv.states,.int .i64 p.rounds,.int .i64 p.task.n,dK (bldS p p.task.cases.length).views,eB (bldS p p.task.cases.length).execs]:=rfl;have d1:=fh p;have d2:=dL p.adv
 have hz:decide (4096 < ((eZ p).length:Int) * (p.task.cases.length:Nat))=false:=bL (by
  have e:((eZ p).length:Int)*(p.task.cases.length:Nat)=((p.task.cases.length*(eZ p).length:Nat):Int):=by rw[Int.natCast_mul,Int.mul_comm]
  omega)
 rw[show fZ (bG p)=.agg (bG p).cs from rfl,hsys];unfold cT at hcnt hcp hex d1 |-;unfold ee at hwo d2;rw[PC.2.2.2.1] at hwo d2;rw[PC.2.2.2.2.1] at hcnt hcp hex d1 |-;generalize eZ p=W at *;refine wnY (aI @PE @hz) ?_;refine pY ?_;refine wnY @PE ?_;refine jh 7 8 rfl rfl ev0 (λc0 cj hy=>?_);refine Abs.Fn.mono (hY (I:=λD H n=>∃VS EX,8<=n/\H 0=some [.int .i64 p.task.n,.int .i64 p.task.ins,.int .i64 p.task.outs,cI p.task.cases,.int .i64 p.adv.n,bj p.adv.states,.int .i64 p.rounds]/\H 1=some [.int .i64 0,.int .i64 0,.int .i64 0,.esl,.int .i64 0,.esl,.int .i64 0,.int .i64 0,.esl,.esl]/\H 2=some [.int .i64 0]/\H 3=some [.int .i64 p.task.n,.int .i64 p.task.ins,.int .i64 p.task.outs,cI p.task.cases,.int .i64 p.adv.n,bj p.adv.states,.int .i64 p.rounds,.int .i64 0,.esl,EX]/\H 6=some [.ptr 5 3 0]/\H 7=some [c0]/\Bd H 5 4 p.task.n (stD p D).views VS/\Row H 3 EX (cL il (stD p D).execs)/\(∀b,bk EX=some b->8<=b/\b<n)/\∀b,bk VS=some b->8<=b/\b<n/\bk EX≠some b) ?_ ?_) ?_
 rotate_left
 ·rw[hs00];exact⟨.esl,.esl,by omega,by simp (disch:=omega) only[ab,ac],by simp (disch:=omega) only[ab,ac],by simp (disch:=omega) only[ab,ac],by simp (disch:=omega) only[ab,ac];rfl,by simp (disch:=omega) only[ab,ac];rfl,by simp (disch:=omega) only[ab,ac],⟨by simp (disch:=omega) only[ab,ac],.nil,by simp (disch:=omega) only[ab,ac];rfl⟩,.nil,λb h=>(by cases h),λb h=>(by cases h)⟩
 ·rintro _ H1 n1 ⟨VS,EX,i1,g0,g1,g2,g3,g6,g7,hBd,hrow,hE,hV⟩;refine .inl ⟨g7,?_⟩;clear hy;rw[hall] at hBd hrow;have w:∀x,x≠7->cC H1 7 x=H1 x:=λx b=>cA b;have gB:=hBd.b;generalize hH2:cC H1 7=H2 at *;have k0:=(w 0 (by omega)).trans g0;have k1:=(w 1 (by omega)).trans g1;have k2:=(w 2 (by omega)).trans g2;have k3:=(w 3 (by omega)).trans g3;have k5:=(w 5 (by omega)).trans gB;have k6:=(w 6 (by omega)).trans g6;obtain⟨o1,o2⟩:=hBd.r.one;obtain⟨o3,o4⟩:=hrow.one;refine wnY (aI @PE (aI @SV3 (fI @k0 @k1 @k2 @k3 @k5 @k6 @o1 @o2 @o3 @o4))) ?_;refine cR (af (gy (af (.int _ _) (af (.int _ _) (af (.int _ _) (af (Dat.snap (jd _)) (af (.int _ _) (af (Dat.snap (gf _)) (af (.int _ _) (af (.int _ _) (af (G0 (hBd.r.same λb h=>?_)) (af (FI (hrow.same λb h=>?_)) ai))))))))))) (af (.int _ _) ai))
  ·have:=hV b h;simp (disch:=omega) only[ab];exact w b (by omega)
  ·have:=hE b h;simp (disch:=omega) only[ab];exact w b (by omega)
 ·rintro D c w H1 n1 ⟨VS,EX,i1,g0,g1,g2,g3,g6,g7,hBd,hrow,hE,hV⟩ hcl hwW ⟨R,hR⟩;refine hy _ _ _ _ g7 rfl ?_;clear hy;have w0:∀x,x≠7->cC H1 7 x=H1 x:=λx b=>cA b;obtain⟨hwl1,hwr⟩:=hwl w hwW;have hcl2:=vD w (by omega)
  have hDl:D.length<p.task.cases.length*W.length:=by
   have:=congrArg List.length hR;rw[cm,d5,hal] at this;omega
  obtain⟨hs1,hs2⟩:=hsl D;have hsD:=hss D c w;rw[hxe] at hsD;have ixc:=Tk.aixS_encCs hcl;have hin:=hinp c hcl;generalize (p.task.cases.getD c default).inp=inp at *;generalize stD p D=B at *;have hpc:=λH0 nx=>HU p.task.n.toNat (by omega) inp w B.views (by omega) (by omega) (λr hr=>by rw[hN];exact hwr r hr) (by omega) H0 nx 5 4 VS;rw[hwl1] at hpc;have hPl:=me p.task.n.toNat inp w B.views (p.rounds.toNat+1);generalize plV p.task.n.toNat inp w B.views (p.rounds.toNat+1)=PL at *;obtain⟨V2,rows⟩:=PL;rw[hN] at hpc;dsimp only at hpc hsD hPl;have hBd2:Bd (cC H1 7) 5 4 p.task.n B.views VS:=⟨(w0 5 (by omega)).trans hBd.b,hBd.r.same λb h=>w0 b (by have:=hV b h;omega),(w0 4 (by omega)).trans hBd.m⟩
  have hrow2:Row (cC H1 7) 3 EX (cL il B.execs):=hrow.same λb h=>w0 b (by have:=hE b h;omega);refine wnY @PE ?_;generalize hH2:cC H1 7=H2 at *;have k0:=(w0 0 (by omega)).trans g0;have k1:=(w0 1 (by omega)).trans g1;have k2:=(w0 2 (by omega)).trans g2;have k3:=(w0 3 (by omega)).trans g3;have k6:=(w0 6 (by omega)).trans g6;refine⟨g7,?_⟩;refine wnY @PE ?_;refine iL (λy=>if y=0\/y=3\/y=6 then H2 y else none) rfl (λy cs h=>by dsimp only at h;split at h;exact h;cases h) ?_;have S0:(λy=>if y=0\/y=3\/y=6 then H2 y else none) 0=_:=k0;have S3:(λy=>if y=0\/y=3\/y=6 then H2 y else none) 3=_:=k3;have S6:(λy=>if y=0\/y=3\/y=6 then H2 y else none) 6=_:=k6
  have hSub:∀H',H' 0=H2 0->H' 3=H2 3->H' 6=H2 6->Sub (λy=>if y=0\/y=3\/y=6 then H2 y else none) H':=λH' e0 e3 e6 y cs h=>by
   dsimp only at h;split at h
   ·rename_i e;rcases e with rfl|rfl|rfl
    ·rwa [e0]
    ·rwa [e3]
    ·rwa [e6]
   ·cases h
  generalize (λy=>if y=0\/y=3\/y=6 then H2 y else none)=S at *;refine wnY (zI6 @PE @SV3 @S0 @S3 @S6 @ixc) ?_;refine eE ?_;refine oE ev0 ev0 hcl2 (af (Dat.snap (lD _)) ai) ?_;refine iS ?_;refine⟨hSub _ rfl rfl rfl,?_⟩
  skip
  refine eE ?_;refine aX ev0 ev0 (hpc _ _ hBd2 (by omega) (by omega) (by omega) (λb h=>by have:=hV b h;omega)) ?_;rintro r H3 n3 ⟨hrP,hn3,VS2,hBd3,hVB,hrb,hFr⟩;refine iS ?_;have nV:∀y,y<8->bk VS≠some y:=λy hy h=>by have:=hV y h;omega
  have f3:∀y,y<n1->y≠5->y≠4->bk VS≠some y->H3 y=H2 y:=λy a b c d=>hFr y a b c d;refine⟨hSub _ (f3 0 (by omega) (by omega) (by omega) (nV 0 (by omega))) (f3 3 (by omega) (by omega) (by omega) (nV 3 (by omega))) (f3 6 (by omega) (by omega) (by omega) (nV 6 (by omega))),?_⟩;obtain⟨o1,o2⟩:=hrP.one;refine wnY (zI8 @PE @SV3 @S0 @S3 @S6 @ixc @o1 @o2) ?_;refine eE ?_;refine wnY (zI8 @PE @SV3 @S0 @S3 @S6 @ixc @o1 @o2) ?_
  have hrow3:Row H3 3 EX (cL il B.execs):=hrow2.same λb h=>by
   have:=hE b h;exact f3 b (by omega) (by omega) (by omega) (λh'=>(hV b h').2.2 h)
  refine⟨hSub _ (by rw[ab (by omega)];exact f3 0 (by omega) (by omega) (by omega) (nV 0 (by omega))) (by rw[ab (by omega)];exact f3 3 (by omega) (by omega) (by omega) (nV 3 (by omega))) (by rw[ab (by omega)];exact f3 6 (by omega) (by omega) (by omega) (nV 6 (by omega))),?_⟩;have zz:=aI @PE (aI @SV3 (aI @S0 (aI @S3 (aI @S6 (aI @ixc (aI @o1 @o2))))));repeat' (first|apply a_n|refine zO ?_|apply gL|fail)
  have hcl3:=Fh B.execs;refine ef (k:=1) (sv:=EX) (xv:=.msl n3 3 3 0 1) (cs:=cL il B.execs) (new:=[.int .i64 c,bV w,r]) rfl ev0 (hrow3.same λb h=>ab (by have:=hE b h;omega)) ev0 (cP rfl) (by simp only[SO,PE,o1,Bool.and_self]) rfl (by omega) (by omega) (by omega) ?_;rintro s4 H4 n4 r1 r2 r3 r4 r5;have nE:∀y,y<8->bk EX≠some y:=λy hy h=>by have:=hE y h;omega
  have fx:∀y,y<n3->bk EX≠some y->H4 y=H3 y:=λy h1 h2=>by rw[r4 y (by omega) h2,ab (by omega)]
  have fy:∀y,y<8->y≠5->y≠4->H4 y=H2 y:=λy a b c=>(fx y (by omega) (nE y a)).trans (f3 y (by omega) b c (nV y a));have q3:=(fy 3 (by omega) (by omega) (by omega)).trans k3;obtain⟨o5,o6⟩:=r1.one;clear zz;have zz:=aI @PE (aI @SV3 (aI @S0 (aI @S3 (aI @S6 (aI @q3 (aI @o5 @o6))))));repeat' (first|apply a_n|refine zO ?_|refine nvY ?_|apply gL|refine stY ?_|fail)
  have hPl2:rows.length=p.rounds.toNat+1/\V2.length<=8000:=by
   have h1:=hPl.1;have h2:=hPl.2.2;have h3:(p.rounds.toNat+1)*p.task.n.toNat<=7*5:=Nat.mul_le_mul (by omega) (by omega);exact⟨h1,by omega⟩
  have hvl:=hBd3.r.lenS (uE V2) (by omega)
  obtain ⟨b2,ln,rfl,hb2,hl2⟩:=vN hrP (fun e=>by
   have:=congrArg List.length e;rw[bC,hPl2.1] at this;cases this)
  have hbb:=hrb b2 rfl
  have hs4:∀b,bk s4=some b->8<=b/\b<n4/\b≠b2/\(bk EX=some b\/n3<=b):=λb h=>by
   rcases r5 b h with h|h
   ·have:=hE b h;exact⟨this.1,by omega,by omega,.inl h⟩
   ·omega
  have hr4:∀cs,Row (ap H4 3 cs) 3 s4 ((cL il B.execs++[.int .i64 c,bV w])++[.msl b2 ln 1 0 ln]):=λcs=>by
   rw[gK];exact r1.same λb h=>ab (by have:=hs4 b h;omega)
  have hb4:∀cs,ap H4 3 cs b2=some (rows.map aD):=λcs=>by
   rw[ab (by omega),fx b2 (by omega) (λh=>by have:=hE b2 h;omega)];exact hb2
  obtain⟨H5,hfz,hr5,hs5⟩:=fp (x':=bm rows) (hr4 _) (hb4 _) (Row.snapV (Row.box1 fF hl2)) (λe=>(hs4 b2 e).2.2.1 rfl);refine kE ?_;refine tQ _ H5 [(8,.ptr 6 1 0)] hfz (fk (by simp (disch:=omega) only[agr,ZG,reduceEqDiff,↓reduceIte,d5,iH])) ?_;have h5:∀y,y≠b2->bk s4≠some y->H5 y=_:=λy h1 h2=>hs5 y h1 h2;have n4':∀y,y<8->bk s4≠some y:=λy hy h=>by have:=hs4 y h;omega
  have fB:∀y,y<n3->bk EX≠some y->y≠3->y≠b2->H5 y=H3 y:=λy h1 h2 h3 h4=>by
   rw [h5 y h4 (fun h=>by
    rcases(hs4 y h).2.2.2 with h|h
    ·exact h2 h
    ·omega),ab h3,fx y h1 h2]
  have m:∀y,y<8->y≠3->y≠5->y≠4->H5 y=H2 y:=λy a b c d=>(fB y (by omega) (nE y a) b (by omega)).trans (f3 y (by omega) c d (nV y a));have m6:=(m 6 (by omega) (by omega) (by omega) (by omega)).trans k6;have m5:=(fB 5 (by omega) (nE 5 (by omega)) (by omega) (by omega)).trans hBd3.b;have m4:=(fB 4 (by omega) (nE 4 (by omega)) (by omega) (by omega)).trans hBd3.m;have m3:H5 3=_:=(h5 3 (by omega) (n4' 3 (by omega))).trans ac
  have hVE:∀b,bk VS2=some b->bk EX≠some b:=λb h h'=>by
   have h1:=hE b h';rcases(hVB b h).2.2.2 with h2|h2
   ·exact(hV b h2).2.2 h'
   ·omega
  obtain⟨o7,o8⟩:=hBd3.r.one;refine wnY (zI7 @PE @SV3 @m6 @m5 @hvl @o7 @o8) ?_;refine⟨rfl,VS2,s4,by omega,?_,?_,?_,?_,?_,ac,?_,?_,λb h=>?_,λb h=>?_⟩
  ·rw[ab (by omega),m 0 (by omega) (by omega) (by omega) (by omega)];exact k0
  ·rw[ab (by omega),m 1 (by omega) (by omega) (by omega) (by omega)];exact k1
  ·rw[ab (by omega),m 2 (by omega) (by omega) (by omega) (by omega)];exact k2
  ·rw[ab (by omega),m3];rfl
  ·rw[ab (by omega)];exact m6
  ·rw[hsD];refine⟨(ab (by omega)).trans m5,hBd3.r.same λb h=>?_,(ab (by omega)).trans m4⟩;have h1:=hVB b h
   have h2:8<=b:=by
    rcases h1.2.2.2 with h2|h2
    ·exact(hV b h2).1
    ·omega
   rw[ab (by omega)];exact fB b h1.1 (hVE b h) (by omega) (λe=>hbb.2.2 (e▸h))
  ·rw[hsD];show Row _ 3 s4 (cL il (B.execs++[_]));rw[jp,uz];show Row _ 3 s4 (cL il B.execs++[.int .i64 (c:Int),bV w,bm rows]);rw[gK] at hr5;exact hr5.same λb h=>ab (by have:=hs4 b h;omega)
  ·have:=hs4 b h;omega
  ·have h1:=hVB b h
   have h2:8<=b:=by
    rcases h1.2.2.2 with h2|h2
    ·exact(hV b h2).1
    ·omega
   refine⟨h2,by omega,λh'=>?_⟩;rcases(hs4 b h').2.2.2 with h3|h3
   ·exact hVE b h h3
   ·omega
theorem EZ(l:List VwV)(hl:l.length<=1000000):pU 58 [dK l,dK l] (.bool true):=by
 refine pO PW ?_;simp only[b58,av];have z:decide ((l.length:Int)≠l.length)=false:=bL (λh=>h rfl);refine wnY (aI @PE @z) ?_;refine gn (X:=Nat) (λk=>[(0,dK l),(1,dK l),(12,.int .i64 l.length),(13,.int .i64 k)]) (λk=>k<=l.length) (λk=>l.length-k) 0 (bA _) ag0 ?_;rintro k h1;by_cases hk:k<l.length
 rotate_left
 ·obtain rfl:k=l.length:=by omega
  refine wnY and_self ?_;exact .bool _
 have ix:=ixW hk;rw[PC.2.2.2.2.2.1] at ix;have hd:=PZ (l.getD k default);refine wnY (zI3 @PE @ix @hd) ?_;exact⟨k+1,by omega,by omega,ag0,rfl,rfl⟩
theorem D3(l:List RndV)(hl:l.length<=1000000):pU 93 [bV l,bV l] (.bool true):=by
 refine pO QC ?_;simp only[b93,av];have z:decide ((l.length:Int)≠l.length)=false:=bL (λh=>h rfl);refine wnY (aI @PE @z) ?_;refine gn (X:=Nat) (λk=>[(0,bV l),(1,bV l),(12,.int .i64 l.length),(13,.int .i64 k)]) (λk=>k<=l.length) (λk=>l.length-k) 0 (bA _) ag0 ?_;rintro k h1;by_cases hk:k<l.length
 rotate_left
 ·obtain rfl:k=l.length:=by omega
  refine wnY and_self ?_;exact .bool _
 have ix:=ixR hk;rw[PC.1] at ix;have hd:=Qf (l.getD k default);refine wnY (zI3 @PE @ix @hd) ?_;exact⟨k+1,by omega,by omega,ag0,rfl,rfl⟩
theorem DP(x:List (List Int))(hx:x.length<=1000000)(hxs:∀v∈x,v.length<=1000000):pU 94 [bm x,bm x,.func 95 []] (.bool true):=by
 refine pO PQ ?_;simp only[b94,av];have z:decide ((x.length:Int)≠x.length)=false:=bL (λh=>h rfl);refine wnY @z ?_;refine gn (X:=Nat) (λk=>[(0,bm x),(1,bm x),(2,.func 95 []),(15,bm x),(16,.int .i64 x.length),(17,.int .i64 k)]) (λk=>k<=x.length) (λk=>x.length-k) 0 (bA _) ag0 ?_;rintro k h1;by_cases hk:k<x.length
 rotate_left
 ·obtain rfl:k=x.length:=by omega
  refine wnY and_self ?_;exact .bool _
 have hc:=Tk.equalV_c (x.getD k default) (x.getD k default) (by have:=hxs _ (au hk);show _<=_;omega) (by have:=hxs _ (au hk);show _<=_;omega);rw[bH rfl] at hc;refine wnY and_self ?_;exact⟨k+1,by omega,by omega,ag0,rfl,rfl⟩
theorem Lv(x:ExV)(h:ShE x):pU 60 [il x,il x] (.bool true):=by
 refine pO Qb ?_;simp only[b60,av];have h1:=D3 x.word h.1;have h2:=DP x.views h.2.1 h.2.2;unfold il;rw[PC.2.2.2.2.2.2.1];have z:decide (x.case=x.case)=true:=bH rfl;refine wnY (aI @PE @z) ?_;exact .bool _
theorem DI(l:List ExV)(hl:l.length<=1000000)(h:∀x∈l,ShE x):pU 59 [eB l,eB l,.func 60 []] (.bool true):=by
 refine pO QN ?_;simp only[b59,av];have z:decide ((l.length:Int)≠l.length)=false:=bL (λh=>h rfl);refine wnY (aI @PE @z) ?_;refine br (X:=Nat) (λk=>[(0,eB l),(1,eB l),(2,.func 60 []),(15,eB l),(16,.int .i64 l.length),(17,.int .i64 k)]) (λk _ _=>k<=l.length) (λk=>l.length-k) 0 (bA _) ag0 ?_;rintro k H nx h1;by_cases hk:k<l.length
 rotate_left
 ·obtain rfl:k=l.length:=by omega
  refine wnY and_self ?_;exact .bool _
 have ix:=ixE hk;have hc:=Lv (l.getD k default) (h _ (au hk));have hd:=pK (l.getD k default);unfold il at hc hd;rw[PC.2.2.2.2.2.2.1] at ix hc hd;refine wnY (aI @PE @ix) ?_;exact⟨k+1,by omega,by omega,ag0⟩
theorem uX(p:PrbV)(h:OkP p):pU 33 [fZ (bG p)] (.int .i64 0):=by
 refine pO QO ?_;simp only[b33,av];have hb:=zh p h;obtain⟨hvl,hel,hE⟩:=J4 p h;have h1:=EZ (bldS p p.task.cases.length).views hvl;have h2:=DI (bldS p p.task.cases.length).execs hel hE;have hd:=fh p;have z:decide (p.task.n≠p.task.n)=false:=bL (λh=>h rfl);rw[show fZ (bG p)=.agg (bG p).cs from rfl,PC.2.2.2.2.2.2.2] at hb |-;unfold cT at hb hd;rw[PC.2.2.2.2.1] at hb hd;dsimp only[bG] at hb |-;refine wnY (aI @PE @z) ?_;exact .int _ _
theorem JO(p:PrbV)(h:OkP p):pU 37 [fZ (bG p)] (.tup [.iptr [.int .i64 p.task.n,bm ((bG p).execs.map ik)] 0,.int .i64 0]):=by
 refine pO P0 ?_;simp only[b37,av];have hv:=uX p h;obtain⟨s1,s2,s3,s4⟩:=jo p h;obtain⟨hck,-,-,-,r6⟩:=fg h.e0;obtain⟨-,n5,-,-⟩:=dv hck;have hd:=eO (bG p);have hpt:(bG p).prob=p:=rfl;rw[show fZ (bG p)=.agg (bG p).cs from rfl,PC.2.2.2.2.2.2.2,hpt] at hv hd |-;generalize (bG p).execs=xs at *;generalize (bG p).views=vs at *;refine wnY @PE ?_
 refine sB (X:=Nat×AV) (λx=>[(1,.ptr 0 10 0),(5,.ptr 1 2 0),(24,eB xs),(25,.int .i64 xs.length),(26,.int .i64 x.1)]) (λx H nx=>x.1<=xs.length/\2<=nx/\H 1=some [.int .i64 p.task.n,x.2]/\Row H 1 x.2 (((xs.take x.1).map ik).map aD)/\∀b,bk x.2=some b->2<=b/\b<nx) (λx=>xs.length-x.1) (0,.esl)
  ⟨bK,_,Fz.none,⟨bA _,by omega,by simp (disch:=omega) only[ab,ac],.nil,λb h=>(by cases h)⟩,fk (by simp (disch:=omega) only[agr,ZG,reduceEqDiff,↓reduceIte,SL])⟩ ?_
 rintro⟨k,ro⟩ H nx ⟨hk,hnx,g1,hrow,hb⟩;dsimp only at hk g1 hrow hb |-;obtain⟨o1,o2⟩:=hrow.one;by_cases hk2:k<xs.length
 rotate_left
 ·obtain rfl:k=xs.length:=by omega
  rw[List.take_length] at hrow;refine wnY (zI4 @PE @g1 @o1 @o2) ?_;exact cR (af (dY g1 rfl (af (.int _ _) (af (Row.snapV hrow) ai))) (af (.int _ _) ai))
 have ix:=ixE hk2;have hx:=s4 _ (au hk2);have htk:=bO hk2;have hmt:(xs.take (k+1)).map ik=(xs.take k).map ik++[ik (xs.getD k default)]:=by rw[htk,du];rfl
 generalize xs.getD k default=x at *;obtain⟨l1,l2⟩:=hx.last;have l3:(eh x).length<=5:=by omega
 have vl7:x.views.length<=7:=by have:=hx.vl;omega
 have vl1:1<=x.views.length:=by have:=hx.vl;omega
 have wl6:x.word.length<=6:=by have:=hx.wl;omega
 obtain⟨f1,f2⟩:=hx.flt;have ixl:=JA x.views (by have:=hx.vl;omega);have hfl:∀w:List RndV,x.word=w->iY x=if w.length=0 then 0 else(w.getD (w.length-1) default).f:=λw e=>by rw[<-e];rfl
 have hlast:x.views.getD (x.views.length-1) []=eh x:=rfl;rw[hlast] at ixl;rw[PC.2.2.2.2.2.2.1] at ix;generalize hw:x.word=w at *;generalize hvw:x.views=vw at *;have hfw:=hfl w rfl;have hshr:=λtb tf q=>rh tb tf (iY x) q;have hand:=λtb tf q=>pZ tb tf (kw (iY x) q);have hbit:=λq=>AQ (f:=iY x) (p:=q) f1;have hsucc:=λq=>DK (x:=x) (q:=q);have hfl0:=Ku x;have hfn:oJ x (eh x).length=ik x:=rfl;have hfln:=nM x;generalize eh x=last at *;generalize oJ x=A at *;generalize iY x=F at *;rcases xP w.length with hw0|hw0
 ·rw[if_pos hw0] at hfw;refine wnY (zI3 @PE @ix @ixl) ?_;refine br (X:=Nat) (λq=>[(1,.ptr 0 10 0),(5,.ptr 1 2 0),(24,eB xs),(25,.int .i64 xs.length),(26,.int .i64 k),(8,.int .i64 F),(10,.msl (nx+1) last.length 1 0 last.length),(52,.int .i64 last.length),(53,.int .i64 q)]) (λq H' n'=>q<=last.length/\n'=nx+2/\H' (nx+1)=some ((A q).map (AV.int .i64))/\∀y,y<nx->H' y=H y) (λq=>last.length-q) 0 ⟨bA _,rfl,by rw[hfl0];simp (disch:=omega) only[ab,ac],λy hy=>by simp (disch:=omega) only[ab]⟩ (by rw[hfw];simp (disch:=omega) only[agr,ZG,reduceEqDiff,↓reduceIte,SL]) ?_;rintro q H1 n1 ⟨q1,rfl,gA,fr⟩;have hAl:=hfln q;by_cases hq:q<last.length
  ·have hs:=hsucc q hq;have hsh:=λtb tf=>hshr tb tf q;have ha1:=λtb tf=>hand tb tf q;have hbt:=hbit q (by omega)
   have hix:cu 1 (.msl (nx+1) last.length 1 0 last.length) (.int .i64 (q:Int))=some (.ptr (nx+1) last.length q):=by
    rw[gu,if_pos ⟨by omega,by omega⟩,bR,cp,Nat.mul_one]
   generalize kw F q=sn at *;generalize qk sn=an at *;cases hb:hasFl F q with
   |false=>
    rw[hb] at hbt hs;rw[if_neg (by decide)] at hs;refine wnY (zI4 @PE @hsh @ha1 @hbt) ?_;exact⟨q+1,by omega,⟨by omega,rfl,by rw[hs];exact gA,fr⟩,ag0⟩
   |true=>
    rw[hb] at hbt hs;rw[if_pos rfl] at hs;have hml:((A q).map (AV.int .i64)).length=last.length:=by rw[bC,hAl]
    have hpt:bw ((A q).map (AV.int .i64)) q [.int .i64 (-1)]=(A (q+1)).map (AV.int .i64):=by
     rw[hs,ga (by omega),jv]
    generalize (A q).map (AV.int .i64)=L at *;refine wnY (zI5 @PE @hsh @ha1 @hbt @hix) ?_;refine ml (b:=nx+1) (n:=last.length) (off:=q) (cs:=L) (vs:=[.int .i64 (-1)]) rfl ev0 ev0 gA rfl rfl hml rfl (by omega) ?_;rw[hpt];refine wnY and_self ?_;exact⟨q+1,by omega,⟨by omega,rfl,ac,λy hy=>by rw[ab (by omega)];exact fr y hy⟩,ag0⟩
  obtain rfl:q=last.length:=by omega
  rw[hfn] at gA hAl;have g1':=(fr 1 (by omega)).trans g1;have hrow':Row H1 1 ro (((xs.take k).map ik).map aD):=hrow.same λb h=>fr b (by have:=hb b h;omega);have hrl:(((xs.take k).map ik).map aD).length<=60:=by rw[bC,bC,jg];omega
  refine wnY (zI5 @PE @SV3 @g1' @o1 @o2) ?_;refine ef (k:=1) (sv:=ro) (cs:=((xs.take k).map ik).map aD) (new:=[.msl (nx+1) last.length 1 0 last.length]) rfl ev0 (hrow'.same λb h=>ab (by have:=hb b h;omega)) ev0 (cP rfl) rfl rfl ig (by omega) (by omega) ?_;rintro r2 H3 n3 r1 r2' r3 r4 r5;have fx:∀y,y<nx+2->bk ro≠some y->H3 y=H1 y:=λy h1 h2=>by rw[r4 y (by omega) h2,ab (by omega)]
  have nro:∀y,y<2\/nx<=y->bk ro≠some y:=λy hy h=>by have:=hb y h;omega
  have q1':=(fx 1 (by omega) (nro 1 (by omega))).trans g1';obtain⟨o5,o6⟩:=r1.one;refine wnY (zI5 @PE @SV3 @q1' @o5 @o6) ?_
  have hs3:∀b,bk r2=some b->2<=b/\b<n3/\b≠nx+1:=λb h=>by
   rcases r5 b h with h|h
   ·have:=hb b h;omega
   ·omega
  have hr3:∀cs,Row (ap H3 1 cs) 1 r2 (((xs.take k).map ik).map aD++[.msl (nx+1) last.length 1 0 last.length]):=λcs=>r1.same λb h=>ab (by have:=hs3 b h;omega)
  have hb3:∀cs,ap H3 1 cs (nx+1)=some ((ik x).map (AV.int .i64)):=λcs=>by
   rw[ab (by omega),fx _ (by omega) (nro _ (by omega))];exact gA
  obtain⟨H5,hfz,hr5,hs5⟩:=fp (x':=aD (ik x)) (hr3 _) (hb3 _) (Row.snapI (Row.box1 fF (by rw[bC,hAl]))) (λe=>(hs3 _ e).2.2 rfl);refine⟨(k+1,r2),by dsimp only;omega,_,H5,hfz,⟨by dsimp only;omega,by omega,?_,?_,λb h=>⟨(hs3 b h).1,(hs3 b h).2.1⟩⟩,fk ag0⟩
  ·rw[hs5 1 (by omega) (λh=>by have:=hs3 1 h;omega),ac];rfl
  ·dsimp only;rw[hmt,du];exact hr5
 ·rw[if_neg (by omega)] at hfw
  have ixw:cu 7 (bV w) (.int .i64 ((w.length:Int)-1))=some (.iptr (w.getD (w.length-1) default).cs 0):=by
   rw[show((w.length:Int)-1)=((w.length-1:Nat):Int) by omega];exact ixR (by omega)
  rw[PC.1] at ixw;refine wnY (zI4 @PE @ix @ixl @ixw) ?_;refine br (X:=Nat) (λq=>[(1,.ptr 0 10 0),(5,.ptr 1 2 0),(24,eB xs),(25,.int .i64 xs.length),(26,.int .i64 k),(8,.int .i64 F),(10,.msl (nx+1) last.length 1 0 last.length),(52,.int .i64 last.length),(53,.int .i64 q)]) (λq H' n'=>q<=last.length/\n'=nx+2/\H' (nx+1)=some ((A q).map (AV.int .i64))/\∀y,y<nx->H' y=H y) (λq=>last.length-q) 0 ⟨bA _,rfl,by rw[hfl0];simp (disch:=omega) only[ab,ac],λy hy=>by simp (disch:=omega) only[ab]⟩ (by rw[hfw];simp (disch:=omega) only[agr,ZG,reduceEqDiff,↓reduceIte,SL]) ?_;rintro q H1 n1 ⟨q1,rfl,gA,fr⟩;have hAl:=hfln q;by_cases hq:q<last.length
  ·have hs:=hsucc q hq;have hsh:=λtb tf=>hshr tb tf q;have ha1:=λtb tf=>hand tb tf q;have hbt:=hbit q (by omega)
   have hix:cu 1 (.msl (nx+1) last.length 1 0 last.length) (.int .i64 (q:Int))=some (.ptr (nx+1) last.length q):=by
    rw[gu,if_pos ⟨by omega,by omega⟩,bR,cp,Nat.mul_one]
   generalize kw F q=sn at *;generalize qk sn=an at *;cases hb:hasFl F q with
   |false=>
    rw[hb] at hbt hs;rw[if_neg (by decide)] at hs;refine wnY (zI4 @PE @hsh @ha1 @hbt) ?_;exact⟨q+1,by omega,⟨by omega,rfl,by rw[hs];exact gA,fr⟩,ag0⟩
   |true=>
    rw[hb] at hbt hs;rw[if_pos rfl] at hs;have hml:((A q).map (AV.int .i64)).length=last.length:=by rw[bC,hAl]
    have hpt:bw ((A q).map (AV.int .i64)) q [.int .i64 (-1)]=(A (q+1)).map (AV.int .i64):=by
     rw[hs,ga (by omega),jv]
    generalize (A q).map (AV.int .i64)=L at *;refine wnY (zI5 @PE @hsh @ha1 @hbt @hix) ?_;refine ml (b:=nx+1) (n:=last.length) (off:=q) (cs:=L) (vs:=[.int .i64 (-1)]) rfl ev0 ev0 gA rfl rfl hml rfl (by omega) ?_;rw[hpt];refine wnY and_self ?_;exact⟨q+1,by omega,⟨by omega,rfl,ac,λy hy=>by rw[ab (by omega)];exact fr y hy⟩,ag0⟩
  obtain rfl:q=last.length:=by omega
  rw[hfn] at gA hAl;have g1':=(fr 1 (by omega)).trans g1;have hrow':Row H1 1 ro (((xs.take k).map ik).map aD):=hrow.same λb h=>fr b (by have:=hb b h;omega);have hrl:(((xs.take k).map ik).map aD).length<=60:=by rw[bC,bC,jg];omega
  refine wnY (zI5 @PE @SV3 @g1' @o1 @o2) ?_;refine ef (k:=1) (sv:=ro) (cs:=((xs.take k).map ik).map aD) (new:=[.msl (nx+1) last.length 1 0 last.length]) rfl ev0 (hrow'.same λb h=>ab (by have:=hb b h;omega)) ev0 (cP rfl) rfl rfl ig (by omega) (by omega) ?_;rintro r2 H3 n3 r1 r2' r3 r4 r5;have fx:∀y,y<nx+2->bk ro≠some y->H3 y=H1 y:=λy h1 h2=>by rw[r4 y (by omega) h2,ab (by omega)]
  have nro:∀y,y<2\/nx<=y->bk ro≠some y:=λy hy h=>by have:=hb y h;omega
  have q1':=(fx 1 (by omega) (nro 1 (by omega))).trans g1';obtain⟨o5,o6⟩:=r1.one;refine wnY (zI5 @PE @SV3 @q1' @o5 @o6) ?_
  have hs3:∀b,bk r2=some b->2<=b/\b<n3/\b≠nx+1:=λb h=>by
   rcases r5 b h with h|h
   ·have:=hb b h;omega
   ·omega
  have hr3:∀cs,Row (ap H3 1 cs) 1 r2 (((xs.take k).map ik).map aD++[.msl (nx+1) last.length 1 0 last.length]):=λcs=>r1.same λb h=>ab (by have:=hs3 b h;omega)
  have hb3:∀cs,ap H3 1 cs (nx+1)=some ((ik x).map (AV.int .i64)):=λcs=>by
   rw[ab (by omega),fx _ (by omega) (nro _ (by omega))];exact gA
  obtain⟨H5,hfz,hr5,hs5⟩:=fp (x':=aD (ik x)) (hr3 _) (hb3 _) (Row.snapI (Row.box1 fF (by rw[bC,hAl]))) (λe=>(hs3 _ e).2.2 rfl);refine⟨(k+1,r2),by dsimp only;omega,_,H5,hfz,⟨by dsimp only;omega,by omega,?_,?_,λb h=>⟨(hs3 b h).1,(hs3 b h).2.1⟩⟩,fk ag0⟩
  ·rw[hs5 1 (by omega) (λh=>by have:=hs3 1 h;omega),ac];rfl
  ·dsimp only;rw[hmt,du];exact hr5
theorem sH{n R:Nat}(x:ExV)(hx:XOk n R x)(hn:n<=5)(hR:R<=6):pU 52 [il x] (aC (gN x)):=by
 refine pO QW ?_;simp only[b52,av];obtain⟨l1,l2⟩:=hx.last;have vl7:x.views.length<=7:=by have:=hx.vl;omega
 have vl1:1<=x.views.length:=by have:=hx.vl;omega
 have wl6:x.word.length<=6:=by have:=hx.wl;omega
 have l3:(eh x).length<=5:=by omega
 obtain⟨f1,f2⟩:=hx.flt;have ixl:=JA x.views (by have:=hx.vl;omega);have hfl:∀w:List RndV,x.word=w->iY x=if w.length=0 then 0 else(w.getD (w.length-1) default).f:=λw e=>by rw[<-e];rfl
 have hlast:x.views.getD (x.views.length-1) []=eh x:=rfl;rw[hlast] at ixl;have hshr:=λtb tf q=>rh tb tf (iY x) q;have hand:=λtb tf q=>pZ tb tf (kw (iY x) q);have hbit:=λq=>Fo (f:=iY x) (p:=q) f1;have hsucc:=λq=>oB x q;have hsl:=v7 x;have h00:s9 x 0=[]:=rfl;have hfin:s9 x (eh x).length=gN x:=rfl;unfold il;rw[PC.2.2.2.2.2.2.1];generalize hw:x.word=w at *;generalize hvw:x.views=vw at *;have hfw:=hfl w rfl;generalize eh x=last at *;generalize s9 x=A at *;generalize iY x=F at *;rcases xP w.length with hw0|hw0
 ·rw[if_pos hw0] at hfw;refine wnY (aI @PE @ixl) ?_;refine br (X:=Nat×AV) (λy=>[(1,.ptr 0 3 0),(3,.int .i64 F),(5,y.2),(27,aD last),(28,.int .i64 last.length),(29,.int .i64 y.1)]) (λy H n'=>y.1<=last.length/\1<=n'/\Row H 2 y.2 (cX (A y.1))/\∀b,bk y.2=some b->1<=b/\b<n') (λy=>last.length-y.1) (0,.esl) ⟨bA _,by omega,by rw[h00];exact .nil,λb h=>(by cases h)⟩ (by rw[hfw];simp (disch:=omega) only[agr,ZG,reduceEqDiff,↓reduceIte,SL]) ?_;rintro⟨q,ro⟩ H nx ⟨q1,hnx,hrow,hb⟩;dsimp only at q1 hrow hb |-;by_cases hq:q<last.length
  rotate_left
  ·obtain rfl:q=last.length:=by omega
   rw[hfin] at hrow;refine wnY @PE ?_;exact Cy hrow
  have hs:=hsucc q;have hsh:=λtb tf=>hshr tb tf q;have ha1:=λtb tf=>hand tb tf q;have hbt:=hbit q (by omega);have hAl:=hsl q;have hcl:=mo (A q)
  have ixq:cu 1 (aD last) (.int .i64 (q:Int))=some (.iptr [.int .i64 (last.getD q 0)] 0):=by
   have:=l9 (l:=last) (n:=(q:Int)) (by omega) (by omega)
   rwa [bR] at this
  generalize kw F q=sn at *;generalize qk sn=an at *;cases hbb:hasFl F q with
  |true=>
   rw[hbb] at hbt hs;rw[if_pos rfl] at hs;refine wnY (zI5 @PE @hsh @ha1 @hbt @ixq) ?_;exact⟨(q+1,ro),by dsimp only;omega,⟨by dsimp only;omega,by omega,by dsimp only;rw[hs];exact hrow,hb⟩,ag0⟩
  |false=>
   rw[hbb] at hbt hs;rw[if_neg (by decide)] at hs;refine wnY (zI5 @PE @hsh @ha1 @hbt @ixq) ?_;refine ef (k:=1) (sv:=ro) (cs:=cX (A q)) (new:=[.int .i64 q,.int .i64 (last.getD q 0)]) rfl ev0 (hrow.same λb h=>ab (by have:=hb b h;omega)) ev0 (cP rfl) rfl rfl (by omega) (by omega) (by omega) ?_;rintro r2 H3 n3 r1 r2' r3 r4 r5;refine wnY @PE ?_;refine⟨(q+1,r2),by dsimp only;omega,⟨by dsimp only;omega,by omega,?_,λb h=>?_⟩,ag0⟩
   ·dsimp only;rw[hs,lr];exact r1
   ·rcases r5 b h with h|h
    ·have:=hb b h;omega
    ·omega
 ·rw[if_neg (by omega)] at hfw
  have ixw:cu 7 (bV w) (.int .i64 ((w.length:Int)-1))=some (.iptr (w.getD (w.length-1) default).cs 0):=by
   rw[show((w.length:Int)-1)=((w.length-1:Nat):Int) by omega];exact ixR (by omega)
  rw[PC.1] at ixw;refine wnY (zI3 @PE @ixl @ixw) ?_;refine br (X:=Nat×AV) (λy=>[(1,.ptr 0 3 0),(3,.int .i64 F),(5,y.2),(27,aD last),(28,.int .i64 last.length),(29,.int .i64 y.1)]) (λy H n'=>y.1<=last.length/\1<=n'/\Row H 2 y.2 (cX (A y.1))/\∀b,bk y.2=some b->1<=b/\b<n') (λy=>last.length-y.1) (0,.esl) ⟨bA _,by omega,by rw[h00];exact .nil,λb h=>(by cases h)⟩ (by rw[hfw];simp (disch:=omega) only[agr,ZG,reduceEqDiff,↓reduceIte,SL]) ?_;rintro⟨q,ro⟩ H nx ⟨q1,hnx,hrow,hb⟩;dsimp only at q1 hrow hb |-;by_cases hq:q<last.length
  rotate_left
  ·obtain rfl:q=last.length:=by omega
   rw[hfin] at hrow;refine wnY @PE ?_;exact Cy hrow
  have hs:=hsucc q;have hsh:=λtb tf=>hshr tb tf q;have ha1:=λtb tf=>hand tb tf q;have hbt:=hbit q (by omega);have hAl:=hsl q;have hcl:=mo (A q)
  have ixq:cu 1 (aD last) (.int .i64 (q:Int))=some (.iptr [.int .i64 (last.getD q 0)] 0):=by
   have:=l9 (l:=last) (n:=(q:Int)) (by omega) (by omega)
   rwa [bR] at this
  generalize kw F q=sn at *;generalize qk sn=an at *;cases hbb:hasFl F q with
  |true=>
   rw[hbb] at hbt hs;rw[if_pos rfl] at hs;refine wnY (zI5 @PE @hsh @ha1 @hbt @ixq) ?_;exact⟨(q+1,ro),by dsimp only;omega,⟨by dsimp only;omega,by omega,by dsimp only;rw[hs];exact hrow,hb⟩,ag0⟩
  |false=>
   rw[hbb] at hbt hs;rw[if_neg (by decide)] at hs;refine wnY (zI5 @PE @hsh @ha1 @hbt @ixq) ?_;refine ef (k:=1) (sv:=ro) (cs:=cX (A q)) (new:=[.int .i64 q,.int .i64 (last.getD q 0)]) rfl ev0 (hrow.same λb h=>ab (by have:=hb b h;omega)) ev0 (cP rfl) rfl rfl (by omega) (by omega) (by omega) ?_;rintro r2 H3 n3 r1 r2' r3 r4 r5;refine wnY @PE ?_;refine⟨(q+1,r2),by dsimp only;omega,⟨by dsimp only;omega,by omega,?_,λb h=>?_⟩,ag0⟩
   ·dsimp only;rw[hs,lr];exact r1
   ·rcases r5 b h with h|h
    ·have:=hb b h;omega
    ·omega
theorem Eg(p:PrbV)(h:OkP p)(i:Nat)(hi:i<(bG p).execs.length):pU 26 [fZ (bG p),.int .i64 i] (.tup [aC (gN ((bG p).execs.getD i default)),.int .i64 (if gN ((bG p).execs.getD i default)=[] then 16 else 0)]):=by
 refine pO Pu ?_;simp only[b26,av];have hv:=uX p h;obtain⟨s1,s2,s3,s4⟩:=jo p h;obtain⟨hck,-,-,-,r6⟩:=fg h.e0;obtain⟨-,n5,-,-⟩:=dv hck;have hd:=eO (bG p);rw[show fZ (bG p)=.agg (bG p).cs from rfl,PC.2.2.2.2.2.2.2] at hv hd |-;generalize (bG p).execs=xs at *;generalize (bG p).views=vs at *;have ix:=ixE hi;have hx:=sH _ (s4 _ (au hi)) (by omega) (by omega);have hdx:=pK (xs.getD i default);unfold il at hx hdx;rw[PC.2.2.2.2.2.2.1] at ix hx hdx;have z1:decide ((i:Int)<0)=false:=bL (by omega);have z2:decide ((i:Int)≥(xs.length:Nat))=false:=bL (by omega);generalize gN (xs.getD i default)=l at *;by_cases hl:l=[]
 ·subst hl;have zz:=aI @PE (aI @ix (aI @z1 (aI @z2 (aI @aL (aI @ce @bN)))));repeat' (first|refine zW ?_|apply a_n|apply a_r|refine zO ?_|refine vY ?_|refine cY ?_ (hp:=by first|exact hv|exact hx)|refine bxY ?_|refine gTY ?_|refine cFY ?_|(refine zGY ?_ ?_<;>(intro _hg;try (exfalso;omega)))|refine bn rfl ?_|refine r2Y ?_|fail)
  ·rw[if_pos rfl];exact cR (af (.eslsl 2) (af (.int _ _) ai))
  ·exact absurd rfl _hg
 ·have hl0:l.length≠0:=λe=>hl (eG.1 e);have z3:decide ((l.length:Int)=0)=false:=bL (by omega);rw[if_neg hl];refine wnY (zI8 @PE @ix @z1 @z2 @z3 @aL @ce @bN) ?_;exact cR (af (Dat.snap (bX _)) (af (.int _ _) ai))
end
end Go.Proofs.YtmpcledaoigkaaaGreat
namespace Go.Proofs.YtmpcledaoigkaaaGreat
open Go Go.Abs
theorem DS{D:List Spx}{k:Nat}{v:Vtx}(hk:k<D.length)(hv:v∈D.getD k default):mL D D.length v≠[]:=λe=>by
 have:k∈mL D D.length v:=jY.2 ⟨iR.2 hk,bH hv⟩;rw[e] at this;cases this
theorem yv{l:List Spx}{p:Spx->Bool}{k:Nat}(hk:k<l.length):(l.take (k+1)).filter p=(l.take k).filter p++if p (l.getD k default)=true then [l.getD k default] else []:=by
 rw[bO hk,BO];cases h:p (l.getD k default)
 ·rw[List.filter_cons_of_neg (by rw[h];decide),List.filter_nil,if_neg (by decide)]
 ·rw[List.filter_cons_of_pos h,List.filter_nil,if_pos rfl]
section
attribute [local irreducible] aG ah bg aQ aH aK ay aN aR bq Go.Abs.Fn aP Go.Abs.Pure ak aF Yl
theorem LQ:Cmp Tryz.prog aC dx (λs=>Shn s) 65 [] where
 cells _:=rfl
 one _:=rfl
 dat x:=bX x
 dcaps x hx:=by cases hx
 run x y hx hy:=j7 x y hx hy
 ord:=A7.ord
theorem zT(l:List Spx)(hl:l.length<=100000)(hs:∀s∈l,fQ eM s/\s.length<=1000/\s≠[]):pU 96 [be l] (kP (tt l)):=by
 refine pO Qq ?_;simp only[b96,av];have hn:fS (be l)=some l.length:=by unfold be gX;simp[fS]
 refine wnY @aU ?_;refine aX ev0 ev0 (D0 _ l (by omega) _ _ hn (λH' _=>Ka)) ?_;rintro r H1 nx1 ⟨c1,c2,c3,c4⟩;have hD:∀s∈ky dx l,fQ eM s/\s.length<=1000/\s≠[]:=λs h=>hs s (kp.1 h);have hDl:(ky dx l).length<=100000:=fA u0 hl;have g0:H1 0=some [.esl]:=(c3 0 (by omega)).trans ac
 have hsort:Abs.Fn Tryz.prog 87 [r,.func 65 []] H1 nx1 λ_ H' nx'=>nx1<=nx'/\H' 0=some [.esl]/\((l=[]/\dw r=some (.int .i64 0)/\∀H'',Snap H'' r (be []))\/(l≠[]/\r=.msl 1 l.length 1 0 l.length/\2<=nx'/\∃L':List Spx,H' 1=some (L'.map aC)/\L'.Perm l/\bD dx 0 l.length L')):=by
  by_cases h0:l=[]
  ·rw[if_pos h0] at c4;refine Abs.Fn.mono (vv c4.1) ?_;rintro _ _ _ ⟨rfl,rfl⟩;exact⟨ba _,g0,.inl ⟨h0,c4⟩⟩
  ·rw[if_neg h0] at c4;obtain⟨rfl,rfl,rfl⟩:=c4;have hpos:=wA.2 h0;refine Abs.Fn.mono (CV LQ (L:=l) (b:=0+1) (n:=l.length) ac (by omega) rfl hpos (λs h=>show s.length<=_ by have:=(hs s h).2.1;omega) (by omega)) ?_;rintro _ H' nx' ⟨L',ps,p1,p2⟩;exact⟨ps.le,by rw[ps.fr 0 (by omega) (by omega)];exact g0,.inr ⟨h0,rfl,ps.le,L',ps.at_,p1,p2⟩⟩
 have hnx1:1<=nx1:=c2;clear c4;refine wnY and_self ?_;refine aX ev0 ev0 hsort ?_;rintro _ H2 nx2 ⟨d1,g2,d3⟩
 have hcmp:Abs.Fn Tryz.prog 122 [r,.func 123 []] H2 nx2 λr' H' nx'=>nx2<=nx'/\∃Hf H3,Fz Hf H' H3/\Snap Hf r' (be (ky dx l))/\H3 0=some [.esl]:=by
  rcases d3 with⟨h0,e1,e2⟩|⟨h0,rfl,e0,L',e1,e2,e3⟩
  ·refine Abs.Fn.mono (B4 e1) ?_;rintro _ _ _ ⟨rfl,rfl,rfl⟩;refine⟨ba _,bK,_,Fz.none,?_,g2⟩;rw[h0];exact e2 _
  ·have hlen:=e2.length_eq;have hL0:L'≠[]:=λe=>by rw[e] at hlen;simp at hlen;exact h0 (eG.1 hlen.symm)
   rw[<-hlen];refine Abs.Fn.mono (Ae L' (show _<=_ by omega) (λs h=>show s.length<=_ by have:=(hs s (e2.mem_iff.1 h)).2.1;omega) hL0 H2 1 nx2 e1 (by omega)) ?_;rintro _ _ _ ⟨rfl,⟨C,rfl,f1,f2⟩,rfl⟩;have hd:iC L' L'.length=ky dx l:=EW A7 e2 (by rw[hlen];exact e3);rw[hd] at f2;have hle:=GI L' L'.length;have hdl:=ED L' L'.length;rw[hd] at hdl;refine⟨ba _,only 1 C,cC (ap H2 1 C) 1,Fz.one ac,?_,by rw[cA (by omega),ab (by omega)];exact g2⟩;refine nt (l:=(ky dx l).map aC) fF f1 (by omega) (by rw[bC];exact hdl) (λy hy=>?_) (λi a c ha hc=>?_)
   ·obtain⟨z,_,rfl⟩:=dF.1 hy;rfl
   ·rw[<-f2,jH] at hc;split at hc
    ·rw[cp,hc] at ha;cases ha
     have hm:a∈(ky dx l).map aC:=by
      rw[<-f2];exact iX (i:=i) (by rw[jH,if_pos (by assumption)];exact hc)
     obtain⟨z,_,rfl⟩:=dF.1 hm;exact bX _ _
    ·cases hc
 clear d3 hsort;refine wnY and_self ?_;refine aX ev0 ev0 hcmp ?_;rintro r2 H3 nx3 ⟨f1,Hf,H4,hfz,hsn,g4⟩;have hmx:tt l=(ky dx l).filter λs=>!cQ (ky dx l) s:=rfl;rw[hmx];have hasc:=pR A7 l;generalize ky dx l=D at *
 repeat' (first|apply a_n|refine zO ?_|refine vY ?_|fail)
 refine kE ?_;refine tQ Hf H4 [(0,be D),(2,.ptr 0 1 0)] hfz ⟨.inr hsn,.inl rfl,trivial⟩ ?_;clear hfz hsn;refine wnY and_self ?_;refine aX ev0 ev0 (sF D hDl (λs h=>⟨(hD s h).1,by have:=(hD s h).2.1;omega⟩) _ _) ?_;rintro _ H5 nx5 ⟨ks,vs,rfl,hinc,hsame,hlt⟩;have g5:H5 0=some [.esl]:=(hsame 0 (by omega)).trans g4;have hOk:OkS D:=⟨hDl,λs h=>⟨(hD s h).1,(hD s h).2.1⟩⟩
 refine wnY @aU ?_;refine lpI (X:=Nat×AV) (λx=>[(0,be D),(2,.ptr 0 1 0),(3,.mp nx3),(4,.ptr nx5 1 0),(15,be D),(16,.int .i64 D.length),(17,.int .i64 x.1)]) (λx H' nx'=>x.1<=D.length/\nx5<nx'/\(∀y,y<nx5->H' y=H5 y)/\H' nx5=some [x.2]/\Row H' 1 x.2 (((D.take x.1).filter λs=>!cQ D s).map aC)/\∀B,bk x.2=some B->nx5<B/\B<nx') (λx=>D.length-x.1) (0,.esl) ⟨bA _,by omega,λy hy=>ab (by omega),ac,Row.nil,λB h=>(by cases h)⟩ ?_;rintro⟨k,sv⟩ H' nx' ⟨h1,hnx',hsm,gb,hrow,hbd⟩;dsimp only at h1 gb hrow hbd |-;by_cases hk:k<D.length
 rotate_left
 ·rw[iW (by omega)] at hrow;obtain⟨o1,o2⟩:=hrow.one;have g6:H' 0=some [.esl]:=(hsm 0 (by omega)).trans g5;refine wnY (zI4 @gb @g6 @o1 @o2) ?_;exact gy (af (pG (hrow.same λB hB=>ab (by have:=hbd B hB;omega))) ai)
 have ix:=oL hk;have hDk:=hD _ (cr hk);have hpos:0<(D.getD k default).length:=wA.2 hDk.2.2;have hcv:=xq D (D.getD k default) hOk (hOk.2 _ (cr hk)) hpos;have iy:=ix2 (l:=D.getD k default) (k:=0) hpos;rw[show((0:Nat):Int)=0 from rfl] at iy;have hks:(D.getD k default).getD 0 default∈ks:=(hinc.dom _).2 (DS hk (cr hpos));have hmf:=pi ((D.getD k default).getD 0 default) ks;rw[if_pos hks] at hmf;obtain⟨m1,m2⟩:=qB hks;have hr:=hinc.row _ m1;rw[m2] at hr;have hr':=hr.same (H':=H') (λB hB=>hsm B (hinc.bnd _ B m1 hB).2.1);have hbox:=(hsm nx3 hinc.lt).trans hinc.box;have hft:=yv (p:=λs=>!cQ D s) hk
 have hfl:(((D.take k).filter λs=>!cQ D s).map aC).length<=100000:=by
  rw[bC];have:=List.length_filter_le (λs=>!cQ D s) (D.take k);rw[jg] at this;omega
 generalize hsk:D.getD k default=s at *;refine wnY (aI @ix @iy) ?_;refine fC ev0 hbox ev0 (nj _) hmf ?_;rw[show mget .esl false (some (ks.idxOf (s.getD 0 default))) vs=vs.getD (ks.idxOf (s.getD 0 default)) .undef from rfl];refine wnY and_self ?_;cases hb:cQ D s
 ·rw[hb] at hcv hft;rw[if_pos (by decide)] at hft;refine dE ev0 ev0 hcv (aB (af (cU _ _) (af (xo hr') (af (bX _ _) ai))) rfl) ?_;refine wnY and_self ?_;refine uP nx5 gb λS0 hS hsub=>?_;refine wnY @hS ?_;refine eE ?_;refine oE ev0 ev0 (EI s (by omega)) (af (bX _ _) ai) ?_;refine iS ⟨hsub _ gb,?_⟩;refine eE ?_;refine wnY (aI @ce @bN) ?_;refine⟨hsub _ (by rw[ab (by omega)];exact gb),?_⟩;refine gL ?_;refine eR (hrow.same λB hB=>?_) ?_
  ·have:=hbd B hB;rw[ab (by omega)]
  rintro s2 H2 nx2 hr2 i1 i2 i3 i4;have gb2:H2 nx5=some [sv]:=(i3 nx5 (by omega) (λh=>by have:=hbd _ h;omega)).trans (by rw[ab (by omega)];exact gb);obtain⟨o1,o2⟩:=hr2.one;have zz:=aI @gb2 (aI @o1 @o2);repeat' (first|apply a_n|refine zO ?_|refine vY ?_|refine nvY ?_|apply gL|refine stY ?_|fail)
  refine⟨(k+1,s2),by dsimp only;omega,⟨by dsimp only;omega,by omega,λy hy=>?_,by rw[ac];rfl,?_,λB hB=>?_⟩,ag0⟩
  ·rw[ab (by omega),i3 y (by omega) (λh=>by have:=hbd _ h;omega),ab (by omega)];exact hsm y hy
  ·dsimp only;rw[hft,du];refine hr2.same λB hB=>ab ?_;rcases i4 B hB with h|h
   ·have:=hbd B h;omega
   ·omega
  ·rcases i4 B hB with h|h
   ·have:=hbd B h;omega
   ·omega
 ·rw[hb] at hcv hft;rw[if_neg (by decide),gH] at hft;refine dE ev0 ev0 hcv (aB (af (cU _ _) (af (xo hr') (af (bX _ _) ai))) rfl) ?_;refine wnY and_self ?_;exact⟨(k+1,sv),by dsimp only;omega,⟨by dsimp only;omega,hnx',hsm,gb,by dsimp only;rw[hft];exact hrow,hbd⟩,ag0⟩
end
end Go.Proofs.YtmpcledaoigkaaaGreat
namespace Go.Proofs.YtmpcledaoigkaaaGreat
open Go Go.Abs Tk
def neS(l:List Spx):List Spx:=l.filter λs=>decide (s≠[])
theorem Fv(l:List Spx)(s:Spx):neS (l++[s])=if s=[] then neS l else neS l++[s]:=by
 unfold neS;rw[BO];by_cases h:s=[]
 ·subst h;simp
 ·simp[h]
section
attribute [local irreducible] aG ah bg aQ aH aK ay aN aR bq Go.Abs.Fn aP Go.Abs.Pure ak aF Yl
theorem Ay(s:SysV):pU 63 [fZ s,.int .i64 (-1)] (.func 98 [.iptr s.cs 0,.iptr [.int .i64 (-1)] 0]):=by
 refine pO P3 ?_;simp only[b63,av];have hd:=yQ s;unfold fZ;rw[PC.2.2.2.2.2.2.2] at hd |-;refine wnY @PE ?_;exact iz (af (dY rfl rfl (bc hd)) (af (dY rfl rfl (af (.int _ _) ai)) ai))
theorem MP{n R:Nat}(xs:List ExV)(hx:∀x∈xs,XOk n R x)(hn:n<=5)(hR:R<=6)(hl:xs.length<=1000)(c0 c1 c2 c3 c4 c5 c6 c7 c8:AV){y:Nat}{H:Hp}{nx:Nat}(I:List Spx->Hp->Nat->Prop)
    (stab:∀D H n H' n',I D H n->n<=n'->(∀y,y<n->H' y=H y)->I D H' n')
    (rnd:∀D s H n,I D H n->s≠[]->D.length<xs.length->Yl Tryz.prog y [aC s] H n λr H' n'=>r=.bool true/\I (D++[s]) H' n')
    (h0:I [] H nx):
    Abs.Fn Tryz.prog 98 [.yld y,.iptr [c0,c1,c2,c3,c4,c5,c6,c7,c8,eB xs] 0,.iptr [.int .i64 (-1)] 0] H nx λ_ H' nx'=>I (neS (xs.map gN)) H' nx':=by
 refine fO QK ?_;simp only[b98,av];refine wnY @PE ?_;refine br (X:=Nat) (λk=>[(0,.yld y),(2,.iptr [.int .i64 (-1)] 0),(8,eB xs),(9,.int .i64 xs.length),(10,.int .i64 k)]) (λk H n=>k<=xs.length/\I (neS ((xs.take k).map gN)) H n) (λk=>xs.length-k) 0 ⟨bA _,h0⟩ ag0 ?_;clear h0;rintro k H1 n1 ⟨k1,k2⟩;by_cases hk:k<xs.length
 rotate_left
 ·obtain rfl:k=xs.length:=by omega
  rw[List.take_length] at k2;refine wnY @PE ?_;exact k2
 have ix:=ixE hk;have hsx:=sH _ (hx _ (au hk)) hn hR;have hdx:=pK (xs.getD k default);unfold il at hsx hdx;rw[PC.2.2.2.2.2.2.1] at ix hsx hdx;have hns:=Fv ((xs.take k).map gN) (gN (xs.getD k default));have hmt:(xs.take (k+1)).map gN=(xs.take k).map gN++[gN (xs.getD k default)]:=by rw[bO hk,du];rfl
 rw[<-hmt] at hns
 have hDl:(neS ((xs.take k).map gN)).length<xs.length:=by
  have:=List.length_filter_le (λs:Spx=>decide (s≠[])) ((xs.take k).map gN);rw[bC,jg] at this;unfold neS;omega
 have z0:decide ((-1:Int)≥0)=false:=rfl;generalize gN (xs.getD k default)=s at *;by_cases hs:s=[]
 ·subst hs;rw[if_pos rfl] at hns;have z1:decide ((([]:Spx).length:Int)>0)=false:=rfl;refine wnY (zI7 @PE @ix @z0 @z1 @aL @ce @bN) ?_;exact⟨k+1,by omega,⟨by omega,by rw[hns];exact stab _ _ _ _ _ k2 (by omega) λy hy=>by simp (disch:=omega) only[ab]⟩,ag0⟩
 ·rw[if_neg hs] at hns;have hl0:s.length≠0:=λe=>hs (eG.1 e);have z1:decide ((s.length:Int)>0)=true:=bH (by omega);refine wnY (zI7 @PE @ix @z0 @z1 @aL @ce @bN) ?_;refine qD ev0 ev0 (Yl.mono (rnd _ s _ _ (stab _ _ _ _ _ k2 (by omega) λy hy=>by simp (disch:=omega) only[ab]) hs hDl) ?_);rintro r H3 n3 ⟨rfl,q⟩;refine wnY @PE ?_;exact⟨k+1,by omega,⟨by omega,by rw[hns];exact q⟩,ag0⟩
theorem Bx{n R:Nat}(xs:List ExV)(hx:∀x∈xs,XOk n R x)(hn:n<=5)(hR:R<=6)(hl:xs.length<=1000)(c0 c1 c2 c3 c4 c5 c6 c7 c8:AV)(hd:∀x∈[c0,c1,c2,c3,c4,c5,c6,c7,c8,eB xs],Dat x):pU 97 [.esl,.func 98 [.iptr [c0,c1,c2,c3,c4,c5,c6,c7,c8,eB xs] 0,.iptr [.int .i64 (-1)] 0]] (be (neS (xs.map gN))):=by
 refine pO M7 ?_;simp only[b97,av];refine wnY and_self ?_;refine jh 1 2 rfl rfl ev0 (λc0' cj hy=>?_);refine Abs.Fn.mono (MP xs hx hn hR hl c0 c1 c2 c3 c4 c5 c6 c7 c8 (I:=λD H n=>∃sv,2<=n/\H 0=some [sv]/\H 1=some [c0']/\Row H 1 sv (D.map aC)/\∀b,bk sv=some b->2<=b/\b<n) ?_ ?_ ?_) ?_
 ·rintro D H n H' n' ⟨sv,h1,h2,h3,h4,h5⟩ hle hs;exact⟨sv,by omega,(hs 0 (by omega)).trans h2,(hs 1 (by omega)).trans h3,h4.same λb hb=>hs b (h5 b hb).2,λb hb=>by have:=h5 b hb;omega⟩
 ·rintro D s H n ⟨sv,h1,h2,h3,h4,h5⟩ hs0 hDl;refine hy _ _ _ _ h3 rfl ?_;clear hy;refine wnY and_self ?_;refine⟨h3,?_⟩;have w:∀x,x≠1->cC H 1 x=H x:=λx b=>cA b;have k0:=(w 0 (by omega)).trans h2;have krow:Row (cC H 1) 1 sv (D.map aC):=h4.same λb hb=>w b (by have:=h5 b hb;omega);generalize cC H 1=H1 at *;obtain⟨o1,o2⟩:=krow.one;refine wnY (zI3 @k0 @ce @bN) ?_;refine ef (k:=1) (sv:=sv) (cs:=D.map aC) (new:=[aC s]) rfl ev0 (krow.same λb hb=>ab (by have:=h5 b hb;omega)) ev0 (cP rfl) (by simp only[SO,ce,Bool.and_self]) rfl ig (by rw[bC];omega) (by rw[bC];omega) ?_;rintro sv' H3 n3 r1 r2 r3 r4 r5;have v0:H3 0=some [sv]:=by rw[r4 0 (by omega) (λh=>by have:=h5 0 h;omega),ab (by omega)];exact k0
  obtain⟨o5,o6⟩:=r1.one;refine wnY (zI3 @v0 @o5 @o6) ?_
  have hb3:∀b,bk sv'=some b->2<=b/\b<n3:=λb hb=>by
   rcases r5 b hb with h|h
   ·have:=h5 b h;omega
   ·omega
  refine⟨rfl,sv',by omega,by rw[ab (by omega),ac];rfl,ac,?_,hb3⟩;rw[du];exact r1.same λb hb=>by have:=hb3 b hb;simp (disch:=omega) only[ab]
 ·exact⟨.esl,by omega,by simp (disch:=omega) only[ab,ac],ac,.nil,λb h=>(by cases h)⟩
 ·rintro _ H1 n1 ⟨sv,h1,h2,h3,h4,h5⟩;refine .inl ⟨h3,?_⟩;clear hy;have w:∀x,x≠1->cC H1 1 x=H1 x:=λx b=>cA b;have k0:=(w 0 (by omega)).trans h2;have krow:Row (cC H1 1) 1 sv ((neS (xs.map gN)).map aC):=h4.same λb hb=>w b (by have:=h5 b hb;omega);generalize cC H1 1=H2 at *;refine wnY @k0 ?_;exact pG krow
theorem Cj{n R:Nat}(xs:List ExV)(hx:∀x∈xs,XOk n R x)(hn:n<=5)(hR:R<=6)(hl:xs.length<=1000)(c0 c1 c2 c3 c4 c5 c6 c7 c8:AV)(hd:∀x∈[c0,c1,c2,c3,c4,c5,c6,c7,c8,eB xs],Dat x):pU 62 [.func 98 [.iptr [c0,c1,c2,c3,c4,c5,c6,c7,c8,eB xs] 0,.iptr [.int .i64 (-1)] 0]] (be (neS (xs.map gN))):=by
 refine pO Md ?_;simp only[b62,av];have h:=Bx xs hx hn hR hl c0 c1 c2 c3 c4 c5 c6 c7 c8 hd;have zz:=aI @bM @bu;repeat' (first|refine zW ?_|apply a_n|refine zO ?_|refine vY ?_|refine cY ?_ (hp:=h) (hs:=by(first|refine aB ?_ rfl|apply aS);(repeat' (first|exact ai|apply bI|apply bd|exact Dat.esl|exact Dat.func (DatL.cons (Dat.iptr hd) (DatL.cons (Dat.iptr (DatL.cons .int DatL.nil)) DatL.nil))));first|done|fail)|refine bn rfl ?_|refine r1Y ?_|fail)
 exact Dat.snap (cU _)
end
end Go.Proofs.YtmpcledaoigkaaaGreat
namespace Go.Proofs.YtmpcledaoigkaaaGreat
open Go Go.Abs
section
attribute [local irreducible] aG ah bg aQ aH aK ay aN aR bq Go.Abs.Fn aP Go.Abs.Pure ak aF Yl
theorem MH(l:List Spx)(hl:l.length<=4096)(hs:∀s∈l,de s=0):pU 61 [be l] (.tup [kP (tt l),.int .i64 0]):=by
 refine pO PR ?_;simp only[b61,av]
 have hc:=zT l (by omega) (fun s h=>by
  obtain⟨p1,p2,p3,p4⟩:=eX (hs s h);exact⟨p3,by omega,λe=>by rw[e] at p1;simp at p1⟩)
 have z0:decide ((0:Int)≠0)=false:=rfl;have z1:decide ((4096:Int)<l.length)=false:=bL (by omega);refine wnY (aI @aU @z1) ?_;refine lpI (X:=Nat) (λk=>[(0,be l),(2,.ptr 0 1 0),(11,be l),(12,.int .i64 l.length),(13,.int .i64 k)]) (λk H nx=>k<=l.length/\H 0=some [.esl]) (λk=>l.length-k) 0 ⟨bA _,ac⟩ ?_;rintro k H nx ⟨h1,g0⟩;by_cases hk:k<l.length
 rotate_left
 ·refine wnY (zI3 @g0 @bM @bu) ?_;exact Ll (cU _).snap rfl
 have ix:=oL hk;have hx:=lS (l.getD k default) (by have:=(eX (hs _ (cr hk))).2.1;show _<=_;omega);rw[hs _ (cr hk)] at hx;refine wnY (aI @ix @z0) ?_;exact⟨k+1,by omega,⟨by omega,g0⟩,ag0⟩
end
end Go.Proofs.YtmpcledaoigkaaaGreat
namespace Go.Proofs.YtmpcledaoigkaaaGreat
open Go Go.Abs Tk
open Nat (reduceEqDiff reduceAdd reduceLeDiff)
theorem yO(x:ExV):∀q,∀v∈s9 x q,v.color<(q:Nat)
 |0,v,h=>(by cases h)
 |q+1,v,h=>by
  rw[oB] at h;split at h
  ·have:=yO x q v h;omega
  ·rcases gV.1 h with h|h
   ·have:=yO x q v h;omega
   ·rw[ed.1 h];show(q:Int)<(q+1:Nat);omega
theorem ve(x:ExV):∀q,fQ eM (s9 x q)
 |0=>BS
 |q+1=>by
  rw[oB];split
  ·exact ve x q
  ·unfold fQ;rw[List.pairwise_append];refine⟨ve x q,List.pairwise_singleton _ _,λv hv w hw=>?_⟩;rw[ed.1 hw];have:=yO x q v hv;unfold eM;rw[if_pos (by show v.color<(q:Int);omega)];decide
theorem wX{n R:Nat}{x:ExV}(hx:XOk n R x)(hn:n<=5)(h:gN x≠[]):de (gN x)=0:=by
 obtain⟨l1,l2⟩:=hx.last;have hlen:=v7 x (eh x).length;have h0:(gN x).length≠0:=λe=>h (eG.1 e);refine FZ ⟨by omega,by unfold gN;omega⟩ (ve x _) λv hv=>?_;obtain⟨i,h1,h2,rfl⟩:=vu.1 hv;have h3:0<=(eh x).getD i 0/\(eh x).getD i 0<=5000:=l2 _ (au h1);unfold jt;simp only[d9,gI];omega
def iZ(p:PrbV):List Spx:=tt (neS (ez p))
theorem lM(p:PrbV):(ez p).length=(bG p).execs.length:=bC _
def DE:AV:=.agg [.int .i64 0,.int .i64 0,.int .i64 0,.esl,.int .i64 0,.esl,.int .i64 0,.int .i64 0,.esl,.esl]
theorem LV{T:Tm}{H:Hp}{K:AV->Prop}{a b c d:RV}{x y z u:AV}(ha:rv T H a=some x)(hb:rv T H b=some y)(hc:rv T H c=some z)(hd:rv T H d=some u)(h:K (.tup [x,y,z,u])):bq T H K [a,b,c,d]:=by
 show yP T H [a,b,c,d] λxs=>K (.tup xs);simp only[yP,ha,hb,hc,hd];exact h
theorem RVE:(∀(T:Tm)(H:Hp)(n:Nat),rv T H (.t n)=some (T n))/\(∀(T:Tm)(H:Hp)(n k:Nat),rv T H (.cn n k)=(rd H k (T n)).map .agg):=⟨λ_ _ _=>rfl,λ_ _ _ _=>rfl⟩
def Ek(a b:Int):MvV:=⟨⟨2,a,b,0,0,0,0⟩,0⟩
def P14:PrbV:=⟨⟨2,2,2,[⟨[0,0],[[0,0]],[]⟩,⟨[0,1],[[0,0],[1,1]],[]⟩,⟨[1,0],[[0,0],[1,1]],[]⟩,⟨[1,1],[[1,1]],[]⟩]⟩,⟨2,[[Ek 1 3,Ek 3 2,Ek 3 3]]⟩,1⟩
theorem IL:OkP P14:=by
 refine v9 ⟨?_,?_,?_,?_⟩ (by decide+kernel)
 ·intro c hc;simp only[P14,fR,List.not_mem_nil,or_false] at hc;rcases hc with rfl|rfl|rfl|rfl<;>exact⟨by show _<=_;decide,by show _<=_;decide,λx hx=>by simp at hx;rcases hx with rfl|rfl<;>(show _<=_;decide),by show _<=_;decide,λx hx=>(by cases hx)⟩
 ·show _<=_;decide
 ·decide
 ·intro l hl;simp only[P14,fR,List.not_mem_nil,or_false] at hl;subst hl;decide
theorem A4{sz:Nat}:∀{l:List AV}{i j:Nat}{y c:AV},(∀y∈l,y.cells.length=sz)->l[i]?=some y->y.cells[j]?=some c->(l.flatMap AV.cells)[i*sz+j]?=some c
 |[],i,j,y,c,_,h,_=>by simp at h
 |x::l,0,j,y,c,hc,h,hj=>by
  simp at h;subst h;have hlt:=(bZ.1 hj).1;rw[l8,oV,cp,gZ hlt];exact hj
 |x::l,i+1,j,y,c,hc,h,hj=>by
  have hx:=hc x (jZ ..);rw[l8,iG (by rw[hx,eJ];omega),hx,show(i+1)*sz+j-sz=i*sz+j by rw[eJ];omega];exact A4 (λy hy=>hc y (pF _ hy)) (by simpa using h) hj
theorem lG{H:Hp}{b n sz off len:Nat}{cs l':List AV}(hb:H b=some cs)(hn:cs.length=n)(hfit:off+len*sz<=n)(hl:l'.length=len)(hc:∀y∈l',y.cells.length=sz)(h:aF H ((cs.drop off).take (len*sz)) (l'.flatMap AV.cells)):Snap H (.msl b n sz off len) (.sl sz l'):=
 .msl b n sz off len cs l' hb hn hfit hl hc λi j y a c hy hcj ha=>by
  have h1:=A4 hc hy hcj;have hi:i<len:=by have:=(bZ.1 hy).1;omega
  have hj:j<sz:=by have:=(bZ.1 hcj).1;rw[hc y (iX hy)] at this;exact this
  have hij:i*sz+j<len*sz:=by
   have:(i+1)*sz<=len*sz:=j4 _ hi;rw[eJ] at this;omega
  refine h.2 (i*sz+j) a c ?_ h1;rw[jH,if_pos hij,kC,<-qw];exact ha
def wQ:List MvV:=[Ek 1 3,Ek 3 2,Ek 3 3]
theorem TN3:(0:Int).toNat=0/\(1:Int).toNat=1/\(2:Int).toNat=2/\0*2=0/\1*2=2/\2*2=4:=⟨rfl,rfl,rfl,rfl,rfl,rfl⟩
section
attribute [local irreducible] aG ah bg aQ aH aK ay aN aR bq Go.Abs.Fn aP Go.Abs.Pure ak aF Yl
theorem w7(p:PrbV)(h:OkP p):pU 13 [fZ (bG p)] (.tup [kP (iZ p),.int .i64 0]):=by
 obtain⟨s1,s2,s3,s4⟩:=jo p h;obtain⟨hck,-,-,-,r6⟩:=fg h.e0;obtain⟨n1,n5,-,-⟩:=dv hck;have hv:=uX p h;have hsm:=Ay (bG p);have hd:=eO (bG p);have hcs:=yQ (bG p)
 have hof:=MH (neS (ez p)) (by
  have:=List.length_filter_le (λs:Spx=>decide (s≠[])) (ez p);rw[lM] at this;unfold neS;omega) (λs hs=>by
  obtain⟨h1,h2⟩:=jY.1 hs;obtain⟨x,hx,rfl⟩:=dF.1 h1;exact wX (s4 x hx) (by omega) (sV h2))
 rw[PC.2.2.2.2.2.2.2] at hcs;have hco:=Cj (bG p).execs s4 (by omega) (by omega) (by omega) _ _ _ _ _ _ _ _ _ hcs;rw[show(bG p).execs.map gN=ez p from rfl] at hco
 have hw:pU 34 [fZ (bG p),.int .i64 (-1)] (.tup [kP (iZ p),.int .i64 0]):=by
  refine pO PD ?_;simp only[b34,av];unfold fZ at hsm hd |-;rw[PC.2.2.2.2.2.2.2] at hsm hd |-;unfold iZ;unfold kP at hof |-;have zz:=aI @PE (aI @bM @bu);repeat' (first|refine zW ?_|apply a_n|refine zO ?_|refine vY ?_|refine cY ?_ (hp:=by first|exact hsm|exact hco|exact hof) (hs:=by(first|refine aB ?_ rfl|apply aS);(repeat' (first|exact ai|apply bI|apply bd|exact hd|exact cU _|exact Dat.func (DatL.cons (Dat.iptr hcs) (DatL.cons (Dat.iptr (DatL.cons .int DatL.nil)) DatL.nil))));first|done|fail)|refine alY ?_|refine bxY ?_|refine stY ?_|refine bn rfl ?_|refine r2Y ?_|fail)
  exact cR (af (gy (af (Dat.snap (cU _)) ai)) (af (.int _ _) ai))
 refine pO P6 ?_;simp only[b13,av];unfold fZ at hv hd hw |-;rw[PC.2.2.2.2.2.2.2] at hv hd hw |-;unfold kP at hw |-;refine wnY (zI3 @PE @bM @bu) ?_;exact cR (af (gy (af (Dat.snap (cU _)) ai)) (af (.int _ _) ai))
theorem zK(p:PrbV)(hs:ShP p)(h:iI p=false):pU 6 [cT p] (.tup [DE,be [],.bool false,.bool true]):=by
 refine pO is6 ?_;simp only[b6,av];have hr:=Di p hs;have hd:=fh p;rw[h] at hr;unfold cT at hr hd |-;rw[PC.2.2.2.2.1] at hr hd |-;refine wnY @PE ?_;refine LV (x:=DE) (y:=.esl) (z:=.bool false) (u:=.bool true) (by unfold DE;((try simp (disch:=omega) only[c9,ZA,reduceEqDiff,↓reduceIte,reduceAdd,reduceLeDiff,RVE]);(try with_reducible rfl))) (have zz:=@RVE;evY) (have zz:=@RVE;evY) (have zz:=@RVE;evY) ?_;exact cR (af (Dat.snap (Dat.agg (DatL.cons .int (DatL.cons .int (DatL.cons .int (DatL.cons .esl (DatL.cons .int (DatL.cons .esl (DatL.cons .int (DatL.cons .int (DatL.cons .esl (DatL.cons .esl DatL.nil)))))))))))) (af (.eslsl 1) (af (.bool _) (af (.bool _) ai))))
theorem Bj(p:PrbV)(hs:ShP p)(hr1:iI p=true)(h:OkP p):pU 6 [cT p] (.tup [fZ (bG p),be (ez p),.bool true,.bool true]):=by
 refine pO is6 ?_;simp only[b6,av];have hr:=Di p hs;rw[hr1] at hr;have hb:=zh p h;have hsx:=λi hi=>Eg p h i hi;obtain⟨s1,s2,s3,s4⟩:=jo p h;have hd:=fh p;have hds:=eO (bG p)
 have hgs:∀i,i<(bG p).execs.length->gN ((bG p).execs.getD i default)=(ez p).getD i default:=λi hi=>by
  simp[ez,List.getD,hi]
 have hll:=lM p;rw[show fZ (bG p)=.agg (bG p).cs from rfl,PC.2.2.2.2.2.2.2] at hb hsx hds |-;unfold cT at hr hd hb |-;rw[PC.2.2.2.2.1] at hr hd hb |-;generalize (bG p).execs=xs at *;generalize (bG p).views=vs at *;generalize ez p=l at *;have z0:decide ((xs.length:Int)=0)=false:=bL (by omega);refine wnY (aI @PE @z0) ?_
 refine br (X:=Nat×AV) (λx=>[(2,.ptr 1 10 0),(6,.ptr 2 10 0),(8,x.2),(32,.int .i64 xs.length),(33,.int .i64 x.1)]) (λx H n'=>x.1<=xs.length/\3<=n'/\H 1=some [.int .i64 0,.int .i64 0,.int .i64 0,.esl,.int .i64 0,.esl,.int .i64 0,.int .i64 0,.esl,.esl]/\H 2=some [.int .i64 (bG p).prob.task.n,.int .i64 (bG p).prob.task.ins,.int .i64 (bG p).prob.task.outs,cI (bG p).prob.task.cases,.int .i64 (bG p).prob.adv.n,bj (bG p).prob.adv.states,.int .i64 (bG p).prob.rounds,.int .i64 (bG p).tn,dK vs,eB xs]/\Row H 1 x.2 ((l.take x.1).map aC)/\∀b,bk x.2=some b->3<=b/\b<n') (λx=>xs.length-x.1) (0,.esl)
  ⟨bA _,by omega,by simp (disch:=omega) only[ab,ac],by simp (disch:=omega) only[ac];rfl,.nil,λb h=>(by cases h)⟩ (by simp (disch:=omega) only[agr,ZG,reduceEqDiff,↓reduceIte,SL]) ?_
 rintro⟨k,ro⟩ H nx ⟨hk,hnx,g1,g2,hrow,hb2⟩;dsimp only at hk hrow hb2 |-;obtain⟨o1,o2⟩:=hrow.one;by_cases hk2:k<xs.length
 rotate_left
 ·obtain rfl:k=xs.length:=by omega
  rw[<-hll,List.take_length] at hrow;refine wnY (zI5 @PE @g1 @g2 @o1 @o2) ?_;refine LV (x:=.agg [.int .i64 (bG p).prob.task.n,.int .i64 (bG p).prob.task.ins,.int .i64 (bG p).prob.task.outs,cI (bG p).prob.task.cases,.int .i64 (bG p).prob.adv.n,bj (bG p).prob.adv.states,.int .i64 (bG p).prob.rounds,.int .i64 (bG p).tn,dK vs,eB xs]) (y:=ro) (z:=.bool true) (u:=.bool true) (have zz:=@RVE;evY) (have zz:=@RVE;evY) (have zz:=@RVE;evY) (have zz:=@RVE;evY) ?_;exact cR (af (Dat.snap hds) (af (pG (hrow.same λb h=>ab (by have:=hb2 b h;omega))) (af (.bool _) (af (.bool _) ai))))
 have hx:=hsx k hk2;rw[hgs k hk2] at hx;have htk:(l.take (k+1)).map aC=(l.take k).map aC++[aC (l.getD k default)]:=by rw[bO (by omega),du];rfl
 generalize l.getD k default=s at *;have hrl:((l.take k).map aC).length<=60:=by rw[bC,jg];omega
 by_cases hse:s=[]
 ·rw[if_pos hse] at hx;refine wnY (zI5 @PE @g1 @g2 @ce @bN) ?_;refine ef (k:=1) (sv:=ro) (cs:=(l.take k).map aC) (new:=[aC s]) rfl ev0 (hrow.same λb h=>ab (by have:=hb2 b h;omega)) ev0 (cP rfl) (by simp only[SO,ce,Bool.and_self]) rfl ig (by omega) (by omega) ?_;rintro r2 H3 n3 r1 r2' r3 r4 r5;refine wnY @PE ?_;have hz:∀y,y<3->bk ro≠some y:=λy hy h=>by have:=hb2 y h;omega
  refine⟨(k+1,r2),by dsimp only;omega,⟨by dsimp only;omega,by omega,by rw[r4 1 (by omega) (hz 1 (by omega)),ab (by omega)];exact g1,by rw[r4 2 (by omega) (hz 2 (by omega)),ab (by omega)];exact g2,by dsimp only;rw[htk];exact r1,λb h=>?_⟩,ag0⟩;rcases r5 b h with h|h
  ·have:=hb2 b h;omega
  ·omega
 ·rw[if_neg hse] at hx;refine wnY (zI5 @PE @g1 @g2 @ce @bN) ?_;refine ef (k:=1) (sv:=ro) (cs:=(l.take k).map aC) (new:=[aC s]) rfl ev0 (hrow.same λb h=>ab (by have:=hb2 b h;omega)) ev0 (cP rfl) (by simp only[SO,ce,Bool.and_self]) rfl ig (by omega) (by omega) ?_;rintro r2 H3 n3 r1 r2' r3 r4 r5;refine wnY @PE ?_;have hz:∀y,y<3->bk ro≠some y:=λy hy h=>by have:=hb2 y h;omega
  refine⟨(k+1,r2),by dsimp only;omega,⟨by dsimp only;omega,by omega,by rw[r4 1 (by omega) (hz 1 (by omega)),ab (by omega)];exact g1,by rw[r4 2 (by omega) (hz 2 (by omega)),ab (by omega)];exact g2,by dsimp only;rw[htk];exact r1,λb h=>?_⟩,ag0⟩;rcases r5 b h with h|h
  ·have:=hb2 b h;omega
  ·omega
theorem IJ:pU 21 [.int .i64 1] (cT P14):=by
 refine pO Pp ?_;simp only[b21,av];have q1:lq 1 (.msl 3 2 1 0 2) none (some (.int .i64 1)) none=some (.msl 3 2 1 0 1):=rfl;have q2:lq 1 (.msl 3 2 1 0 2) (some (.int .i64 1)) none none=some (.msl 3 2 1 1 1):=rfl;refine wnY (aI @q1 @q2) ?_;generalize hB:ap (ap _ _ _) _ _=B;have b0:B 0=some [.int .i64 0,.int .i64 0,.int .i64 0,.esl,.int .i64 0,.esl,.int .i64 0]:=by rw[<-hB];simp (disch:=omega) only[ab,ac]
 have b1:B 1=some [.int .i64 0,.int .i64 0]:=by rw[<-hB];simp (disch:=omega) only[ab,ac]
 have b2:B 2=some [.int .i64 1,.int .i64 1]:=by rw[<-hB];simp (disch:=omega) only[ab,ac]
 have b3:B 3=some [.msl 1 2 1 0 2,.msl 2 2 1 0 2]:=by rw[<-hB];simp (disch:=omega) only[ab,ac]
 have b4:B 4=some [.int .i64 0,.int .i64 0]:=by rw[<-hB];simp (disch:=omega) only[ab,ac]
 have b5:B 5=some [.int .i64 0,.int .i64 1]:=by rw[<-hB];simp (disch:=omega) only[ab,ac]
 have b6:B 6=some [.int .i64 1,.int .i64 0]:=by rw[<-hB];simp (disch:=omega) only[ab,ac]
 have b7:B 7=some [.int .i64 1,.int .i64 1]:=by rw[<-hB];simp (disch:=omega) only[ab,ac]
 have b8:B 8=some [.msl 4 2 1 0 2,.msl 3 2 1 0 1,.esl,.msl 5 2 1 0 2,.msl 3 2 1 0 2,.esl,.msl 6 2 1 0 2,.msl 3 2 1 0 2,.esl,.msl 7 2 1 0 2,.msl 3 2 1 1 1,.esl]:=by rw[<-hB];simp (disch:=omega) only[ab,ac]
 have b9:B 9=some [.int .i64 2,.int .i64 2,.int .i64 2,.msl 8 12 3 0 4]:=by rw[<-hB];simp (disch:=omega) only[ab,ac];rfl
 have b10:B 10=some [.int .i64 1,.int .i64 3,.int .i64 3,.int .i64 2,.int .i64 3,.int .i64 3]:=by rw[<-hB];simp (disch:=omega) only[ab,ac]
 clear hB;refine br (X:=Nat×AV) (λx=>[(0,.int .i64 1),(2,.ptr 0 7 0),(4,.ptr 9 4 0),(5,x.2),(30,.msl 10 6 2 0 3),(31,.int .i64 (3:Nat)),(32,.int .i64 x.1)]) (λx H n'=>x.1<=3/\11<=n'/\(∀y,y<11->H y=B y)/\Row H 8 x.2 (cL iU (wQ.take x.1))/\∀b,bk x.2=some b->11<=b/\b<n') (λx=>3-x.1) (0,.esl) ⟨by omega,by omega,λ_ _=>rfl,.nil,λb h=>(by cases h)⟩ (by simp (disch:=omega) only[agr,ZG,reduceEqDiff,↓reduceIte,SL]) ?_;rintro⟨k,ro⟩ H nx ⟨hk,hnx,fr,hrow,hb⟩;dsimp only at hk hrow hb |-;obtain⟨o1,o2⟩:=hrow.one;have gA:=(fr 10 (by omega)).trans b10;have i0:cu 2 (.msl 10 6 2 0 3) (.int .i64 ((0:Nat):Int))=some (.ptr 10 6 0):=rfl;have i1:cu 2 (.msl 10 6 2 0 3) (.int .i64 ((1:Nat):Int))=some (.ptr 10 6 2):=rfl;have i2:cu 2 (.msl 10 6 2 0 3) (.int .i64 ((2:Nat):Int))=some (.ptr 10 6 4):=rfl;have r0:rd H 2 (.ptr 10 6 0)=some [.int .i64 1,.int .i64 3]:=by rw[SR.2.1,gA];rfl
 have r1:rd H 2 (.ptr 10 6 2)=some [.int .i64 3,.int .i64 2]:=by rw[SR.2.1,gA];rfl
 have r2:rd H 2 (.ptr 10 6 4)=some [.int .i64 3,.int .i64 3]:=by rw[SR.2.1,gA];rfl
 rcases(by omega:k=0\/k=1\/k=2\/k=3) with rfl|rfl|rfl|rfl
 ·refine wnY (zI8 @IX @TN3 @r0 @r1 @r2 @i0 @i1 @i2) ?_;refine ef (k:=1) (sv:=ro) (xv:=.msl (nx+1) 8 8 0 1) (cs:=cL iU (wQ.take 0)) (new:=[.int .i64 2,.int .i64 1,.int .i64 3,.int .i64 0,.int .i64 0,.int .i64 0,.int .i64 0,.int .i64 0]) rfl ev0 (hrow.same λb h=>by have:=hb b h;simp (disch:=omega) only[ab]) ev0 (cP rfl) rfl rfl (by omega) (by decide) (by decide) ?_;rintro r2 H3 n3 r1 r2' r3 r4 r5;refine wnY and_self ?_;refine⟨(0+1,r2),by dsimp only;omega,⟨by dsimp only;omega,by omega,λy hy=>by rw[r4 y (by omega) (λh=>by have:=hb y h;omega)];simp (disch:=omega) only[ab];exact fr y hy,r1,λb h=>?_⟩,ag0⟩;rcases r5 b h with h|h
  ·have:=hb b h;omega
  ·omega
 ·refine wnY (zI8 @IX @TN3 @r0 @r1 @r2 @i0 @i1 @i2) ?_;refine ef (k:=1) (sv:=ro) (xv:=.msl (nx+1) 8 8 0 1) (cs:=cL iU (wQ.take 1)) (new:=[.int .i64 2,.int .i64 3,.int .i64 2,.int .i64 0,.int .i64 0,.int .i64 0,.int .i64 0,.int .i64 0]) rfl ev0 (hrow.same λb h=>by have:=hb b h;simp (disch:=omega) only[ab]) ev0 (cP rfl) rfl rfl (by omega) (by decide) (by decide) ?_;rintro r2 H3 n3 r1 r2' r3 r4 r5;refine wnY and_self ?_;refine⟨(1+1,r2),by dsimp only;omega,⟨by dsimp only;omega,by omega,λy hy=>by rw[r4 y (by omega) (λh=>by have:=hb y h;omega)];simp (disch:=omega) only[ab];exact fr y hy,r1,λb h=>?_⟩,ag0⟩;rcases r5 b h with h|h
  ·have:=hb b h;omega
  ·omega
 ·refine wnY (zI8 @IX @TN3 @r0 @r1 @r2 @i0 @i1 @i2) ?_;refine ef (k:=1) (sv:=ro) (xv:=.msl (nx+1) 8 8 0 1) (cs:=cL iU (wQ.take 2)) (new:=[.int .i64 2,.int .i64 3,.int .i64 3,.int .i64 0,.int .i64 0,.int .i64 0,.int .i64 0,.int .i64 0]) rfl ev0 (hrow.same λb h=>by have:=hb b h;simp (disch:=omega) only[ab]) ev0 (cP rfl) rfl rfl (by omega) (by decide) (by decide) ?_;rintro r2 H3 n3 r1 r2' r3 r4 r5;refine wnY and_self ?_;refine⟨(2+1,r2),by dsimp only;omega,⟨by dsimp only;omega,by omega,λy hy=>by rw[r4 y (by omega) (λh=>by have:=hb y h;omega)];simp (disch:=omega) only[ab];exact fr y hy,r1,λb h=>?_⟩,ag0⟩;rcases r5 b h with h|h
  ·have:=hb b h;omega
  ·omega
 ·have g0:=(fr 0 (by omega)).trans b0;have g9:=(fr 9 (by omega)).trans b9;refine wnY (zI4 @g0 @g9 @o1 @o2) ?_;generalize hH5:ap (ap H nx [ro]) 0 _=H5;have f5:∀y,0<y->y<11->H5 y=B y:=λy h1 h2=>by rw[<-hH5];simp (disch:=omega) only[ab];exact fr y h2
  have cn:H5 nx=some [ro]:=by rw[<-hH5];simp (disch:=omega) only[ab,ac]
  have hr5:Row H5 8 ro (cL iU wQ):=hrow.same λb h=>by have:=hb b h;rw[<-hH5];simp (disch:=omega) only[ab]
  have s1:Snap H5 (.msl 1 2 1 0 2) (aD [0,0]):=Row.snapI (Row.box1 ((f5 1 (by omega) (by omega)).trans b1) rfl);have s2:Snap H5 (.msl 2 2 1 0 2) (aD [1,1]):=Row.snapI (Row.box1 ((f5 2 (by omega) (by omega)).trans b2) rfl);have s4:Snap H5 (.msl 4 2 1 0 2) (aD [0,0]):=Row.snapI (Row.box1 ((f5 4 (by omega) (by omega)).trans b4) rfl);have s5:Snap H5 (.msl 5 2 1 0 2) (aD [0,1]):=Row.snapI (Row.box1 ((f5 5 (by omega) (by omega)).trans b5) rfl);have s6:Snap H5 (.msl 6 2 1 0 2) (aD [1,0]):=Row.snapI (Row.box1 ((f5 6 (by omega) (by omega)).trans b6) rfl);have s7:Snap H5 (.msl 7 2 1 0 2) (aD [1,1]):=Row.snapI (Row.box1 ((f5 7 (by omega) (by omega)).trans b7) rfl);have e3:=(f5 3 (by omega) (by omega)).trans b3;have e8:=(f5 8 (by omega) (by omega)).trans b8;have sb:Snap H5 (.msl 3 2 1 0 2) (bm [[0,0],[1,1]]):=lG e3 rfl (by decide) rfl (λy hy=>by simp at hy;rcases hy with rfl|rfl<;>rfl) (af s1 (af s2 ai));have sb1:Snap H5 (.msl 3 2 1 0 1) (bm [[0,0]]):=lG e3 rfl (by decide) rfl (λy hy=>by simp at hy;subst hy;rfl) (af s1 ai);have sb2:Snap H5 (.msl 3 2 1 1 1) (bm [[1,1]]):=lG e3 rfl (by decide) rfl (λy hy=>by simp at hy;subst hy;rfl) (af s2 ai);have se:Snap H5 .esl (bm []):=.eslsl 1
  have sc:Snap H5 (.msl 8 12 3 0 4) (cI P14.task.cases):=lG e8 rfl (by decide) rfl (fun y hy=>by
   obtain⟨c,_,rfl⟩:=dF.1 hy;rfl) (af s4 (af sb1 (af se (af s5 (af sb (af se (af s6 (af sb (af se (af s7 (af sb2 (af se ai))))))))))))
  have sm:Snap H5 (.msl nx 1 1 0 1) (bj [wQ]):=lG cn rfl (by decide) rfl (fun y hy=>by
   obtain⟨c,_,rfl⟩:=dF.1 hy;rfl) (af (qW (f:=iU) (by omega) (λ_=>rfl) (λx=>yI x) hr5) ai)
  exact gy (af (.int _ _) (af (.int _ _) (af (.int _ _) (af sc (af (.int _ _) (af sm (af (.int _ _) ai)))))))
end
end Go.Proofs.YtmpcledaoigkaaaGreat
