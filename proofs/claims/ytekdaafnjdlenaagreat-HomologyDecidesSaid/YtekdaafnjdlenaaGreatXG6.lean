/- Texts of this claim, one after the other: T226, T227, T228, T170, T172, T173, T151, T171, T146, T174, T175, T176, T177, T179, T178, T180, T181, T144, T147, T148, T182, T183, T185, T190, T186, T187, T229, T230, T231, T232, T233, T234, T235, T236, T245, T246, T243, T244, T261, U2i, U14i. -/
import Derived.Test.YtekdaafnjdlenaaGreatXG5
import Derived.Test.YtekdaafnjdlenaaGreatXG4
import Derived.Test.YtekdaafnjdlenaaGreatXG3

set_option linter.unusedSimpArgs false
set_option linter.unusedVariables false
set_option maxHeartbeats 1000000
namespace Go.Proofs.YtekdaafnjdlenaaGreat
open Go Go.Abs
theorem vT{M:List Ln}{v:List Int}(hM:RedU M)(hv:Sp (M.map Prod.fst) v)(h:∀l∈M,ld l.1∉v):v=[]:=by
 have hn:(M.map Prod.fst).Nodup:=List.pairwise_map.2 (List.Pairwise.imp_of_mem (fun{a b} ha hb hab e=>hab (hM.own b hb a ha (by rw[e];exact dj (hM.ne b hb)))) hM.nodup);obtain⟨av,p,hp⟩:=wL (fI hM) hn hv
 have hpf:∀r∈M.map Prod.fst,¬p r=true:=fun r hr hpr=>by
  obtain⟨l,hl,rfl⟩:=bE.1 hr;have h1:=hp (ld l.1)
  rw [sX hn hr (dj (hM.ne l hl)) (fun q hq hz=>by
   obtain⟨m,hm,rfl⟩:=bE.1 hq;rw[hM.own l hl m hm hz]),if_pos hpr] at h1
  exact h l hl (dF.1 (by omega))
 exact ow fun z=>by rw[hp z,mZ fun q hq hpq=>absurd hpq (hpf q hq)]
def lC(R:List (List Int))(z j:Int):Nat:=bit z (R.getD j.toNat default)
theorem uY{f:Ln→List Int}{z:Int}{p:Ln→Bool}:∀{E:List Ln},(∀l∈E,z∉f l)→kD f z p E=0
 |[],_=>rfl
 |r::E,h=>by
  unfold kD;have hb:bit z (f r)=0:=by unfold bit;rw[if_neg (h r (cJ ..))]
  rw[hb,uY fun l hl=>h l (dL _ hl)];split<;>rfl
theorem xw{R:List (List Int)}(hR:∀r∈R,bd r){i:Nat}(hi:i≤R.length):∀{w:List Int},(∀j∈w,0≤j∧j<(i:Int))→∃v,Sp (R.take i) v∧∀z,bit z v=bJ (lC R z) w%2
 |[],_=>⟨[],Sp.nil,fun z=>fP⟩
 |j::w,h=>by
  obtain⟨v,h1,h2⟩:=xw hR hi (w:=w) fun k hk=>h k (dL _ hk);have hj:=h j (cJ ..);have hT:∀r∈R.take i,bd r:=fun r hr=>hR r (kP hr)
  have hm:R.getD j.toNat default∈R.take i:=by
   have hk:j.toNat<(R.take i).length:=by rw[iz];omega
   have:=ay hk
   rwa [show(R.take i).getD j.toNat default=R.getD j.toNat default by simp[List.getD,iC,show j.toNat<i by omega]] at this
  refine⟨_,Sp.add h1 hm,fun z=>?_⟩;rw[dE (kV hT h1) (hT _ hm),h2];show _=(bit z (R.getD j.toNat default)+bJ (lC R z) w)%2;omega
theorem sF{R:List (List Int)}(hR:∀r∈R,bd r):∀{i:Nat},i≤R.length→∀{y:List Int},bd y→(∀j∈y,0≤j∧j<(i:Int))→(∀z,bJ (lC R z) y%2=0)→Sp (stE R i).2 y
 |0,_,y,_,hr,_=>by
  cases y with
  |nil=>exact Sp.nil
  |cons j l=>have:=hr j (cJ ..);omega
 |i+1,hi,y,hy,hr,h0=>by
  have ih:=fun{y}=>sF hR (i:=i) (by omega) (y:=y);have hs:=gf hR (i:=i) (by omega);have hx:cq (R.getD i default,[(i:Int)]):=⟨hR _ (ay (by omega)),List.pairwise_singleton ..⟩
  have hya:cq (e6 (stE R i).1 (R.getD i default,[(i:Int)])):=iO hs.red.asc hx;have hyn:=fun l hl=>mV hs.red hx (l:=l) hl;have hysp:Sp ((stE R i).1.map Prod.fst) (bX (R.getD i default) (e6 (stE R i).1 (R.getD i default,[(i:Int)])).1):=xC (fI hs.red) (fun l hl=>⟨hs.red.asc l hl,bE.2 ⟨l,hl,rfl⟩⟩) hx
  have hxo:lJ R (i + 1) (R.getD i default,[(i:Int)]):=⟨fun z=>by
   have:=gu (z:=z) (a:=R.getD i default);show bit z (R.getD i default)=(bit z (R.getD ((i:Nat):Int).toNat default)+0)%2;rw[cw];omega,fun j hj=>by rw[cV.1 hj];omega⟩
  have hyo:lJ R (i+1) (e6 (stE R i).1 (R.getD i default,[(i:Int)])):=rZ (fun l hl=>⟨hs.red.asc l hl,(hs.ok l hl).mono (by omega)⟩) hx hxo
  have hbi:bit (i:Int) (e6 (stE R i).1 (R.getD i default,[(i:Int)])).2=1:=by
   unfold e6;rw[lV hs.red.asc hx,uY fun l hl h=>by have:=(hs.ok l hl).2 _ h;omega];show(bit (i:Int) [(i:Int)]+0)%2=1;rw[dF.2 (cV.2 rfl)]
  have ha:∀r∈(stE R i).2,bd r:=fun r hr=>(hs.dep r hr).1.2;by_cases hiy:(i:Int)∈y
  ·have hone:bd [(i:Int)]:=List.pairwise_singleton ..;by_cases hd:(e6 (stE R i).1 (R.getD i default,[(i:Int)])).1=[]
   ·have hst:(stE R (i+1)).2=(stE R i).2++[(e6 (stE R i).1 (R.getD i default,[(i:Int)])).2]:=by
      show(if _ then _ else _:List Ln×List (List Int)).2=_;rw[if_pos hd]
    rw[hst];obtain⟨hy1,hy2⟩:=hyo;rw[hd] at hy1;have hxa:=hya.2;generalize (e6 (stE R i).1 (R.getD i default,[(i:Int)])).2=x at *
    have h1:Sp (stE R i).2 (bX y x):=ih (dU hy hxa) (fun j hj=>by
     have hne:j≠(i:Int):=fun e=>by
      rw[e] at hj;have hb:=dF.2 hj;rw[dE hy hxa,hbi,dF.2 hiy] at hb;cases hb
     rcases(dq hy hxa).1 hj with q|q
     ·have:=hr j q.1;omega
     ·have:=hy2 j q.1;omega) (fun z=>by
     rw[hZ _ _ _ (aO _)];have e1:=h0 z;have e2:bit z []=bJ (lC R z) x%2:=hy1 z;rw[fP] at e2;omega)
    have hm:x∈(stE R i).2++[x]:=oz _ (cV.2 rfl);have h2:=Sp.add (kX (fun r hr=>nZ [x] hr) h1) hm
    rwa [←fi hy hxa hxa,fY hxa,gG] at h2
   ·exfalso;refine hd (vT hs.red ?_ hyn)
    have hw:∀j∈bX y [(i:Int)],0≤j∧j<(i:Int):=fun j hj=>by
     rcases(dq hy hone).1 hj with q|q
     ·have h1:=hr j q.1;have h2:j≠(i:Int):=fun e=>q.2 (cV.2 e);omega
     ·exact absurd (cV.1 q.1▸hiy) q.2
    obtain⟨v,v1,v2⟩:=xw hR (i:=i) (by omega) hw;have hT:∀r∈R.take i,bd r:=fun r hr=>hR r (kP hr)
    have hv:v=R.getD i default:=iS (kV hT v1) hx.1 fun z=>by
     rw[v2,hZ _ _ _ (aO _)];have e1:=h0 z;have e2:=gu (z:=z) (a:=R.getD i default);show(bJ (lC R z) y+(bit z (R.getD ((i:Nat):Int).toNat default)+0))%2=_;rw[cw];omega
    rw[hv] at v1;have h3:=my (fI hs.red) hs.all v1;have h4:=kR (fI hs.red) h3 hysp
    rwa [fi hx.1 hx.1 hya.1,fY hx.1,kT] at h4
  ·refine kX (fun r hr=>?_) (ih hy (fun j hj=>by
     have h1:=hr j hj;have h2:j≠(i:Int):=fun e=>hiy (e▸hj);omega) h0)
   show r∈(if _ then _ else _:List Ln×List (List Int)).2;split
   ·exact nZ _ hr
   ·exact hr
def js(b y:List Int):Bool:=decide (bJ (fun j=>bit j b) y%2=1)
def wdR(R:List (List Int))(c:Nat)(b:List Int)(i:Nat):List Int:=if (i:Int)∈b then R.getD i default++[(c:Int)] else R.getD i default
def lm(R:List (List Int))(c:Nat)(b:List Int):List (List Int):=(List.range R.length).map (wdR R c b)
def wdL(c:Nat)(b:List Int)(l:Ln):List Int:=if js b l.2=true then l.1++[(c:Int)] else l.1
theorem BA{a:List Int}{c:Nat}{t:Bool}(hc:∀z∈a,z<(c:Int))(z:Int):bit z (if t=true then a++[(c:Int)] else a)=if z=c then(if t=true then 1 else 0) else bit z a:=by
 unfold bit;by_cases hz:z=c
 ·have:z∉a:=fun h=>by have:=hc z h;omega
  cases t<;>simp[hz,this]
  ·exact fun h=>by have:=hc _ h;omega
 ·cases t<;>simp[hz]
theorem Bx{a:List Int}{c:Nat}{t:Bool}(ha:bd a)(hc:∀z∈a,z<(c:Int)):bd (if t=true then a++[(c:Int)] else a):=by
 cases t
 ·simpa using ha
 ·rw[if_pos rfl];exact List.pairwise_append.2 ⟨ha,List.pairwise_singleton ..,fun x hx y hy=>by rw[cV.1 hy];exact hc x hx⟩
theorem gJ{g h:Int→Nat}:∀{l:List Int},(∀x∈l,g x=h x)→bJ g l=bJ h l
 |[],_=>rfl
 |x::l,e=>by
  unfold bJ;rw[e x (cJ ..),gJ fun y hy=>e y (dL _ hy)]
theorem rV{g:Int→Nat}{D:List (List Int)}{y:List Int}(h:Sp D y)(h0:∀d∈D,bJ g d%2=0):bJ g y%2=0:=by
 induction h with
 |nil=>rfl
 |add h1 h2 ih=>rw[hZ _ _ _ (aO _)];have:=h0 _ h2;omega
theorem zP{g:Int→Nat}{p:Ln→Bool}:∀{M:List Ln}{x:Ln},bJ g (rdL M p x).2%2=(bJ g x.2+(M.map fun l=>if p l=true then bJ g l.2%2 else 0).sum)%2
 |[],x=>by show bJ g x.2%2=(bJ g x.2+0)%2;rfl
 |l::M,x=>by
  have ih:=zP (g:=g) (p:=p) (M:=M) (x:=if p l=true then d4 x l else x);show bJ g (rdL M p (if p l=true then d4 x l else x)).2%2=(bJ g x.2+((if p l=true then bJ g l.2%2 else 0)+(M.map fun l=>if p l=true then bJ g l.2%2 else 0).sum))%2;rw[ih];clear ih;by_cases h:p l=true
  ·rw[if_pos h,if_pos h];have:=hZ (g:=g) _ x.2 l.2 (aO _);show(bJ g (bX x.2 l.2)+_)%2=_;omega
  ·rw[if_neg h,if_neg h];omega
theorem BN{f:Ln→List Int}{p:Ln→Bool}{S:List (List Int)}(hS:∀r∈S,bd r):∀{E:List Ln},(∀l∈E,f l∈S)→∃v,Sp S v∧∀z,bit z v=(E.map fun l=>if p l=true then bit z (f l) else 0).sum%2
 |[],_=>⟨[],Sp.nil,fun z=>fP⟩
 |l::E,h=>by
  obtain⟨v,v1,v2⟩:=BN (f:=f) (p:=p) hS (E:=E) fun m hm=>h m (dL _ hm);have hl:=h l (cJ ..);by_cases hp:p l=true
  ·refine⟨_,Sp.add v1 hl,fun z=>?_⟩;rw[dE (kV hS v1) (hS _ hl),v2];show _=((if p l=true then bit z (f l) else 0)+(E.map fun l=>if p l=true then bit z (f l) else 0).sum)%2;rw[if_pos hp];omega
  ·refine⟨v,v1,fun z=>?_⟩;rw[v2];show _=((if p l=true then bit z (f l) else 0)+(E.map fun l=>if p l=true then bit z (f l) else 0).sum)%2;rw[if_neg hp,cf]
theorem yg{f:Ln→List Int}{z:Int}{p:Ln→Bool}:∀{E:List Ln},(E.map fun l=>if p l=true then bit z (f l) else 0).sum=kD f z p E
 |[]=>rfl
 |l::E=>by
  show(if p l=true then bit z (f l) else 0)+(E.map fun l=>if p l=true then bit z (f l) else 0).sum=_;rw[yg];rfl
theorem zp{R:List (List Int)}{c:Nat}{b:List Int}{i:Nat}(h:i<R.length):(lm R c b).getD i default=wdR R c b i:=rM h
theorem nV{R:List (List Int)}{c:Nat}{b:List Int}(hR:∀r∈R,bd r)(hv:∀r∈R,∀z∈r,0≤z∧z<(c:Int)):
    (∀r∈lm R c b,bd r)∧(∀r∈lm R c b,∀z∈r,0≤z∧z<((c+1:Nat):Int))∧∀i,i<R.length→∀z,bit z ((lm R c b).getD i default)=if z=c then bit (i:Int) b else bit z (R.getD i default):=by
 have hw:∀i,wdR R c b i=if decide ((i:Int)∈b)=true then R.getD i default++[(c:Int)] else R.getD i default:=fun i=>by
  unfold wdR;by_cases h:(i:Int)∈b<;>simp[h]
 refine⟨fun r hr=>?_,fun r hr z hz=>?_,fun i hi z=>?_⟩
 ·obtain⟨i,hi,rfl⟩:=bE.1 hr;have hi:=eo.1 hi;rw[hw];exact Bx (hR _ (ay hi)) fun z hz=>(hv _ (ay hi) z hz).2
 ·obtain⟨i,hi,rfl⟩:=bE.1 hr;have hi:=eo.1 hi;have hvi:=hv _ (ay hi);unfold wdR at hz;split at hz
  ·rcases eU.1 hz with h|h
   ·have:=hvi z h;omega
   ·rw[cV.1 h];omega
  ·have:=hvi z hz;omega
 ·rw[zp hi,hw,BA (fun z hz=>(hv _ (ay hi) z hz).2)];by_cases h:z=c
  ·rw[if_pos h,if_pos h];by_cases hb:(i:Int)∈b<;>simp[hb,bit]
  ·rw[if_neg h,if_neg h]
theorem Dt{R:List (List Int)}{c:Nat}{b:List Int}(hR:∀r∈R,bd r)(hv:∀r∈R,∀z∈r,0≤z∧z<(c:Int)){y:List Int}(hy:∀j∈y,0≤j∧j<(R.length:Int))(z:Int):
    bJ (lC (lm R c b) z) y=if z=c then bJ (fun j=>bit j b) y else bJ (lC R z) y:=by
 obtain⟨_,_,h3⟩:=nV (b:=b) hR hv;by_cases h:z=c
 ·rw[if_pos h];refine gJ fun j hj=>?_;have:=hy j hj;unfold lC;rw[h3 j.toNat (by omega),if_pos h,show((j.toNat:Nat):Int)=j by omega]
 ·rw[if_neg h];refine gJ fun j hj=>?_;have:=hy j hj;unfold lC;rw[h3 j.toNat (by omega),if_neg h]
theorem CL{R:List (List Int)}{c:Nat}{b:List Int}(hR:∀r∈R,bd r)(hv:∀r∈R,∀z∈r,0≤z∧z<(c:Int))(h0:∀y∈(stE R R.length).2,js b y=false):Ic (lm R c b) (c+1)=(lL R c).map (wdL c b):=by
 obtain⟨h1,h2,h3⟩:=nV (b:=b) hR hv;have hs:=gf hR (aO R.length);obtain⟨e1,e2,_⟩:=kU h1 h2;obtain⟨d1,d2,d3⟩:=kU hR hv;rw[yx h1 h2];have hl:(lm R c b).length=R.length:=by unfold lm;simp
 have hlv:∀l∈(stE R R.length).1,∀z∈l.1,0≤z∧z<(c:Int):=fun l hl=>jB hR hv (kX (fun r hr=>kP hr) (hs.inS l hl))
 have hbw:∀l∈(stE R R.length).1,∀z,bit z (wdL c b l)=if z=c then bJ (fun j=>bit j b) l.2%2 else bit z l.1:=fun l hl z=>by
  unfold wdL;rw[BA fun z hz=>(hlv l hl z hz).2];by_cases h:z=c
  ·rw[if_pos h,if_pos h];unfold js;by_cases ho:bJ (fun j=>bit j b) l.2%2=1
   ·simp[ho]
   ·simp[ho];omega
  ·rw[if_neg h,if_neg h]
 have hwa:∀l∈(stE R R.length).1,bd (wdL c b l):=fun l hl=>Bx (hs.red.asc l hl).1 fun z hz=>(hlv l hl z hz).2
 have hldw:∀l∈(stE R R.length).1,ld (wdL c b l)=ld l.1:=fun l hl=>by
  have hne:=hs.red.ne l hl;unfold wdL;split
  ·cases hq:l.1 with
   |nil=>exact absurd hq hne
   |cons x t=>rfl
  ·rfl
 have hF:Red ((lL R c).map (wdL c b)):=by
  refine⟨fun r hr=>?_,fun r hr=>?_,fun r hr q hq h=>?_,?_⟩
  ·obtain⟨l,hl,rfl⟩:=bE.1 hr;exact hwa l ((d3 l).1 hl)
  ·obtain⟨l,hl,rfl⟩:=bE.1 hr;have hne:=hs.red.ne l ((d3 l).1 hl);unfold wdL;split
   ·simp
   ·exact hne
  ·obtain⟨l,hl,rfl⟩:=bE.1 hr;obtain⟨m,hm,rfl⟩:=bE.1 hq;have hl:=(d3 l).1 hl;have hm:=(d3 m).1 hm;rw[hldw l hl] at h;have h4:=dF.2 h;have h5:=hlv l hl _ (dj (hs.red.ne l hl));rw[hbw m hm,if_neg (by omega)] at h4;rw[hs.red.own l hl m hm (dF.1 h4)]
  ·rw[List.pairwise_map];refine List.Pairwise.imp_of_mem (fun{x y} hx hy h=>?_) (oA hs.red (c:=c));rw[hldw x ((d3 x).1 hx),hldw y ((d3 y).1 hy)];exact h
 refine sS e1 hF fun v=>?_;rw[e2];have hTk:∀r∈(lm R c b).take R.length,bd r:=fun r hr=>h1 r (kP hr);constructor
 ·refine my hF.asc fun r hr=>?_;obtain⟨i,hi,e⟩:=pX hr;have hiR:i<R.length:=by omega
  have hx:cq (R.getD i default,[(i:Int)]):=⟨hR _ (ay hiR),List.pairwise_singleton ..⟩
  have hxo:lJ R R.length (R.getD i default,[(i:Int)]):=⟨fun z=>by
   have:=gu (z:=z) (a:=R.getD i default);show bit z (R.getD i default)=(bit z (R.getD ((i:Nat):Int).toNat default)+0)%2;rw[cw];omega,fun j hj=>by rw[cV.1 hj];omega⟩
  have hya:=iO (p:=eP (R.getD i default,[(i:Int)])) hs.red.asc hx;have hyo:=rZ (p:=eP (R.getD i default,[(i:Int)])) (fun l hl=>⟨hs.red.asc l hl,hs.ok l hl⟩) hx hxo;have hysp:=xC (p:=eP (R.getD i default,[(i:Int)])) (fI hs.red) (fun l hl=>⟨hs.red.asc l hl,bE.2 ⟨l,hl,rfl⟩⟩) hx;have hyn:=fun l hl=>mV hs.red hx (l:=l) hl;have hb1:=fun z=>kd (p:=eP (R.getD i default,[(i:Int)])) (z:=z) hs.red.asc hx;have hg:=zP (g:=fun j=>bit j b) (p:=eP (R.getD i default,[(i:Int)])) (M:=(stE R R.length).1) (x:=(R.getD i default,[(i:Int)]));unfold e6 at hyn;generalize hpp:eP (R.getD i default,[(i:Int)])=p at *;have hRi:Sp ((stE R R.length).1.map Prod.fst) (R.getD i default):=hs.all _ (by rw[List.take_length];exact ay hiR)
  have hnil:(rdL (stE R R.length).1 p (R.getD i default,[(i:Int)])).1=[]:=by
   refine vT hs.red ?_ hyn;have h4:=kR (fI hs.red) hRi hysp
   rwa [fi hx.1 hx.1 hya.1,fY hx.1,kT] at h4
  obtain⟨q1,q2⟩:=hyo;rw[hnil] at q1
  have hdep:=sF hR (aO R.length) hya.2 q2 fun z=>by
   have:=q1 z;rw[fP] at this;exact this.symm
  have hev:=rV (g:=fun j=>bit j b) hdep fun d hd=>by
   have:=h0 d hd;unfold js at this;have:=of_decide_eq_false this;omega
  obtain⟨u,u1,u2⟩:=BN (f:=wdL c b) (p:=p) hF.asc (E:=(stE R R.length).1) fun l hl=>bE.2 ⟨l,(d3 l).2 hl,rfl⟩
  have hur:u=r:=by
   refine iS (kV hF.asc u1) (h1 r hr) fun z=>?_;rw[←e,h3 i hiR,u2];by_cases h:z=c
   ·rw[if_pos h,h]
    have hm:((stE R R.length).1.map fun l=>if p l=true then bit (c:Int) (wdL c b l) else 0)=(stE R R.length).1.map fun l=>if p l=true then bJ (fun j=>bit j b) l.2%2 else 0:=
     pe fun l hl=>by rw[hbw l hl,if_pos rfl]
    rw[hm];rw[hev] at hg;have hone:bJ (fun j=>bit j b) [(i:Int)]=bit (i:Int) b+0:=rfl;have hlt:=gu (z:=(i:Int)) (a:=b);change 0=(bJ (fun j=>bit j b) [(i:Int)]+_)%2 at hg;rw[hone] at hg;omega
   ·rw[if_neg h]
    have hm:((stE R R.length).1.map fun l=>if p l=true then bit z (wdL c b l) else 0)=(stE R R.length).1.map fun l=>if p l=true then bit z l.1 else 0:=
     pe fun l hl=>by rw[hbw l hl,if_neg h]
    rw[hm,yg (f:=Prod.fst)];have h5:=hb1 z;rw[hnil,fP] at h5;have hlt:=gu (z:=z) (a:=R.getD i default);change 0=(bit z (R.getD i default)+_)%2 at h5;omega
  rw[←hur];exact u1
 ·refine my h1 fun r hr=>?_;obtain⟨l,hl,rfl⟩:=bE.1 hr;have hl:=(d3 l).1 hl;obtain⟨k1,k2⟩:=hs.ok l hl;obtain⟨v,v1,v2⟩:=xw h1 (i:=R.length) (by omega) k2
  have:v=wdL c b l:=iS (kV hTk v1) (hwa l hl) fun z=>by
   rw[v2,Dt hR hv k2,hbw l hl];by_cases h:z=c
   ·rw[if_pos h,if_pos h]
   ·rw[if_neg h,if_neg h];exact(k1 z).symm
  rw[←this];exact kX (fun r hr=>kP hr) v1
section
variable{α:Type}{K:α→α→Int}
def wu(K:α→α→Int):Nat→List α→List α→List α
 |0,_,_=>[]
 |_+1,[],b=>b
 |_+1,x::a,[]=>x::a
 |n+1,x::a,y::b=>if K x y<0 then x::wu K n a (y::b) else if K y x<0 then y::wu K n (x::a) b else wu K n a b
def jf(K:α→α→Int)(a b:List α):List α:=wu K (a.length+b.length+1) a b
theorem mX:∀(n m:Nat)(a b:List α),a.length+b.length<n→a.length+b.length<m→wu K n a b=wu K m a b
 |0,_,_,_,h,_=>absurd h (by omega)
 |_+1,0,_,_,_,h=>absurd h (by omega)
 |_+1,_+1,[],b,_,_=>rfl
 |_+1,_+1,x::a,[],_,_=>rfl
 |n+1,m+1,x::a,y::b,h1,h2=>by
  simp only[bO] at h1 h2;simp only[wu];rw[mX n m a (y::b) (by simp only[bO];omega) (by simp only[bO];omega),mX n m (x::a) b (by simp only[bO];omega) (by simp only[bO];omega),mX n m a b (by omega) (by omega)]
theorem Ak{b:List α}:jf K [] b=b:=rfl
theorem AE{a:List α}:jf K a []=a:=by cases a<;>rfl
theorem Bc{x y:α}{a b:List α}:jf K (x::a) (y::b)=if K x y<0 then x::jf K a (y::b) else if K y x<0 then y::jf K (x::a) b else jf K a b:=by
 show wu K (a.length+1+(b.length+1)+1) (x::a) (y::b)=_;simp only[wu];unfold jf;rw[mX (a.length+1+(b.length+1)) (a.length+(y::b).length+1) a (y::b) (by simp only[bO];omega) (by simp only[bO];omega),mX (a.length+1+(b.length+1)) ((x::a).length+b.length+1) (x::a) b (by simp only[bO];omega) (by simp only[bO];omega),mX (a.length+1+(b.length+1)) (a.length+b.length+1) a b (by omega) (by omega)]
theorem oB:∀(n:Nat)(a b:List α),a.length+b.length≤n→(jf K a b).length≤a.length+b.length
 |_,[],b,_=>by rw[Ak];simp
 |_,x::a,[],_=>by rw[AE];simp
 |0,x::a,y::b,h=>by simp only[bO] at h;omega
 |n+1,x::a,y::b,h=>by
  simp only[bO] at h ⊢;rw[Bc];have h1:=oB n a (y::b) (by simp only[bO];omega);have h2:=oB n (x::a) b (by simp only[bO];omega);have h3:=oB n a b (by omega);simp only[bO] at h1 h2;split
  ·simp only[bO];omega
  split
  ·simp only[bO];omega
  ·omega
theorem mg(hK:LinK K):∀(n:Nat)(a b:List α),a.length+b.length≤n→bQ K a→bQ K b→bQ K (jf K a b)∧∀z,z∈jf K a b↔(z∈a∧z∉b)∨(z∈b∧z∉a)
 |_,[],b,_,_,hb=>by rw[Ak];exact⟨hb,fun z=>by simp⟩
 |_,x::a,[],_,ha,_=>by rw[AE];exact⟨ha,fun z=>by simp⟩
 |0,x::a,y::b,h,_,_=>by simp only[bO] at h;omega
 |n+1,x::a,y::b,h,ha,hb=>by
  simp only[bO] at h;obtain⟨a1,a2⟩:=hU.1 ha;obtain⟨b1,b2⟩:=hU.1 hb;have irr:=fun v=>hK.ord.irr v;rw[Bc];by_cases g1:K x y<0
  ·rw[if_pos g1];obtain⟨h1,h2⟩:=mg hK n a (y::b) (by simp only[bO];omega) a2 hb
   have hxb:∀z∈y::b,K x z<0:=fun z hz=>by
    rcases cR.1 hz with rfl|hz
    ·exact g1
    ·exact hK.trans g1 (b1 z hz)
   refine⟨hU.2 ⟨fun z hz=>?_,h1⟩,fun z=>?_⟩
   ·rcases(h2 z).1 hz with⟨q,_⟩|⟨q,_⟩
    ·exact a1 z q
    ·exact hxb z q
   ·rw[cR,h2,cR (a:=z) (b:=x)];by_cases hz:z=x
    ·subst hz;have:z∉y::b:=fun q=>irr _ (hxb z q);simp[this]
    ·simp[hz]
  rw[if_neg g1];by_cases g2:K y x<0
  ·rw[if_pos g2];obtain⟨h1,h2⟩:=mg hK n (x::a) b (by simp only[bO];omega) ha b2
   have hya:∀z∈x::a,K y z<0:=fun z hz=>by
    rcases cR.1 hz with rfl|hz
    ·exact g2
    ·exact hK.trans g2 (a1 z hz)
   refine⟨hU.2 ⟨fun z hz=>?_,h1⟩,fun z=>?_⟩
   ·rcases(h2 z).1 hz with⟨q,_⟩|⟨q,_⟩
    ·exact hya z q
    ·exact b1 z q
   ·rw[cR,h2,cR (a:=z) (b:=y)];by_cases hz:z=y
    ·subst hz;have:z∉x::a:=fun q=>irr _ (hya z q);simp[this]
    ·simp[hz]
  rw[if_neg g2]
  obtain rfl:x=y:=by
   rcases hK.tri x y with q|q|q
   ·exact absurd q g1
   ·exact q
   ·exact absurd q g2
  obtain⟨h1,h2⟩:=mg hK n a b (by omega) a2 b2;refine⟨h1,fun z=>?_⟩;rw[h2];by_cases hz:z=x
  ·subst hz;have q1:z∉a:=fun q=>irr _ (a1 z q);have q2:z∉b:=fun q=>irr _ (b1 z q);simp[q1,q2]
  ·simp[hz]
theorem pj(hK:LinK K)(h:α→Nat):∀(n:Nat)(a b:List α),a.length+b.length≤n→((jf K a b).map h).sum%2=((a.map h).sum+(b.map h).sum)%2
 |_,[],b,_=>by rw[Ak];simp
 |_,x::a,[],_=>by rw[AE];simp
 |0,x::a,y::b,hl=>by simp only[bO] at hl;omega
 |n+1,x::a,y::b,hl=>by
  simp only[bO] at hl;rw[Bc];by_cases g1:K x y<0
  ·rw[if_pos g1,dT,List.sum_cons];have:=pj hK h n a (y::b) (by simp only[bO];omega);simp only[dT,List.sum_cons] at this ⊢;omega
  rw[if_neg g1];by_cases g2:K y x<0
  ·rw[if_pos g2,dT,List.sum_cons];have:=pj hK h n (x::a) b (by simp only[bO];omega);simp only[dT,List.sum_cons] at this ⊢;omega
  rw[if_neg g2]
  obtain rfl:x=y:=by
   rcases hK.tri x y with q|q|q
   ·exact absurd q g1
   ·exact q
   ·exact absurd q g2
  have:=pj hK h n a b (by omega);simp only[dT,List.sum_cons] at this ⊢;omega
theorem GK(hK:LinK K){a b:List α}(ha:bQ K a)(hb:bQ K b):bQ K (jf K a b):=(mg hK _ a b (aO _) ha hb).1
theorem Gr(hK:LinK K){a b:List α}(ha:bQ K a)(hb:bQ K b){z:α}:z∈jf K a b↔(z∈a∧z∉b)∨(z∈b∧z∉a):=(mg hK _ a b (aO _) ha hb).2 z
theorem Bs{a b:List α}:(jf K a b).length≤a.length+b.length:=oB _ a b (aO _)
end
def bu(s:Spx):List Spx:=if s.length<2 then [] else cE s (s.length-1)
def jX(a:List Spx)(o:List Spx):List Spx:=a.foldl (fun o s=>jf bH o (bu s)) o
def bk(a:List Spx):List Spx:=jX a []
theorem tW{s:Spx}(h:bQ cl s):bQ bH (bu s):=by
 unfold bu;split
 ·exact bQ.nil
 ·exact mc h
theorem gH{s f:Spx}:f∈bu s↔2≤s.length∧f.Sublist s∧f.length=s.length-1:=by
 unfold bu;split
 ·exact⟨fun h=>(by cases h),fun h=>absurd h.1 (by omega)⟩
 ·rw[eH];exact⟨fun h=>⟨by omega,h⟩,fun h=>h.2⟩
def lD(a:List Spx)(f:Spx):Nat:=(a.map fun s=>(bu s).count f).sum
theorem qc{s:Spx}{a:List Spx}{f:Spx}:lD (s::a) f=(bu s).count f+lD a f:=by unfold lD;rw[dT,List.sum_cons]
theorem CE{L:List Spx}(h:bQ bH L)(f:Spx):L.count f%2=1↔f∈L:=by
 by_cases hf:f∈L
 ·have h1:=List.count_pos_iff.2 hf;have h2:=List.nodup_iff_count.1 (h.nodup ji) f;exact⟨fun _=>hf,fun _=>by omega⟩
 ·rw[Hk hf];exact⟨fun h=>absurd h (by decide),fun h=>absurd h hf⟩
theorem sG:∀(a o:List Spx)(c:Spx→Nat),(∀s∈a,bQ cl s)→bQ bH o→(∀f,f∈o↔c f%2=1)→bQ bH (jX a o)∧∀f,f∈jX a o↔(c f+lD a f)%2=1
 |[],o,c,_,ho,hc=>⟨ho,fun f=>by show f∈o↔_;rw[hc];rfl⟩
 |s::a,o,c,hs,ho,hc=>by
  have hf:=tW (hs s cJ)
  obtain⟨h1,h2⟩:=sG a (jf bH o (bu s)) (fun f=>c f+(bu s).count f) (fun t ht=>hs t (dL _ ht)) (GK ji ho hf) fun f=>by
   rw[Gr ji ho hf,hc,←CE hf f];omega
  refine⟨h1,fun f=>?_⟩;show f∈jX a (jf bH o (bu s))↔_;rw[h2,qc,pF]
theorem gD{a:List Spx}(hs:∀s∈a,bQ cl s):bQ bH (bk a)∧∀f,f∈bk a↔lD a f%2=1:=by
 obtain⟨h1,h2⟩:=sG a [] (fun _=>0) hs bQ.nil fun f=>⟨fun h=>(by cases h),fun h=>absurd h (by decide)⟩
 exact⟨h1,fun f=>by rw[show bk a=jX a [] from rfl,h2,cf]⟩
theorem nc{a:List Spx}(hs:∀s∈a,bQ cl s):bQ bH (bk a):=(gD hs).1
theorem DC{a L:List Spx}(hs:∀s∈a,bQ cl s)(hL:bQ bH L)(h:∀f,f∈L↔lD a f%2=1):L=bk a:=ni ji hL (nc hs) fun f=>by rw[h,(gD hs).2]
theorem jh{a:List Spx}(hs:∀s∈a,bQ cl s){f:Spx}(hf:f∈bk a):∃s∈a,f∈bu s:=by
 have h:=((gD hs).2 f).1 hf;have hp:0<lD a f:=by omega
 clear h hf hs
 induction a with
 |nil=>exact absurd hp (Nat.lt_irrefl 0)
 |cons s a ih=>
  rw[qc] at hp;by_cases h:0<(bu s).count f
  ·exact⟨s,cJ,List.count_pos_iff.1 h⟩
  ·obtain⟨t,h1,h2⟩:=ih (by omega);exact⟨t,dL _ h1,h2⟩
theorem Ah{a:List Spx}(hs:∀s∈a,bQ cl s):∀f∈bk a,bQ cl f:=fun f hf=>by
 obtain⟨s,h1,h2⟩:=jh hs hf;exact(hs s h1).sublist (gH.1 h2).2.1
theorem uW:∀(a o:List Spx),(∀s∈a,s.length≤8)→(jX a o).length≤o.length+a.length*70
 |[],o,_=>Nat.le_add_right _ _
 |s::a,o,h=>by
  have h1:=uW a (jf bH o (bu s)) fun t ht=>h t (dL _ ht);have h2:=Bs (K:=bH) (a:=o) (b:=bu s)
  have h3:(bu s).length≤70:=by
   unfold bu;split
   ·exact bR _
   ·exact wC (h s cJ)
  show(jX a (jf bH o (bu s))).length≤_;rw[bO];omega
theorem we{a:List Spx}(h:∀s∈a,s.length≤8):(bk a).length≤a.length*70:=by
 have:=uW a [] h;rw[fC,cf] at this;exact this
def fc0:Spx→List Spx
 |[]=>[]
 |x::s=>s::(fc0 s).map (x:: ·)
theorem v8:∀{s:Spx},cE s s.length=[s]
 |[]=>rfl
 |x::s=>by rw[bO,gQ,v8,tM (by omega)];rfl
theorem pd:∀{s:Spx},s≠[]→(cE s (s.length-1)).Perm (fc0 s)
 |[],h=>absurd rfl h
 |[x],_=>by show(cE [x] 0).Perm _;rw[nX];exact List.Perm.refl _
 |x::y::s,_=>by
  show(cE (x::y::s) (s.length+1)).Perm _;rw[gQ,show s.length+1=(y::s).length from rfl,v8];have ih:=pd (s:=y::s) (by simp);show((cE (y::s) s.length).map (x:: ·)++[y::s]).Perm ((y::s)::(fc0 (y::s)).map (x:: ·));exact List.perm_append_comm.trans ((ih.map (x:: ·)).cons _)
theorem De{s g:Spx}(h:s≠[]):(cE s (s.length-1)).count g=(fc0 s).count g:=(pd h).count_eq g
theorem BO{α:Type}{f g:α→Nat}:∀{l:List α},(l.map fun x=>f x+g x).sum=(l.map f).sum+(l.map g).sum
 |[]=>rfl
 |x::l=>by simp only[dT,List.sum_cons];rw[BO];omega
theorem mr{x:Vtx}{g:Spx}:∀{L:List Spx},(L.map (x:: ·)).count (x::g)=L.count g
 |[]=>rfl
 |f::L=>by
  rw[dT,List.count_cons,List.count_cons,mr]
  congr 1
  by_cases h:f=g
  ·subst h;simp
  ·simp[h]
theorem Ck{g:Spx}:∀{L:List Spx},(L.map fun f=>if f=g then 1 else 0).sum=L.count g
 |[]=>rfl
 |f::L=>by
  rw[dT,List.sum_cons,Ck,List.count_cons,Nat.add_comm]
  congr 1
  by_cases h:f=g
  ·subst h;simp
  ·simp[h]
theorem dd0:∀(s g:Spx),((fc0 s).map fun f=>(fc0 f).count g).sum%2=0
 |[],_=>rfl
 |x::s,g=>by
  show(((s::(fc0 s).map (x:: ·)).map fun f=>(fc0 f).count g).sum)%2=0;rw[dT,List.sum_cons,List.map_map]
  have e:((fun f=>(fc0 f).count g) ∘ (x:: ·):Spx→Nat)=fun f=>(if f=g then 1 else 0)+((fc0 f).map (x:: ·)).count g:=by
   funext f
   show(f::(fc0 f).map (x:: ·)).count g=_;rw[List.count_cons,Nat.add_comm]
   congr 1
   by_cases h:f=g
   ·subst h;simp
   ·simp[h]
  rw[e,BO,Ck]
  match g with
  |[]=>
   have:∀L:List Spx,(L.map fun f=>((fc0 f).map (x:: ·)).count ([]:Spx)).sum=0:=fun L=>by
    induction L with
    |nil=>rfl
    |cons f L ih=>
     rw[dT,List.sum_cons,ih,Hk (by simp)]
   rw[this];omega
  |y::g'=>
   by_cases h:x=y
   ·subst h;have h1:(fun f:Spx=>((fc0 f).map (x:: ·)).count (x::g'))=fun f=>(fc0 f).count g':=by funext f;exact mr
    rw[h1];have:=dd0 s g';omega
   ·have:∀L:List Spx,(L.map fun f=>((fc0 f).map (x:: ·)).count (y::g')).sum=0:=fun L=>by
      induction L with
      |nil=>rfl
      |cons f L ih=>
       rw[dT,List.sum_cons,ih,Hk (by simp[h])]
    rw[this];omega
theorem dd1(s g:Spx):((bu s).map fun f=>(bu f).count g).sum%2=0:=by
 by_cases h:s.length≤2
 ·have:∀f∈bu s,(bu f).count g=0:=fun f hf=>by
    obtain⟨_,_,h3⟩:=gH.1 hf;unfold bu;rw[if_pos (by omega)];rfl
  have h2:∀L:List Spx,(∀f∈L,(bu f).count g=0)→(L.map fun f=>(bu f).count g).sum=0:=fun L hL=>by
   induction L with
   |nil=>rfl
   |cons f L ih=>
    rw[dT,List.sum_cons,ih fun t ht=>hL t (dL _ ht),hL f cJ]
  rw[h2 _ this]
 ·have h1:(bu s).map (fun f=>(bu f).count g)=(cE s (s.length-1)).map fun f=>(fc0 f).count g:=by
    rw[show bu s=cE s (s.length-1) by unfold bu;rw[if_neg (by omega)]];refine pe fun f hf=>?_;have hl:=(eH.1 hf).2;have hne:f≠[]:=fun e=>by rw[e] at hl;simp at hl;omega
    rw[←De hne];unfold bu;rw[if_neg (by omega)]
  rw[h1,((pd (s:=s) (fun e=>by rw[e] at h;simp at h)).map _).sum_nat];exact dd0 s g
theorem u6(h:Spx→Nat):∀(a o:List Spx),((jX a o).map h).sum%2=((o.map h).sum+(a.map fun s=>((bu s).map h).sum).sum)%2
 |[],o=>by simp[jX]
 |s::a,o=>by
  have h1:=u6 h a (jf bH o (bu s));have h2:=pj ji h _ o (bu s) (aO _);show((jX a (jf bH o (bu s))).map h).sum%2=_;rw[dT,List.sum_cons];omega
theorem Dm{a:List Spx}(hs:∀s∈a,bQ cl s):bk (bk a)=[]:=by
 refine(DC (Ah hs) bQ.nil fun f=>⟨fun h=>(by cases h),fun h=>?_⟩).symm;exfalso;have h1:=u6 (fun s=>(bu s).count f) a []
 have h2:∀L:List Spx,(L.map fun s=>((bu s).map fun t=>(bu t).count f).sum).sum%2=0:=fun L=>by
  induction L with
  |nil=>rfl
  |cons s L ih=>
   have:=dd1 s f;rw[dT,List.sum_cons];omega
 have h3:=h2 a;unfold lD at h;rw[show bk a=jX a [] from rfl] at h;simp only[List.map_nil,List.sum_nil] at h1;omega
def Eb(a:List Spx)(k:Nat):Int:=if bT (a.getD k default)≠0 then bT (a.getD k default) else if (a.getD k default).length≠(a.getD 0 default).length then 15 else if 0<k∧0≤bH (a.getD (k-1) default) (a.getD k default) then 14 else 0
def gb(a:List Spx):Int:=if 4096<a.length then 5 else dN (Eb a) a.length
theorem fT{a:List Spx}(h:gb a=0):a.length≤4096∧(∀s∈a,bT s=0)∧bQ bH a∧∀s∈a,s.length=(a.getD 0 default).length:=by
 unfold gb at h;split at h
 ·exact absurd h (by decide)
 rename_i hl;have h0:=gB h
 have hk:∀k,k<a.length→bT (a.getD k default)=0∧(a.getD k default).length=(a.getD 0 default).length∧(0<k→bH (a.getD (k-1) default) (a.getD k default)<0):=fun k hk=>by
  have q:=h0 k hk;unfold Eb at q;split at q
  ·exact absurd q ‹_›
  split at q
  ·exact absurd q (by decide)
  split at q
  ·exact absurd q (by decide)
  ·rename_i q1 q2 q3;exact⟨uC q1,uC q2,fun h0=>by omega⟩
 have hm:∀s∈a,∃k,k<a.length∧a.getD k default=s:=fun s hs=>by
  obtain⟨k,h1,h2⟩:=jV hs;exact⟨k,h1,by simp[List.getD,h1,h2]⟩
 refine⟨by omega,fun s hs=>?_,?_,fun s hs=>?_⟩
 ·obtain⟨k,h1,rfl⟩:=hm s hs;exact(hk k h1).1
 ·have hchain:∀j i,i<j→j<a.length→bH (a.getD i default) (a.getD j default)<0:=fun j=>by
    induction j with
    |zero=>intro i hi;omega
    |succ j ih=>
     intro i hi hj;have q:=(hk (j+1) hj).2.2 (by omega);rw[qg] at q;rcases(by omega:i<j∨i=j) with h|rfl
     ·exact ji.trans (ih i h (by omega)) q
     ·exact q
  unfold bQ;rw[jT];intro i j hi hj hij;have:=hchain j i hij hj
  rwa [show a.getD i default=a[i] by simp[List.getD,hi],show a.getD j default=a[j] by simp[List.getD,hj]] at this
 ·obtain⟨k,h1,rfl⟩:=hm s hs;exact(hk k h1).2.1
theorem Bi{a:List Spx}{n:Nat}(h1:a.length≤4096)(h2:∀s∈a,bT s=0)(h3:bQ bH a)(h4:∀s∈a,s.length=n):gb a=0:=by
 unfold gb;rw[if_neg (by omega)];refine dt fun k hk=>?_;unfold Eb;rw[if_neg (fun h=>h (h2 _ (a5 hk))),if_neg (fun h=>h (by rw[h4 _ (a5 hk),h4 _ (a5 (by omega))])),if_neg];rintro⟨q1,q2⟩;have:=dQ h3 (i:=k-1) (j:=k) (by omega) hk;omega
theorem gj{a:List Spx}(h:∀s∈a,bT s=0):∀s∈a,bQ cl s:=fun s hs=>(cu (h s hs)).2.2.1
theorem Ag{a:List Spx}{k:Nat}:Eb a k=if bT (a.getD k default)≠0 then bT (a.getD k default) else if (a.getD k default).length≠(a.getD 0 default).length then 15 else if 0<k∧0≤bH (a.getD (k-1) default) (a.getD k default) then 14 else 0:=rfl
def fw(l:List (List Spx)):AV:=iT 1 an l
theorem jw(l:List (List Spx)):Dat (fw l):=DR (fun _=>rfl) bh
instance datI_encXsss{l:List (List Spx)}:DatI (fw l):=⟨jw l⟩
theorem uq{l:List (List Spx)}:dz (fw l)=some (.int .i64 l.length):=kO
theorem MJ{l:List (List Spx)}{k:Nat}(h:k<l.length):ey 1 (fw l) (.int .i64 (k:Int))=some (.iptr [an (l.getD k default)] 0):=by
 unfold fw;rw[mG,if_pos ⟨by omega,by omega⟩,cw];rfl
theorem Mg{l:List Spx}(h:0<l.length):ey 1 (an l) (.int .i64 0)=some (.iptr [aC (l.getD 0 default)] 0):=fj h
abbrev ShC(a:List Spx):Prop:=Shn a∧∀s∈a,Shn s
attribute [local irreducible] aH ai be aY aP aQ aD aR aZ bl Go.Abs.Fn aX Go.Abs.Pure aq aK Yl
theorem ub(a:List Spx)(ha:ShC a):pU 75 [an a] (.int .i64 (gb a)):=by
 refine pO Mx ?_;simp only[b75,aJ];have ha':a.length≤17592186044416:=ha.1;unfold gb;by_cases h0:4096<a.length
 ·rw[if_pos h0];refine wnZ (zI3 @ah @aj @ae) ?_
  all_goals exact ee rfl
 rw[if_neg h0];refine wnZ (zI3 @ah @aj @ae) ?_;refine nG (X:=Nat) (fun k=>[(0,an a),(9,an a),(10,.int .i64 a.length),(11,.int .i64 k)]) (fun k=>k≤a.length∧∀i,i<k→Eb a i=0) (fun k=>a.length-k) 0 ⟨bR _,fun i h=>absurd h (by omega)⟩ ag0 ?_;rintro k ⟨h1,h2⟩;by_cases hk:k<a.length
 rotate_left
 ·rw[dt fun i hi=>h2 i (by omega)];refine wnY and_self ?_;exact .int _ _
 have ix:=fj hk;have i0:=Mg (l:=a) (by omega);have hs1:=ha.2 _ (ay hk);have hp:=pA (a.getD k default) hs1;have hsp:=Ag (a:=a) (k:=k);by_cases he:bT (a.getD k default)≠0
 ·rw[if_pos he] at hsp;rw[di hk h2 (by rw[hsp];exact he),hsp];have z:decide (bT (a.getD k default)≠0)=true:=a8 he;refine wnY (zI4 @ah @au @ix @z) ?_;exact .int _ _
 rw[if_neg he] at hsp;have he:=uC he;rw[he] at hp;have z:decide ((0:Int)≠0)=false:=rfl;by_cases hl:(a.getD k default).length≠(a.getD 0 default).length
 ·rw[if_pos hl] at hsp;rw[di hk h2 (by rw[hsp];decide),hsp];have z1:decide (((a.getD k default).length:Int)≠(a.getD 0 default).length)=true:=a8 (by omega);refine wnY (zI6 @ah @au @ix @i0 @z @z1) ?_;exact .int _ _
 rw[if_neg hl] at hsp;have z1:decide (((a.getD k default).length:Int)≠(a.getD 0 default).length)=false:=bc (by omega);by_cases hk0:0<k
 rotate_left
 ·rw[if_neg (fun h=>hk0 h.1)] at hsp;have zk:decide (0<(k:Int))=false:=bc (by omega);refine wnY (zI7 @ah @au @ix @i0 @z @z1 @zk) ?_
  exact ⟨k + 1,⟨by omega,fun i hi=>by
   rcases jq.1 hi with h'|rfl
   ·exact h2 i h'
   ·exact hsp⟩,by omega,ag0,rfl,rfl⟩
 have zk:decide (0<(k:Int))=true:=a8 (by omega)
 have iy:ey 1 (an a) (.int .i64 ((k:Int)-1))=some (.iptr [aC (a.getD (k-1) default)] 0):=by
  have:=fj (l:=a) (k:=k-1) (by omega)
  rwa [show((k-1:Nat):Int)=(k:Int)-1 by omega] at this
 have hcm:=gI (a.getD (k-1) default) (a.getD k default) (ha.2 _ (ay (by omega))) hs1;by_cases hv:0≤bH (a.getD (k-1) default) (a.getD k default)
 ·have z2:decide (0≤bH (a.getD (k-1) default) (a.getD k default))=true:=a8 hv;rw[if_pos ⟨hk0,hv⟩] at hsp;rw[di hk h2 (by rw[hsp];decide),hsp];refine wnY (zI9 @ah @au @ix @i0 @iy @z @z1 @zk @z2) ?_;exact .int _ _
 ·have z2:decide (0≤bH (a.getD (k-1) default) (a.getD k default))=false:=bc hv;rw[if_neg (fun h=>hv h.2)] at hsp;refine wnY (zI9 @ah @au @ix @i0 @iy @z @z1 @zk @z2) ?_
  exact ⟨k + 1,⟨by omega,fun i hi=>by
   rcases jq.1 hi with h'|rfl
   ·exact h2 i h'
   ·exact hsp⟩,by omega,ag0,rfl,rfl⟩
def uz(a:List Spx):Bool:=((a.take 50).all fun s=>decide (s.length≤10))&&(decide (a.length≤40) || decide (4096<a.length))
theorem H9(a:List Spx)(ha:ShC a):pU 40 [an a] (.bool (uz a)):=by
 refine pO MO ?_;simp only[b40,aJ];have ha':a.length≤17592186044416:=ha.1;have hlt:(a.take 50).length=min 50 a.length:=iz;refine wnZ @ah ?_;refine nG (X:=Nat) (fun k=>[(0,an a),(3,.int .i64 k)]) (fun k=>k≤(a.take 50).length∧∀i,i<k→decide (((a.take 50).getD i default).length≤10)=true) (fun k=>(a.take 50).length-k) 0 ⟨bR _,fun i h=>absurd h (by omega)⟩ ag0 ?_;rintro k ⟨h1,h2⟩;by_cases hk:k<(a.take 50).length
 rotate_left
 ·have e:uz a=(decide (a.length≤40) || decide (4096<a.length)):=by
    unfold uz;rw[jU fun i hi=>h2 i (by omega),Bool.true_and]
  rw[e];by_cases h3:a.length≤40
  ·have y1:decide ((a.length:Int)≤40)=true:=a8 (by omega);have y2:decide ((k:Int)<a.length)=false:=bc (by omega);rw[a8 h3];refine wnY (zI3 @ah @y1 @y2) ?_;exact .bool _
  ·have y1:decide ((a.length:Int)≤40)=false:=bc (by omega);rw[bc h3,Bool.false_or];by_cases h4:k<a.length
   ·have y2:decide ((k:Int)<a.length)=true:=a8 (by omega);have y3:decide ((k:Int)<50)=false:=bc (by omega);refine wnY (zI4 @ah @y1 @y2 @y3) ?_;exact ci (decide_eq_decide.2 (by omega))
   ·have y2:decide ((k:Int)<a.length)=false:=bc (by omega);refine wnY (zI3 @ah @y1 @y2) ?_;exact ci (decide_eq_decide.2 (by omega))
 have hk1:k<a.length:=by omega
 have ix:=fj hk1;have e:(a.take 50).getD k default=a.getD k default:=qj (by omega);have y2:decide ((k:Int)<a.length)=true:=a8 (by omega);have y3:decide ((k:Int)<50)=true:=a8 (by omega);by_cases hs:(a.getD k default).length≤10
 ·have y4:decide ((10:Int)<(a.getD k default).length)=false:=bc (by omega);refine wnY (zI6 @ah @au @ix @y2 @y3 @y4) ?_
  exact ⟨k + 1,⟨by omega,fun i hi=>by
   rcases jq.1 hi with h'|rfl
   ·exact h2 i h'
   ·rw[e];exact a8 hs⟩,by omega,ag0,rfl,rfl⟩
 ·have y4:decide ((10:Int)<(a.getD k default).length)=true:=a8 (by omega)
  have e2:uz a=false:=by
   unfold uz;rw[iY hk (by rw[e];exact bc hs),Bool.false_and]
  rw[e2];refine wnY (zI6 @ah @au @ix @y2 @y3 @y4) ?_;exact .bool _
theorem vR(l:List Spx)(hl:l.length≤100000)(hs:∀x∈l,x.length≤1000000):pU 84 [an l] (an l):=by
 refine pO MH ?_;simp only[b84,aJ];refine wnZ @ah ?_;refine b0 (X:=AV×Nat) (fun x=>[(3,x.1),(6,an l),(7,.int .i64 l.length),(8,.int .i64 x.2)]) (fun x H nx=>x.2≤l.length∧Row H 1 x.1 ((l.take x.2).map aC)∧∀b,bZ x.1=some b→b<nx) (fun x=>l.length-x.2) (.esl,0) ⟨bR _,Row.nil,fun b hb=>(by cases hb)⟩ ag0 ?_;rintro⟨s,j⟩ H nx ⟨h1,h2,h3⟩;dsimp only at h1 h2 h3 ⊢;by_cases hj:j<l.length
 ·have hw:=ay hj;have hcl:=Dq _ (hs _ hw);have ix:=fj hj;refine wnY @ix ?_;refine fQ ev0 ev0 hcl (ag (dA _ _) ak) ?_;refine wnY (aI @bf @aU) ?_;refine nt rfl ev0 (h2.same fun b hb=>?_) ev0 i9 rfl rfl nM (by simp;omega) (by simp;omega) ?_
  ·have:=h3 b hb;rw[ac (by omega)]
  rintro s2 E e hrow hle1 hle2 hsame hb2;refine wnY and_self ?_;refine⟨(s2,j+1),by dsimp only;omega,⟨by dsimp only;omega,?_,fun b hb=>?_⟩,ag0⟩
  ·dsimp only;rw[A7 hj,dw];exact hrow
  ·rcases hb2 b hb with h|h
   ·have:=h3 b h;omega
   ·omega
 ·refine wnY and_self ?_;rw[gz (by omega)] at h2;exact kw h2
theorem Dl(l:List Spx)(hl:Shn l)(hs:∀x∈l,x.length≤1000000):pU 76 [an l] (.tup [an (if 4096<l.length then [] else l),.int .i64 (if 4096<l.length then 5 else 0)]):=by
 refine pO MU ?_;simp only[b76,aJ];have hl':l.length≤17592186044416:=hl;by_cases h:4096<l.length
 ·have z:decide ((4096:Int)<l.length)=true:=a8 (by omega);rw[if_pos h,if_pos h];refine wnY (aI @ah @z) ?_;exact eA (.eslsl _) rfl
 ·have z:decide ((4096:Int)<l.length)=false:=bc (by omega);rw[if_neg h,if_neg h];have hc:=vR l (by omega) hs;refine wnY (aI @ah @z) ?_;exact eA (bh _).snap rfl
theorem sE{a:List Spx}(h:∀s∈a,bT s=0):∀s∈a,Shn s:=fun s hs=>by have:=(cu (h s hs)).2.1;show _≤_;omega
theorem zu{a:List Spx}(h:∀s∈a,bT s=0):∀s∈a,s.length≤1000000:=fun s hs=>by have:=(cu (h s hs)).2.1;omega
end Go.Proofs.YtekdaafnjdlenaaGreat
namespace Go.Proofs.YtekdaafnjdlenaaGreat
open Go Go.Abs
section
variable{α:Type}[DecidableEq α]{K:α→α→Int}
end
section
variable{g:Vtx→Vtx}
end
def fcs(s:Spx):List Spx:=if s.length<2 then [] else fc0 s
theorem oG{s:Spx}:(fcs s).Perm (bu s):=by
 unfold fcs bu;split
 ·exact List.Perm.refl _
 ·rename_i h;exact(pd fun e=>by rw[e] at h;simp at h).symm
theorem Cb{s f:Spx}:f∈fcs s↔f∈bu s:=oG.mem_iff
theorem rO:∀{s:Spx},(fc0 s).length=s.length
 |[]=>rfl
 |x::s=>by show((fc0 s).map (x:: ·)).length+1=_;rw[bz,rO];rfl
theorem BD:∀{s:Spx}{i:Nat},i<s.length→(fc0 s).getD i default=s.take i++s.drop (i+1)
 |[],_,h=>absurd h (by simp)
 |x::s,0,_=>by simp[fc0]
 |x::s,i+1,h=>by
  have hi:i<s.length:=by simpa using h
  have:=BD hi;show((s::(fc0 s).map (x:: ·)).getD (i+1) default)=_;have hl:i<(fc0 s).length:=by rw[rO];exact hi
  simp only[List.getD,AL,lz,rH hl,lB,uM,List.take_succ_cons,List.drop_succ_cons,List.cons_append] at this ⊢;rw[this]
theorem pt{s:Spx}(h:bQ cl s):(bu s).Nodup:=(tW h).nodup ji
theorem DE{s:Spx}(h:bQ cl s):(fcs s).Nodup:=oG.nodup_iff.2 (pt h)
def ju(X Y:List Spx)(n i:Nat):List Nat:=(List.range n).filter fun k=>decide (Y.getD i default∈bu (X.getD k default))
theorem CZ{X Y:List Spx}{n i:Nat}:ju X Y (n+1) i=ju X Y n i++if Y.getD i default∈bu (X.getD n default) then [n] else []:=by
 unfold ju;rw[List.range_succ,ws]
 congr 1
 by_cases h:Y.getD i default∈bu (X.getD n default)
 ·rw[if_pos h,zN (by simpa using h)];rfl
 ·rw[if_neg h,zw (by simpa using h)];rfl
theorem x7{X Y:List Spx}{n i:Nat}:(ju X Y n i).length≤n:=by
 unfold ju;exact fB (List.length_filter_le _ _) (by simp)
def cK(X Y:List Spx):List (List Int):=(List.range Y.length).map fun i=>bD (ju X Y X.length i)
end Go.Proofs.YtekdaafnjdlenaaGreat
namespace Go.Proofs.YtekdaafnjdlenaaGreat
open Go Go.Abs
open Nat (reduceEqDiff reduceAdd reduceLeDiff)
section
variable{P:Program}{T:Tm}{H:Hp}{nx:Nat}
theorem Jt{dm:DM}{K:SP}{l:List Op2}{d:Option Nat}{sz bytes:Nat}{z:List AV}{s x:Opd}{k:IntKind}{n:Int}(hd:dm2 dm T (.apz sz bytes z s x)=true)(hs:ov T s=.esl)(hx:ov T x=.int k n)(h0:0<n)(h1:n≤9223372036854775807)(h2:n.toNat*bytes≤140737488355328)
    (kk:ai P dm l (aL T d (.msl nx (n.toNat*sz) sz 0 n.toNat)) (ap H nx (bo (.agg z) n.toNat)) (nx+1) K):ai P dm (⟨d,none,.apz sz bytes z s x⟩::l) T H nx K:=by
 refine nJ rfl hd ?_ kk;simp only[jt,hs,hx];rw[if_pos ⟨h0,h1,h2⟩]
end
theorem GU(T:Tm)(H:Hp)(x:Opd):bB T H (.capE x)=match ov T x with|.esl=>some (.int .i64 0)|_=>none:=rfl
theorem Gx(n:Nat):(bo (.agg [.int .i64 0,.int .i64 0]) n).length=n*2:=by simp[bo,AV.cells]
attribute [local irreducible] aH ai be aY aP aQ aD aR aZ bl Go.Abs.Fn aX Go.Abs.Pure aq aK Yl
theorem Gf(n:Nat)(h0:0<n)(h1:n≤1000000)(H:Hp)(nx:Nat):Abs.Fn Tryz.prog 161 [.esl,.int .i64 n] H nx fun r H' nx'=>r=.msl nx (n*2) 2 0 0∧H'=ap H nx (bo (.agg [.int .i64 0,.int .i64 0]) n)∧nx'=nx+1:=by
 refine fO Lo ?_;simp only[LF,aJ];have z1:decide ((n:Int)<0)=false:=bc (by omega);have z2:decide ((0:Int)<n)=true:=a8 (by omega);have s2:lw 2 .esl none (some (.int .i64 0)) none=some .esl:=rfl;have s3:=As (B:=nx) (n:=n*2) (len:=n) (k:=0) (by omega) (by omega);rw[show((0:Nat):Int)=0 from rfl] at s3;refine wnY (zI6 @z1 @z2 @s2 @Int.sub_zero @Int.sub_self @GU) ?_;refine Jt rfl (have zz:=@s2;evY) ev0 (by omega) (by omega) (by omega) ?_;refine wnY @s3 ?_;exact⟨rfl,rfl,rfl⟩
theorem wY{c:List Spx}{k:Nat}(hk:k<c.length):(c.take (k+1)).flatten=(c.take k).flatten++c.getD k default:=by
 rw[cr hk,List.flatten_append];simp
end Go.Proofs.YtekdaafnjdlenaaGreat
namespace Go.Proofs.YtekdaafnjdlenaaGreat
open Go Go.Abs
open Nat (reduceEqDiff reduceAdd reduceLeDiff)
theorem IY{P:Program}{T:Tm}{H:Hp}{nx:Nat}{dm:DM}{K:SP}{l:List Op2}{d:Option Nat}{sz bytes b N len n:Nat}{s x:Opd}{v:AV}{new C:List AV}(hd:dm2 dm T (.app sz bytes s x)=true)(hs:ov T s=.msl b N sz 0 len)(hb:H b=some C)(hN:C.length=N)(hx:ov T x=v)(hsrc:er sz H v=some (n,new))(ho:AV.ones new=true)(hnl:new.length=n*sz)(hz:0<sz)(h0:0<N)(hle:(len+n)*sz≤N)(h1:(len+n)*bytes≤140737488355328)(h2:len+n≤9223372036854775807)
    (next:∀C':List AV,C'.length=N→C'.take ((len+n)*sz)=C.take (len*sz)++new→ai P dm l (aL T d (.msl b N sz 0 (len+n))) (ap H b C') nx K):
    ai P dm (⟨d,none,.app sz bytes s x⟩::l) T H nx K:=by
 by_cases e:N=len*sz
 ·have hn:n=0:=by
    rcases Bd n with h|h
    ·exact h
    ·have:len*sz+1*1≤len*sz+n*sz:=Nat.add_le_add_left (Nat.mul_le_mul h hz) _;rw[fE] at hle;omega
  subst hn;obtain rfl:new=[]:=List.eq_nil_of_length_eq_zero (by rw[hnl,wE]);refine zI hd hs hb hx hsrc ho hN e h1 h2 ?_;rw[oE] at next ⊢;rw[←e];exact next _ (by rw[io];exact hN) (by rw[io,io])
 ·refine AP hd hs hb hx hsrc ho hN (fun _=>e) h0 (by rw[cf];exact hle) ?_;have hlen:len*sz+new.length≤N:=by rw[hnl,←fE];exact hle
  refine next _ ?_ ?_
  ·rw[hJ (by rw[hN];omega)];exact hN
  ·simp only[bK,cf];rw[G1 (by rw[du,iz,hN,hnl,fE];omega),gz (by rw[du,iz,hN,hnl,fE];omega)]
attribute [local irreducible] aH ai be aY aP aQ aD aR aZ bl Go.Abs.Fn aX Go.Abs.Pure aq aK Yl
theorem Dz(c:List Spx)(hpos:0<c.flatten.length)(hl:c.flatten.length≤1000000)(hc:c.length≤1000000)(H:Hp)(nx:Nat):
    Abs.Fn Tryz.prog 141 [an c] H nx fun r H' nx'=>r=.msl nx (c.flatten.length*2) 2 0 c.flatten.length∧H'=ap H nx (cX c.flatten)∧nx'=nx+1:=by
 refine fO K0 ?_;simp only[Md,aJ]
 have hle:∀k,(c.take k).flatten.length≤c.flatten.length:=fun k=>by
  have:c.flatten=(c.take k).flatten++(c.drop k).flatten:=by rw[←List.flatten_append,Er]
  rw[this,du];omega
 refine dH ?_
 repeat' (first|apply a_n|refine zO ?_|refine vY ?_|fail)
 refine dH ?_
 repeat' (first|apply a_n|refine zO ?_|refine vY ?_|fail)
 refine co (fun T H' nx'=>T 0=an c∧T 3=.int .i64 (c.flatten.length:Nat)∧H=H'∧nx=nx') ?_ ?_
 ·refine wnY @ah ?_;refine nG (X:=Nat) (fun k=>[(0,an c),(3,.int .i64 ((c.take k).flatten.length:Nat)),(9,an c),(10,.int .i64 c.length),(11,.int .i64 (k:Nat))]) (fun k=>k≤c.length) (fun k=>c.length-k) 0 (by omega) (by simp (disch:=omega) only[agr,ZG,reduceEqDiff,↓reduceIte,List.take_zero,List.flatten_nil,fC]<;>simp) ?_;intro k hk;by_cases hk2:k<c.length
  rotate_left
  ·rw[gz (by omega)];refine wnY and_self ?_;exact⟨rfl,rfl,rfl,rfl⟩
  have ix:=fj hk2;have hle2:=hle (k+1);have e:(((c.take (k+1)).flatten.length:Nat):Int)=((c.take k).flatten.length:Nat)+((c.getD k default).length:Nat):=by rw[wY hk2,du];omega
  rw[wY hk2,du] at hle2;have z:decide ((((c.take k).flatten.length:Nat):Int)+((c.getD k default).length:Nat)<0)=false:=bc (by omega);generalize c.getD k default=s at *;refine wnY (zI3 @ix @au @z) ?_;exact⟨k+1,by omega,by omega,(have zz:=@e;agZ),rfl,rfl⟩
 rintro T _ _ ⟨t0,t3,rfl,rfl⟩;refine wnY @t3 ?_;refine ba ev0 (have zz:=@t3;evY) (Gf c.flatten.length (by omega) (by omega) H nx) ?_;rintro _ _ _ ⟨rfl,rfl,rfl⟩;refine wnY (aI @t0 @ah) ?_;refine b0 (X:=Nat) (fun k=>[(6,.msl nx (c.flatten.length*2) 2 0 (c.take k).flatten.length),(25,an c),(26,.int .i64 c.length),(27,.int .i64 (k:Nat))]) (fun k H' nx'=>k≤c.length∧(∃C,H'=ap H nx C∧C.length=c.flatten.length*2∧C.take ((c.take k).flatten.length*2)=cX (c.take k).flatten)∧nx'=nx+1) (fun k=>c.length-k) 0 ⟨by omega,⟨_,rfl,Gx _,rfl⟩,rfl⟩ (by simp (disch:=omega) only[agr,ZG,reduceEqDiff,↓reduceIte,List.take_zero,List.flatten_nil,fC]) ?_;rintro k _ _ ⟨hk,⟨C,rfl,h1,h2⟩,rfl⟩;by_cases hk2:k<c.length
 rotate_left
 ·have ek:c.take k=c:=gz (by omega);rw[ek] at h2 ⊢;rw[gz (by omega)] at h2;subst h2;refine wnY and_self ?_;exact⟨rfl,rfl,rfl⟩
 have ix:=fj hk2;have hle2:=hle (k+1);have e:=wY hk2;rw[e,du] at hle2;have hcl:=jK (c.getD k default);have hcp:=jK (c.take k).flatten;generalize c.getD k default=s at *;refine wnY @ix ?_;refine IY (b:=nx) (N:=c.flatten.length*2) (len:=(c.take k).flatten.length) (n:=s.length) (C:=C) rfl ev0 af h1 ev0 yw (mL _) (by rw[hcl]) (by omega) (by omega) (by omega) (by omega) (by omega) fun C2 c1 c2=>?_;refine wnY and_self ?_;refine⟨k+1,by omega,⟨by omega,⟨_,a6 _ _ _ _,c1,?_⟩,rfl⟩,by simp (disch:=omega) only[agr,ZG,reduceEqDiff,↓reduceIte,e,du]⟩;rw[e,mI,du,←h2];exact c2
theorem M8{P:Program}{T:Tm}{H S:Hp}{nx n:Nat}{K:SP}{l:List (Op2×Nat)}{d:Option Nat}{i:Ins}{t:Nat}{w:Bool}(h:T t=.bool w)(k:a7 P S ((⟨d,none,i⟩,n)::l) T H nx K):a7 P S ((⟨d,some (t,w),i⟩,n)::l) T H nx K:=by
 have e:g2 T (some (t,w))=some true:=by simp[g2,h]
 cases n with
 |zero=>show aR (g2 T (some (t,w))) _ _;rw[e];exact k
 |succ n=>show aR (g2 T (some (t,w))) _ _;rw[e];exact k
theorem CK(x y:Spx)(h:0<(x++y).length)(hl:(x++y).length≤1000000):PureF Tryz.prog 141 [an [x,y]] (aC (x++y)):=by
 refine PureF.of_fn ?_;have e:[x,y].flatten=x++y:=by simp
 have hc:=Dz [x,y] (by rw[e];exact h) (by rw[e];exact hl) (by simp) cz 0;rw[e] at hc;refine Abs.Fn.mono hc ?_;rintro _ _ _ ⟨rfl,rfl,rfl⟩;exact rJ (Row.box _ (x++y).length (cX (x++y)) af (jK _))
theorem vB(s:Spx)(H:Hp)(nx:Nat):Abs.Fn Tryz.prog 129 [aC s] H nx fun r H' nx'=>r=.func 154 [.ptr nx 1 0]∧H'=ap H nx [aC s]∧nx'=nx+1:=by
 refine fO JN ?_;simp only[Li,aJ];refine wnY (aI @bf @aU) ?_;exact⟨rfl,rfl,rfl⟩
theorem DW{H:Hp}{b:Nat}{x y:Spx}(h:H b=some [aC x,aC y]):aK H [.msl b 2 1 0 2] [an [x,y]]:=
 ag (u9 (l:=[aC x,aC y]) h rfl rfl (by
  intro z hz;simp only[cR,List.not_mem_nil,or_false] at hz;rcases hz with rfl|rfl
  ·exact⟨rfl,dA _⟩
  ·exact⟨rfl,dA _⟩)) ak
theorem wt{s:Spx}(h:2≤s.length):(fcs s).length=s.length:=by
 unfold fcs;rw[if_neg (by omega),rO]
theorem Bv{s:Spx}{i:Nat}(h:2≤s.length)(hi:i<s.length):(fcs s).getD i default=s.take i++s.drop (i+1):=by
 unfold fcs;rw[if_neg (by omega),BD hi]
theorem vh{y sb:Nat}{s:Spx}{H:Hp}{nx:Nat}(hs:s.length≤1000)(I:List Spx→Hp→Nat→Prop)
    (hp:∀D H nx,I D H nx→H sb=some [aC s])
    (stab:∀D H H' nx1 nx',I D H nx1→nx1≤nx'→(∀i,i<nx1→H' i=H i)→I D H' nx')
    (rnd:∀D f H nx1,I D H nx1→D.length<(fcs s).length→f=(fcs s).getD D.length default→D=(fcs s).take D.length→Yl Tryz.prog y [aC f] H nx1 fun r H' nx'=>r=.bool true∧I (D++[f]) H' nx')
    (h0:I [] H nx):
    Abs.Fn Tryz.prog 154 [.yld y,.ptr sb 1 0] H nx fun _ H' nx'=>I (fcs s) H' nx':=by
 refine fO JX ?_;simp only[J7,aJ];have g1:=hp _ _ _ h0;refine wnY (zI4 @g1 @bf @aU @au) ?_;by_cases h2:2≤s.length
 rotate_left
 ·have e:fcs s=[]:=by unfold fcs;rw[if_pos (by omega)]
  rw[e];refine b0 (X:=Nat) (fun k=>[(0,.yld y),(1,.ptr sb 1 0),(5,.int .i64 s.length),(6,.int .i64 k)]) (fun k H' nx'=>k≤s.length∧I [] H' nx') (fun k=>s.length-k) 0 ⟨bR _,h0⟩ ag0 ?_;rintro k H1 nx1 ⟨h1,hI⟩;have q1:=hp _ _ _ hI;by_cases hk:k<s.length
  rotate_left
  ·refine wnY and_self ?_;exact hI
  have z:decide ((1:Int)<s.length)=false:=bc (by omega);refine wkY (zI5 @q1 @bf @aU @au @z) ?_;exact⟨k+1,by omega,⟨by omega,hI⟩,ag0⟩
 have z:decide ((1:Int)<s.length)=true:=a8 (by omega);have hfl:=wt h2;have hfg:=fun{i:Nat}(hi:i<s.length)=>Bv (i:=i) h2 hi;refine b0 (X:=Nat) (fun k=>[(0,.yld y),(1,.ptr sb 1 0),(5,.int .i64 s.length),(6,.int .i64 k)]) (fun k H' nx'=>k≤s.length∧I ((fcs s).take k) H' nx') (fun k=>s.length-k) 0 ⟨bR _,h0⟩ ag0 ?_;rintro k H1 nx1 ⟨h1,hI⟩;have q1:=hp _ _ _ hI;by_cases hk:k<s.length
 rotate_left
 ·rw[gz (by omega)] at hI;refine wnY and_self ?_;exact hI
 have a1:lw 2 (aC s) none (some (.int .i64 (k:Int))) none=some (aC (s.take k)):=xk (by omega);have a2:lw 2 (aC s) (some (.int .i64 ((k:Int)+1))) none none=some (aC (s.drop (k+1))):=AC (k:=k+1) (by omega);have hc:=CK (s.take k) (s.drop (k+1)) (by rw[du,iz,EE];omega) (by rw[du,iz,EE];omega);have hr:=rnd ((fcs s).take k) ((fcs s).getD k default) (ap H1 nx1 [aC (s.take k),aC (s.drop (k+1))]) (nx1+1) (stab _ _ _ _ _ hI (by omega) fun i hi=>ac (by omega)) (by rw[iz];omega) (by rw[iz,Nat.min_eq_left (by omega)]) (by rw[iz,Nat.min_eq_left (by omega)]);rw[←cr (by omega),hfg hk] at hr;refine wnY (zI7 @q1 @bf @aU @au @z @a1 @a2) ?_;refine w_mix1 sb q1 fun S0 hS1 hsub=>?_;simp only[dT,List.map_nil,List.getD_cons_succ,List.getD_cons_zero];have zz:=aI @hS1 (aI @bf (aI @aU (aI @au (aI @z (aI @a1 @a2)))));repeat' (first|apply a_n|refine zO ?_|refine nvY ?_|apply jM|refine blY ?_|fail)
 repeat (refine M8 ev0 ?_;skip)
 refine fQ ev0 ev0 hc (DW (by rw[af])) ?_
 repeat' (first|apply a_n|refine zO ?_|apply jM|fail)
 refine xu ev0 ev0 (Yl.mono hr ?_);rintro v H3 nx3 ⟨rfl,e1⟩;refine wnY and_self ?_;exact⟨k+1,by omega,⟨by omega,e1⟩,ag0⟩
end Go.Proofs.YtekdaafnjdlenaaGreat
namespace Go.Proofs.YtekdaafnjdlenaaGreat
open Go Go.Abs
open Nat (reduceEqDiff reduceAdd reduceLeDiff)
def gW:Nat→Spx→List Int
 |0,_=>[]
 |n+1,[]=>0::0::gW n []
 |n+1,v::l=>v.color::v.label::gW n l
theorem pD:∀{n:Nat}{s:Spx},(gW n s).length=2*n
 |0,_=>rfl
 |n+1,[]=>by show(gW n []).length+1+1=_;rw[pD];omega
 |n+1,v::l=>by show(gW n l).length+1+1=_;rw[pD];omega
theorem z9:∀{n:Nat}{s t:Spx},s.length=t.length→t.length≤n→gW n s=gW n t→s=t
 |_,[],[],_,_,_=>rfl
 |_,[],w::m,h,_,_=>absurd h (by simp)
 |_,v::l,[],h,_,_=>absurd h (by simp)
 |0,v::l,w::m,_,h,_=>absurd h (by simp)
 |n+1,v::l,w::m,hl,hm,e=>by
  obtain⟨e1,e2⟩:=List.cons.inj e;obtain⟨e2,e3⟩:=List.cons.inj e2;have:=z9 (n:=n) (by simpa using hl) (by simpa using hm) e3;rw[this,oo.2 ⟨e1,e2⟩]
abbrev z16:List AV:=[.int .i64 0,.int .i64 0,.int .i64 0,.int .i64 0,.int .i64 0,.int .i64 0,.int .i64 0,.int .i64 0,.int .i64 0,.int .i64 0,.int .i64 0,.int .i64 0,.int .i64 0,.int .i64 0,.int .i64 0,.int .i64 0]
theorem IH:z16=(gW 8 []).map (AV.int .i64):=rfl
theorem ye:∀{n:Nat}{s:Spx},s.length≤n→cX s++((gW n []).map (AV.int .i64)).drop (s.length*2)=(gW n s).map (AV.int .i64)
 |n,[],_=>by simp[cX]
 |0,_::_,h=>absurd h (by simp)
 |n+1,v::l,h=>by
  have:=ye (n:=n) (s:=l) (by simp at h;omega);show [AV.int .i64 v.color,AV.int .i64 v.label]++cX l++_=AV.int .i64 v.color::AV.int .i64 v.label::(gW n l).map (AV.int .i64);rw[←this,bO,show(l.length+1)*2=l.length*2+1+1 by omega];rfl
def kZ(s:Spx):K16:=⟨gW 8 s,by rw[pD]⟩
theorem D7{s t:Spx}(h:s.length=t.length)(h8:t.length≤8)(e:kZ s=kZ t):s=t:=z9 h h8 (congrArg Subtype.val e)
theorem FK{O:List Spx}{f:Spx}{n:Nat}(hn:n≤8)(hO:∀s∈O,s.length=n)(hf:f.length=n):kZ f∈O.map kZ↔f∈O:=by
 rw[bE];exact⟨fun⟨s,h1,h2⟩=>by rw[←D7 (by rw[hO s h1,hf]) (by omega) h2];exact h1,fun h=>⟨f,h,rfl⟩⟩
theorem EB{f:Spx}{n:Nat}(hn:n≤8)(hf:f.length=n):∀{O:List Spx},(∀s∈O,s.length=n)→(O.map kZ).idxOf (kZ f)=O.idxOf f
 |[],_=>rfl
 |g::O,hO=>by
  have ih:=EB hn hf (O:=O) fun s hs=>hO s (dL _ hs);have hg:=hO g cJ;rw[dT,List.idxOf_cons,List.idxOf_cons,ih]
  have e:(kZ g==kZ f)=(g==f):=by
   rw[Bool.eq_iff_iff,beq_iff_eq,beq_iff_eq];exact⟨fun h=>D7 (by rw[hg,hf]) (by omega) h,fun h=>by rw[h]⟩
  rw[e]
structure BOk(H:Hp)(n:Nat)(c:Spx→Nat)(O:List Spx)(bs:List Nat)(ck:Nat):Prop where
 box:H 0=some [.bmap ((O.map kZ).map eK) (O.map aC) bs ck]
 len:bs.length=O.length
 asc:bs.Pairwise (· < ·)
 below:∀s∈bs,s<ck
 nd:O.Nodup
 all:∀f∈O,f.length=n
 odd:∀f,f∈O↔c f%2=1
theorem BOk.same{H H':Hp}{n:Nat}{c c':Spx→Nat}{O:List Spx}{bs:List Nat}{ck:Nat}(h:BOk H n c O bs ck)(hs:H' 0=H 0)(hc:∀f,c' f%2=c f%2):BOk H' n c' O bs ck:=
 ⟨hs.trans h.box,h.len,h.asc,h.below,h.nd,h.all,fun f=>by rw[hc];exact h.odd f⟩
theorem BOk.put{H H':Hp}{n:Nat}{c c':Spx→Nat}{O:List Spx}{bs:List Nat}{ck:Nat}{f:Spx}(h:BOk H n c O bs ck)(hf:f∉O)(hl:f.length=n)(hH:H' 0=some [.bmap ((O.map kZ).map eK++[eK (kZ f)]) (O.map aC++[aC f]) (bs++[ck]) (ck+1)])(hc:∀g,c' g=c g+if g=f then 1 else 0):BOk H' n c' (O++[f]) (bs++[ck]) (ck+1):=by
 refine⟨by rw[hH];simp,by rw[du,du,h.len];rfl,?_,fun s hs=>?_,?_,fun g hg=>?_,fun g=>?_⟩
 ·exact List.pairwise_append.2 ⟨h.asc,List.pairwise_singleton _ _,fun a ha b hb=>by rw[cV.1 hb];exact h.below a ha⟩
 ·rcases eU.1 hs with q|q
  ·have:=h.below s q;omega
  ·rw[cV.1 q];omega
 ·exact zD.2 ⟨h.nd,by simp,fun a ha b hb e=>by rw[e,cV.1 hb] at ha;exact hf ha⟩
 ·rcases eU.1 hg with q|q
  ·exact h.all g q
  ·rw[cV.1 q];exact hl
 ·rw[eU,cV,h.odd,hc];by_cases e:g=f
  ·subst e;have:¬c g%2=1:=fun q=>hf ((h.odd g).2 q);rw[if_pos rfl];exact⟨fun _=>by omega,fun _=>.inr rfl⟩
  ·rw[if_neg e];simp[e]
theorem gX{α β:Type}{f:α→β}:∀{l:List α}{i:Nat},(l.map f).eraseIdx i=(l.eraseIdx i).map f
 |[],_=>rfl
 |a::l,0=>rfl
 |a::l,i+1=>by show f a::(l.map f).eraseIdx i=f a::(l.eraseIdx i).map f;rw[gX]
theorem BOk.del{H H':Hp}{n:Nat}{c c':Spx→Nat}{O:List Spx}{bs:List Nat}{ck i:Nat}{f:Spx}(h:BOk H n c O bs ck)(hf:f∈O)(hi:O.idxOf f=i)(hH:H' 0=some [.bmap (((O.map kZ).map eK).eraseIdx i) ((O.map aC).eraseIdx i) (bs.eraseIdx i) ck])(hc:∀g,c' g=c g+if g=f then 1 else 0):BOk H' n c' (O.erase f) (bs.eraseIdx i) ck:=by
 have hil:i<O.length:=by rw[←hi];exact np.2 hf
 have he:O.erase f=O.eraseIdx i:=List.erase_eq_eraseIdx_of_idxOf hi;refine⟨?_,?_,h.asc.sublist (List.eraseIdx_sublist _ _),fun s hs=>h.below s ((List.eraseIdx_sublist _ _).subset hs),h.nd.erase _,fun g hg=>h.all g (List.mem_of_mem_erase hg),fun g=>?_⟩
 ·rw[hH,he];rw[gX,gX,gX]
 ·rw[he,List.length_eraseIdx_of_lt hil,List.length_eraseIdx_of_lt (by rw[h.len];exact hil),h.len]
 ·rw[h.nd.mem_erase_iff,h.odd,hc];by_cases e:g=f
  ·subst e;have:=(h.odd g).1 hf;rw[if_pos rfl];constructor
   ·exact fun q=>absurd rfl q.1
   ·intro q;omega
  ·rw[if_neg e];simp[e]
theorem mb{α:Type}[DecidableEq α]{a b:List α}(h:a.Nodup)(hs:∀x∈a,x∈b):a.length≤b.length:=yQ h hs
theorem Ds{l:List Spx}{s f:Spx}:lD (l++[s]) f=lD l f+(bu s).count f:=by unfold lD;simp
theorem AR{D:List Spx}{f g:Spx}{m:Nat}:m+(D++[f]).count g=m+D.count g+if g=f then 1 else 0:=by
 rw[List.count_append,List.count_singleton,pF]
 congr 2
 by_cases e:g=f
 ·subst e;simp
 ·rw[if_neg e,if_neg];simp only[beq_iff_eq];exact fun h=>e h.symm
theorem vD{O:List Spx}{i:Nat}(h:i<O.length):(O.map aC).getD i .undef=aC (O.getD i default):=by simp[List.getD,h]
attribute [local irreducible] aH ai be aY aP aQ aD aR aZ bl Go.Abs.Fn aX Go.Abs.Pure aq aK Yl
theorem FP{n:Nat}{c:Spx→Nat}{O:List Spx}{bs:List Nat}{ck:Nat}{f:Spx}{H:Hp}(hn:n≤8)(h:BOk H n c O bs ck)(hf:f.length=n):
    dg (.st [.int,.int,.int,.int,.int,.int,.int,.int,.int,.int,.int,.int,.int,.int,.int,.int]) (eK (kZ f)) ((O.map kZ).map eK)=some (if f∈O then some (O.idxOf f) else none):=by
 rw[Gd,EB hn hf h.all];by_cases e:f∈O
 ·rw[if_pos e,if_pos ((FK hn h.all hf).2 e)]
 ·rw[if_neg e,if_neg fun q=>e ((FK hn h.all hf).1 q)]
set_option maxHeartbeats 1000000 in
theorem si(a:List Spx)(n:Nat)(hn:n≤8)(ha:a.length≤4096)(hv:∀s∈a,bQ cl s)(hl:∀s∈a,s.length=n+1∨s.length<2)(h8:∀s∈a,s.length≤8):pU 77 [an a] (an (bk a)):=by
 refine pO MZ ?_;simp only[b77,aJ];refine dH ?_
 repeat' (first|apply a_n|refine zO ?_|refine vY ?_|fail)
 refine dH ?_;refine wnY and_self ?_;refine Il ?_;refine rL (cs:=[.nilm]) rfl rfl rfl ?_
 repeat' (first|apply a_n|refine zO ?_|refine stY ?_|fail)
 refine co (fun T H nx=>T 3=.ptr 1 1 0∧2≤nx∧H 1=some [.mp 0]∧∃O bs ck,BOk H n (lD a) O bs ck) ?_ ?_
 ·refine wnY @ah ?_;refine lpI (X:=Nat) (fun k=>[(3,.ptr 1 1 0),(14,an a),(15,.int .i64 a.length),(16,.int .i64 k)]) (fun k H nx=>k≤a.length∧2≤nx∧H 1=some [.mp 0]∧∃O bs ck,BOk H n (lD (a.take k)) O bs ck) (fun k=>a.length-k) 0 ⟨bR _,aO _,by rw[af];rfl,[],[],0,⟨by rw[ac (by omega),ac (by omega),af];rfl,rfl,pr,fun s h=>(by cases h),List.nodup_nil,fun s h=>(by cases h),fun f=>⟨fun h=>(by cases h),fun h=>absurd h (by rw[List.take_zero];exact(by decide:¬(0:Nat)%2=1))⟩⟩⟩ ?_;rintro k H nx ⟨h1,h2,h3,O,bs,ck,h4⟩;by_cases hk:k<a.length
  rotate_left
  ·rw[gz (by omega)] at h4;refine wnY and_self ?_;exact⟨rfl,h2,h3,O,bs,ck,h4⟩
  have ix:=fj hk;have hts:=cr hk;have hvs:=hv _ (ay hk);have hls:=hl _ (ay hk);have h8s:=h8 _ (ay hk);generalize a.getD k default=s at *;refine wnY @ix ?_;refine ba ev0 ev0 (vB s H nx) ?_;rintro _ H1 nx1 ⟨rfl,rfl,rfl⟩;refine wnY and_self ?_;refine mY (nx+1) (nx+2) rfl rfl ev0 (fun c0 cj hy=>?_);refine Abs.Fn.mono (vh (nx:=nx+2) (y:=nx+1) (sb:=nx) (s:=s) (by omega) (fun D H' nx'=>nx+2≤nx'∧H' nx=some [aC s]∧H' (nx+1)=some [c0]∧H' 1=some [.mp 0]∧∃O bs ck,BOk H' n (fun f=>lD (a.take k) f+D.count f) O bs ck) ?_ ?_ ?_ ?_) ?_
  ·rintro D H' nx' ⟨g1,g2,g3,g4⟩;exact g2
  ·rintro D H' H'' n1 n2 ⟨g1,g2,g3,g4,O,bs,ck,g5⟩ hle hsm;exact⟨by omega,(hsm _ (by omega)).trans g2,(hsm _ (by omega)).trans g3,(hsm _ (by omega)).trans g4,O,bs,ck,g5.same (hsm _ (by omega)) fun _=>rfl⟩
  ·rintro D f H' nx' ⟨g1,g2,g3,g4,O,bs,ck,g5⟩ hlt hfe hDe;refine hy _ _ _ _ g3 rfl ?_;clear hy
   have h2s:2≤s.length:=Nat.le_of_not_lt fun h=>by
    have:fcs s=[]:=by unfold fcs;rw[if_pos h]
    rw[this] at hlt;simp at hlt
   have hfl:f.length=n:=by
    rw[hfe,Bv h2s (by rw[wt h2s] at hlt;exact hlt),du,iz,EE];rw[wt h2s] at hlt;omega
   clear hfe hDe;refine wnY and_self ?_;refine⟨g3,?_⟩;have hmf:=FP hn g5 hfl;have q0:=(cQ (H:=H') (b:=nx+1) (x:=0) (by omega)).trans g5.box;have q1:=(cQ (H:=H') (b:=nx+1) (x:=1) (by omega)).trans g4;have q2:=(cQ (H:=H') (b:=nx+1) (x:=nx) (by omega)).trans g2;generalize dr H' (nx+1)=H2 at *;refine wnY and_self ?_;generalize hH3:ap H2 nx' z16=H3;have p0:H3 0=H2 0:=by rw[←hH3];exact ac (by omega)
   have p1:H3 1=H2 1:=by rw[←hH3];exact ac (by omega)
   have p2:H3 nx=H2 nx:=by rw[←hH3];exact ac (by omega)
   have p3:H3 nx'=some z16:=by rw[←hH3];exact af
   clear hH3;refine HV rfl p3 rfl rfl ?_;refine wnY and_self ?_;refine HP (n:=f.length) (H':=ap H3 nx' ((gW 8 f).map (AV.int .i64))) ?_ ?_
   ·((try simp only[b5,ZA,reduceEqDiff,↓reduceIte,reduceAdd,reduceLeDiff]);(try with_reducible rfl))
    have hnn:fA (aC f)=some f.length:=by unfold aC iT;simp[fA]
    have htr:vt f.length (aC f)=aC f:=by unfold aC iT;simp[vt];exact gz (by simp)
    have hmin:min f.length 8=f.length:=Nat.min_eq_left (by omega);have hal:fA (.msl nx' 16 2 0 8)=some 8:=rfl
    have hlp:bK z16 0 (cX f)=(gW 8 f).map (AV.int .i64):=by
     rw[←ye (n:=8) (s:=f) (by omega),IH];simp only[bK,List.take_zero,List.nil_append,cf,jK]
    by_cases hf0:f.length=0
    ·obtain rfl:=fk.1 hf0;have e0:(gW 8 []).map (AV.int .i64)=z16:=rfl;rw[e0,←Cr p3];simp only[sN,hal,hnn,hmin];rfl
    ·simp only[sN,hal,hnn,hmin,if_neg hf0,p3,htr,yw];rw[if_pos (by refine⟨?_,?_,?_,?_⟩<;>first|rfl|trivial|omega|exact mL f),hlp]
   have hl16:((gW 8 f).map (AV.int .i64)).length=16:=by rw[bz,pD]
   have ht:((gW 8 f).map (AV.int .i64)).take 16=(gW 8 f).map (AV.int .i64):=gz (by omega);have r0:=(ac (H:=H3) (b:=nx') (x:=0) (cs:=(gW 8 f).map (AV.int .i64)) (by omega)).trans (p0.trans q0);have r1:=(ac (H:=H3) (b:=nx') (x:=1) (cs:=(gW 8 f).map (AV.int .i64)) (by omega)).trans (p1.trans q1);have r2:=(ac (H:=H3) (b:=nx') (x:=nx) (cs:=(gW 8 f).map (AV.int .i64)) (by omega)).trans (p2.trans q2);have r3:ap H3 nx' ((gW 8 f).map (AV.int .i64)) nx'=some ((gW 8 f).map (AV.int .i64)):=af;generalize ap H3 nx' ((gW 8 f).map (AV.int .i64))=H4 at *;have hek:eK (kZ f)=.agg ((gW 8 f).map (AV.int .i64)):=rfl;have hkf:=B1 (kZ f);rw[hek] at hmf hkf;have hcnt:∀g,lD (a.take k) g+(D++[f]).count g=lD (a.take k) g+D.count g+if g=f then 1 else 0:=fun g=>AR
   by_cases hf:f∈O
   ·rw[if_pos hf] at hmf;have hil:O.idxOf f<O.length:=np.2 hf
    have hgv:mget .esl true (some (O.idxOf f)) (O.map aC)=.tup [aC (O.getD (O.idxOf f) default),.bool true]:=by
     rw[←vD hil];rfl
    generalize hKK:(gW 8 f).map (AV.int .i64)=KK at *;refine wnY (zI4 @r1 @r3 @hl16 @ht) ?_;refine BC ev0 r0 ev0 hkf hmf ?_;rw[hgv];refine wnY (zI4 @r1 @r3 @hl16 @ht) ?_;refine IV ev0 r0 ev0 hkf hmf ?_;refine wnY and_self ?_;exact⟨rfl,by omega,by rw[ac (by omega),ac (by omega)];exact r2,af,by rw[ac (by omega),ac (by omega)];exact r1,O.erase f,bs.eraseIdx (O.idxOf f),ck,g5.del hf rfl (by rw[ac (by omega),af];rfl) hcnt⟩
   ·rw[if_neg hf] at hmf;have hgv:mget .esl true none (O.map aC)=.tup [.esl,.bool false]:=rfl;generalize hKK:(gW 8 f).map (AV.int .i64)=KK at *;refine wnY (zI4 @r1 @r3 @hl16 @ht) ?_;refine BC ev0 r0 ev0 hkf hmf ?_;rw[hgv];refine wnY (zI4 @r1 @r3 @hl16 @ht) ?_;refine Hx ev0 r0 ev0 ev0 hkf hmf ?_;refine wnY and_self ?_;exact⟨rfl,by omega,by rw[ac (by omega),ac (by omega)];exact r2,af,by rw[ac (by omega),ac (by omega)];exact r1,O++[f],bs++[ck],ck+1,g5.put hf hfl (by rw[ac (by omega),af,hek];rfl) hcnt⟩
  ·exact⟨aO _,by rw[ac (by omega),af],af,by rw[ac (by omega),ac (by omega)];exact h3,O,bs,ck,h4.same (by rw[ac (by omega),ac (by omega)]) fun f=>by simp⟩
  ·rintro r H' nx' ⟨g1,g2,g3,g4,O,bs,ck,g5⟩;refine .inl ⟨g3,?_⟩;refine wnY and_self ?_;exact⟨k+1,by omega,⟨by omega,by omega,by rw[cQ (by omega)];exact g4,O,bs,ck,g5.same (cQ (by omega)) fun f=>by rw[hts,Ds,oG.count_eq]⟩,ag0⟩
 rintro T H nx ⟨t3,h2,h3,O,bs,ck,h4⟩
 have hO70:O.length≤300000:=by
  have he:=gD hv;have h5:O.length≤(bk a).length:=mb h4.nd fun f hf=>(he.2 f).2 ((h4.odd f).1 hf);have:=we h8;omega
 refine wnY (aI @t3 @h3) ?_;refine G4 ev0 h4.box ?_;refine wnY and_self ?_;have hbn:bs.Nodup:=uH (fun{x y}(h:x<y) e=>by omega) h4.asc;refine lpI (X:=List Nat×List Spx×AV) (fun x=>[(10,x.2.2),(40,.itr nx)]) (fun x H' nx'=>H' nx=some [.biter 0 ck x.1]∧nx<nx'∧BOk H' n (lD a) O bs ck∧x.1.Nodup∧(∀s∈x.1,s∈bs)∧x.2.1=x.1.map (fun s=>O.getD (bs.idxOf s) default)∧Row H' 1 x.2.2 (x.2.1.map aC)∧∀b,bZ x.2.2=some b→nx<b∧b<nx') (fun x=>bs.length-x.1.length) ([],[],.esl) ⟨af,uB _,h4.same (ac (by omega)) fun _=>rfl,List.nodup_nil,fun s h=>(by cases h),rfl,Row.nil,fun b h=>(by cases h)⟩ ?_;rintro⟨seen,D,sv⟩ H1 nx1 ⟨hit,hnx,k4,hsn,hsb,hD,hrow,hbd⟩;dsimp only at hit hsn hsb hD hrow hbd ⊢;have hsl:seen.length≤bs.length:=mb hsn hsb;have hDl:D.length=seen.length:=by rw[hD,bz]
 have hbl:=k4.len;refine wnY and_self ?_;refine GQ ev0 hit k4.box (fun i s hi hns=>?_) (fun hall=>?_)
 ·refine wnY and_self ?_;refine Gm (i:=i) (s:=s) ev0 af (by rw[ac (by omega)];exact k4.box) (by simp) hi ?_;obtain⟨hil,his⟩:=bS.1 hi;have hgx:=vD (O:=O) (i:=i) (by omega)
  have hidx:bs.idxOf s=i:=by
   have h5:=np.2 (show s∈bs by rw[←his];exact nq hil);have h6:bs[bs.idxOf s]=bs[i]:=by rw[List.getElem_idxOf h5,his]
   exact(List.getElem_inj hbn).1 h6
  have hsnd:(seen++[s]).Nodup:=zD.2 ⟨hsn,by simp,fun x hx y hy e=>by rw[e,cV.1 hy] at hx;exact hns hx⟩
  have hssb:∀x∈seen++[s],x∈bs:=fun x hx=>by
   rcases eU.1 hx with q|q
   ·exact hsb x q
   ·rw[cV.1 q,←his];exact nq hil
  have hsl2:=mb hsnd hssb;rw[du,List.length_singleton] at hsl2;refine wnY (zI3 @hgx @bf @aU) ?_;refine eR (hrow.same fun b hb=>?_) ?_
  ·have:=hbd b hb;rw[ac (by omega),ac (by omega)]
  rintro s2 H2 nx2 hr2 i1 i2 i3 i4;have lo:∀x,x≤nx→H2 x=ap H1 nx [.biter 0 ck (seen++[s])] x:=fun x hx=>(i3 x (by omega) (fun h=>by have:=hbd x h;omega)).trans (ac (by omega));refine wnY and_self ?_;refine⟨(seen++[s],D++[O.getD i default],s2),by dsimp only;rw[du,List.length_singleton];omega,⟨(lo nx (aO _)).trans af,by omega,k4.same ((lo 0 (by omega)).trans (ac (by omega))) fun _=>rfl,hsnd,hssb,?_,?_,fun b hb=>?_⟩,ag0⟩
  ·dsimp only;rw[hD,dw,List.map_singleton,hidx]
  ·dsimp only;rw[dw];exact hr2
  ·rcases i4 b hb with h|h
   ·have:=hbd b h;omega
   ·omega
 ·have hperm:seen.Perm bs:=(List.perm_ext_iff_of_nodup hsn hbn).2 fun x=>⟨hsb x,hall x⟩
  have hDO:D.Perm O:=by
   rw[hD];refine(hperm.map _).trans (List.Perm.of_eq ?_);refine List.ext_getElem (by rw[bz];exact hbl) fun j g1 g2=>?_;rw[bz] at g1
   have h5:bs.idxOf bs[j]=j:=by
    have h5:=np.2 (nq g1);have h6:bs[bs.idxOf bs[j]]=bs[j]:=List.getElem_idxOf h5;exact(List.getElem_inj hbn).1 h6
   rw[List.getElem_map,h5];simp[List.getD,g2]
  have hDn:D.Nodup:=hDO.nodup_iff.2 k4.nd;have hDm:∀s,s∈D↔s∈bk a:=fun s=>by rw[hDO.mem_iff,k4.odd,(gD hv).2]
  have hfin:=Gw ji (nc hv)
  have hsort:Abs.Fn Tryz.prog 130 [sv,.func 70 []] H1 nx1 fun _ H' nx'=>Row H' 1 sv ((bk a).map aC):=by
   generalize hcs:D.map aC=cs at hrow;cases hrow with
   |nil=>
    have hD0:D=[]:=List.map_eq_nil_iff.1 hcs;refine Abs.Fn.mono (pg rfl) ?_;rintro _ _ _ ⟨rfl,rfl⟩
    have:bk a=[]:=by
     rw[wZ];intro s h;have:=(hDm s).2 h;rw[hD0] at this;cases this
    rw[this];exact Row.nil
   |box b len cs k1 k2=>
    obtain rfl:len=D.length:=by rw[←hcs,bz] at k2;omega
    have hb:=hbd b rfl;subst hcs;by_cases h0:D.length=0
    ·have hD0:D=[]:=fk.1 h0
     have he:bk a=[]:=by
      rw[wZ];intro s h;have:=(hDm s).2 h;rw[hD0] at this;cases this
     have hrw:Row H1 1 (.msl b (D.length*1) 1 0 D.length) ((bk a).map aC):=by
      have:=Row.box (H:=H1) (sz:=1) b D.length _ k1 (by rw[bz,Nat.mul_one]);rw[he];rwa [hD0] at this ⊢
     refine Abs.Fn.mono (pg (by rw[h0];rfl)) ?_;rintro _ _ _ ⟨_,e⟩;rw[e];exact hrw
    ·have hg:∀s∈D,Shn s:=fun s h=>show s.length≤_ by have:=k4.all s (hDO.mem_iff.1 h);omega
     have hsf:=Bw JH (L:=D) (b:=b) (nx:=nx1) (n:=D.length) k1 hb.2 rfl (by omega) hg (by omega);rw[Nat.mul_one];refine Abs.Fn.mono hsf ?_;rintro _ H' nx' ⟨L',ps,p1,p2⟩;have hlen:=p1.length_eq;have:=rb p1 (by rw[hlen];exact p2) hDn hDm;rw[hfin] at this;rw[←this,←hlen];have:=Row.box (H:=H') (sz:=1) b L'.length (L'.map aC) ps.at_ (by simp)
     rwa [Nat.mul_one] at this
  refine wnY and_self ?_;refine ba ev0 ev0 hsort ?_;rintro r H' nx' hr;refine wnY and_self ?_;exact kw hr
end Go.Proofs.YtekdaafnjdlenaaGreat
namespace Go.Proofs.YtekdaafnjdlenaaGreat
open Go Go.Abs
theorem CJ{s f:Spx}(hs:bT s=0)(hf:f∈bu s):bT f=0:=by
 obtain⟨h1,h2,h3⟩:=gH.1 hf;obtain⟨p1,p2,p3,p4⟩:=cu hs;exact yA ⟨by omega,by omega⟩ (p3.sublist h2) fun v hv=>p4 v (h2.subset hv)
theorem mP{a:List Spx}(ha:∀s∈a,bT s=0):∀f∈bk a,bT f=0:=fun f hf=>by
 obtain⟨s,h1,h2⟩:=jh (gj ha) hf;exact CJ (ha s h1) h2
theorem v6{a:List Spx}{n:Nat}(ha:∀s∈a,bQ cl s)(hn:∀s∈a,s.length=n):∀f∈bk a,f.length=n-1:=fun f hf=>by
 obtain⟨s,h1,h2⟩:=jh ha hf;rw[(gH.1 h2).2.2,hn s h1]
theorem yK{a:List Spx}(h:∀s∈a,bT s=0):∀s∈a,s.length≤8:=fun s hs=>(cu (h s hs)).2.1
def dx(a:List Spx):List Spx×Int:=if gb a≠0 then([],gb a) else if 4096<(bk a).length then([],5) else(bk a,0)
def Ht(a:List Spx):Bool×Int:=if gb a≠0 then(false,gb a) else(decide (bk a=[]),0)
attribute [local irreducible] aH ai be aY aP aQ aD aR aZ bl Go.Abs.Fn aX Go.Abs.Pure aq aK Yl
theorem uX{a:List Spx}(h:gb a=0):pU 77 [an a] (an (bk a)):=by
 obtain⟨h1,h2,h3,h4⟩:=fT h;by_cases h0:a=[]
 ·subst h0;exact si [] 0 (by omega) (by simp) (by simp) (by simp) (by simp)
 ·have hm:a.getD 0 default∈a:=ay (gK.2 h0);have h5:=cu (h2 _ hm);exact si a ((a.getD 0 default).length-1) (by omega) h1 (gj h2) (fun s hs=>.inl (by rw[h4 s hs];omega)) (yK h2)
theorem ze{a:List Spx}(h:gb a=0):Shn (bk a)∧∀s∈bk a,s.length≤1000000:=by
 obtain⟨h1,h2,h3,h4⟩:=fT h;have:=we (yK h2);exact⟨show _≤_ by omega,zu (mP h2)⟩
theorem BQ(a:List Spx)(ha:ShC a):pU 29 [an a] (.tup [an (dx a).1,.int .i64 (dx a).2]):=by
 refine pO Mz ?_;simp only[b29,aJ];have f1:=ub a ha;unfold dx;by_cases h:gb a=0
 rotate_left
 ·have z:decide (gb a≠0)=true:=a8 h;rw[if_pos h];refine wnY @z ?_;exact eA (.eslsl _) rfl
 rw[if_neg (fun q=>q h)];have f2:=uX h;have f3:=Dl (bk a) (ze h).1 (ze h).2;have z:decide ((0:Int)≠0)=false:=rfl;rw[h] at f1
 have hfin:(if 4096<(bk a).length then(([]:List Spx),(5:Int)) else(bk a,0))=(if 4096<(bk a).length then [] else bk a,if 4096<(bk a).length then 5 else 0):=by
  split<;>rfl
 rw[hfin];refine wnY @z ?_;exact eA (bh _).snap rfl
theorem JT(a:List Spx)(ha:ShC a):pU 33 [an a] (.tup [.bool (Ht a).1,.int .i64 (Ht a).2]):=by
 refine pO Np ?_;simp only[b33,aJ];have f1:=ub a ha;unfold Ht;by_cases h:gb a=0
 rotate_left
 ·have z:decide (gb a≠0)=true:=a8 h;rw[if_pos h];refine wnY @z ?_;exact E7 rfl rfl
 rw[if_neg (fun q=>q h)];have f2:=uX h;have z:decide ((0:Int)≠0)=false:=rfl;have z2:decide ((((bk a).length:Nat):Int)=0)=decide (bk a=[]):=decide_eq_decide.2 (by rw[←fk];omega);rw[h] at f1;refine wnY (zI3 @z @z2 @ah) ?_;exact E7 rfl rfl
end Go.Proofs.YtekdaafnjdlenaaGreat
namespace Go.Proofs.YtekdaafnjdlenaaGreat
open Go Go.Abs
def on3(b1:Nat)(c1:List AV)(b2:Nat)(c2:List AV)(b3:Nat)(c3:List AV):Hp:=fun x=>if x=b1 then some c1 else if x=b2 then some c2 else if x=b3 then some c3 else none
theorem A4{P:Program}{T:Tm}{H:Hp}{nx:Nat}(b1 b2 b3:Nat){c1 c2 c3:List AV}{K:CP}{m:Nat}{l:List Op2}{C:List (Nat×Nat)}(h1:H b1=some c1)(h2:H b2=some c2)(h3:H b3=some c3)(n1:b2≠b1)(n2:b3≠b1)(n3:b3≠b2)(k:∀S:Hp,S b1=some c1→S b2=some c2→S b3=some c3→(∀H':Hp,H' b1=some c1→H' b2=some c2→H' b3=some c3→Sub S H')→a7 P S (C.map fun k=>(l.getD k.1 ⟨none,none,.dead⟩,k.2)) T H nx fun T H nx=>K .normal T H nx):aH P (.mixS m l C) T H nx K:=by
 have hsub:∀H':Hp,H' b1=some c1→H' b2=some c2→H' b3=some c3→Sub (on3 b1 c1 b2 c2 b3 c3) H':=fun H' a b c x cs h=>by
  unfold on3 at h;split at h
  ·rename_i e;rw[e,a];exact h
  split at h
  ·rename_i e;rw[e,b];exact h
  split at h
  ·rename_i e;rw[e,c];exact h
  ·cases h
 refine AD (on3 b1 c1 b2 c2 b3 c3) rfl (hsub H h1 h2 h3) (k _ ?_ ?_ ?_ hsub)
 ·unfold on3;rw[if_pos rfl]
 ·unfold on3;rw[if_neg n1,if_pos rfl]
 ·unfold on3;rw[if_neg n2,if_neg n3,if_pos rfl]
theorem xy{α:Type}{p q:Prop}[Decidable p][Decidable q](h:p↔q){a b:α}:(if p then a else b)=if q then a else b:=by
 by_cases hq:q
 ·rw[if_pos hq,if_pos (h.2 hq)]
 ·rw[if_neg hq,if_neg fun x=>hq (h.1 x)]
def DX(c:List Spx)(d:Int):List Spx×Int:=if d<0 then([],0) else fh c (d+1)
def ao(c:List Spx)(d:Int):List Spx:=if d≤0 then [] else jr c d.toNat
def oJ(c:List Spx)(d:Int):(Int×List (List Int))×Int:=if aB c≠0 then((0,[]),aB c) else if d<0∨8≤d then((0,[]),2) else((((ao c (d+1)).length:Nat),cK (ao c (d+1)) (ao c d)),0)
theorem Cg{c:List Spx}{d:Int}(hc:aB c=0)(h1:-1≤d)(h2:d<8):DX c d=(ao c (d+1),0):=by
 unfold DX ao fh;by_cases h:d<0
 ·rw[if_pos h,if_pos (by omega)]
 ·rw[if_neg h,if_neg (fun q=>q hc),if_neg (by omega),if_neg (by omega)]
theorem kf{c:List Spx}{d:Int}:bQ bH (ao c d):=by
 unfold ao;split
 ·exact bQ.nil
 ·exact EP
theorem m8{c:List Spx}{d:Int}(hc:c.length≤50)(h:aB c=0):(ao c d).length≤3500:=by
 unfold ao;split
 ·exact bR _
 ·exact oq hc (yK (d9 h).2.1)
theorem jP{c:List Spx}{d:Int}{s:Spx}:s∈ao c d↔0<d∧s.length=d.toNat∧∃t∈c,s.Sublist t:=by
 unfold ao;split
 ·exact⟨fun h=>(by cases h),fun h=>absurd h.1 (by omega)⟩
 ·rw[xZ];constructor
  ·rintro⟨t,t1,t2⟩;exact⟨by omega,(eH.1 t2).2,t,t1,(eH.1 t2).1⟩
  ·rintro⟨_,h1,t,t1,t2⟩;exact⟨t,t1,eH.2 ⟨t2,h1⟩⟩
theorem jo{c:List Spx}{d:Int}(h:aB c=0):∀s∈ao c d,bT s=0:=fun s hs=>by
 obtain⟨h1,h2,t,t1,t2⟩:=jP.1 hs;obtain⟨p1,p2,p3,p4⟩:=cu ((d9 h).2.1 t t1);have:=t2.length_le;exact yA ⟨by omega,by omega⟩ (p3.sublist t2) fun v hv=>p4 v (t2.subset hv)
theorem AB{c:List Spx}{d:Int}{s f:Spx}(hs:s∈ao c (d+1))(hf:f∈bu s):f∈ao c d:=by
 obtain⟨h1,h2,t,t1,t2⟩:=jP.1 hs;obtain⟨g1,g2,g3⟩:=gH.1 hf;exact jP.2 ⟨by omega,by omega,t,t1,g2.trans t2⟩
attribute [local irreducible] aH ai be aY aP aQ aD aR aZ bl Go.Abs.Fn aX Go.Abs.Pure aq aK Yl
theorem yN(l:List Spx)(v:Spx)(hl:Shn l)(hs:∀c∈l,Shn c)(hv:Shn v)(ha:bQ bH l):∃b:Nat,pU 80 [an l,aC v] (.tup [.int .i64 b,.bool (decide (v∈l))])∧(v∈l→b<l.length∧l.getD b default=v):=by
 obtain⟨b,hb,h1,h2⟩:=tB (fun i=>bH (l.getD i default) v) l.length (fun i j hij hj h=>ji.trans (dQ ha hij hj) h);have hc:=Ap l v hl hs hv hb h1 h2
 have he:(decide (b<l.length)&&decide (bH (l.getD b default) v=0))=decide (v∈l)∧(v∈l→b<l.length∧l.getD b default=v):=by
  by_cases hm:v∈l
  ·obtain⟨i,hi,e⟩:=jV hm;have e':l.getD i default=v:=by simp[List.getD,hi,e]
   have hbi:b=i:=by
    rcases rz b i with h|h|h
    ·have h3:=h2 b (aO _) (by omega);have h4:=dQ ha h hi;rw[e'] at h4;omega
    ·exact h
    ·have h3:=h1 i h;rw[e',fZ] at h3;omega
   subst hbi;rw[a8 hi,a8 hm,e',a8 (fZ v)];exact⟨rfl,fun _=>⟨hi,rfl⟩⟩
  ·rw[bc hm];refine⟨?_,fun h=>absurd h hm⟩;by_cases hlt:b<l.length
   ·rw[a8 hlt,Bool.true_and,bc];intro h;exact hm (by rw[←pu h];exact ay hlt)
   ·rw[bc hlt,Bool.false_and]
 rw[he.1] at hc;refine⟨b,?_,he.2⟩;refine pO MX ?_;simp only[b80,aJ];refine wnZ (zI4 @bf @aU @aj @ae) ?_;exact bM (ag (.int _ _) (ag (.bool _) ak))
theorem D3(c:List Spx)(d:Int)(hd:d≤1000)(hc:c.length≤50)(hs:∀s∈c,Shn s):pU 83 [b9 c,.int .i64 d] (.tup [an (DX c d).1,.int .i64 (DX c d).2]):=by
 refine pO M5 ?_;simp only[b83,aJ];unfold DX;by_cases h:d<0
 ·have z:decide (d<0)=true:=a8 h;rw[if_pos h];refine wnY (zI3 @z @aj @ae) ?_;exact eA (.eslsl _) rfl
 ·have z:decide (d<0)=false:=bc h;rw[if_neg h];have hS:=kM c (d+1) hc hs;refine wnY (zI3 @z @aj @ae) ?_;exact eA (bh _).snap rfl
set_option maxHeartbeats 2000000 in
theorem Jx(c:List Spx)(d:Int)(hc:c.length≤50)(hs:∀s∈c,Shn s):pU 112 [b9 c,.int .i64 d] (.tup [dV (oJ c d).1.1 (oJ c d).1.2,.int .i64 (oJ c d).2]):=by
 refine pO KX ?_;simp only[KM,aJ];have hcc:=jk c (show _≤_ by omega) hs;unfold oJ;by_cases he:aB c=0
 rotate_left
 ·rw[if_pos he];have z:decide (aB c≠0)=true:=a8 he;refine wnY (zI3 @aj @ae @z) ?_;exact jF (.eslsl _) rfl
 rw[if_neg (fun h=>h he)];rw[he] at hcc;have z0:decide ((0:Int)≠0)=false:=rfl;by_cases hd:d<0∨8≤d
 ·rw[if_pos hd];have zz:=aI @aj (aI @ae @z0);repeat' (first|refine zW ?_|apply a_n|apply a_r|refine zO ?_|refine vY ?_|refine cY ?_ (hp:=hcc) (hs:=by(first|refine aA ?_ rfl|apply aM);(repeat' (first|exact ak|apply bg|apply aN|exact bN _));first|done|fail)|refine alY ?_|refine bxY ?_|refine stY ?_|refine gTY ?_|refine gFY ?_|refine cTY ?_|refine cFY ?_|(refine zGY ?_ ?_<;>(intro _hg;try (exfalso;omega)))|refine bI rfl ?_|refine r2Y ?_|fail)
  all_goals first|exact jF (.eslsl _) rfl|(exfalso;omega)
 rw[if_neg hd];have hX:=D3 c d (by omega) hc hs;have hY:=D3 c (d-1) (by omega) hc hs;rw[Cg he (by omega) (by omega)] at hX hY;rw[show d-1+1=d by omega] at hY;have hXl:=m8 (d:=d+1) hc he;have hYl:=m8 (d:=d) hc he;have hXm:=jo (d:=d+1) he;have hYm:=sE (jo (d:=d) he);have hYa:=kf (c:=c) (d:=d);generalize ao c (d+1)=X at *;generalize ao c d=Y at *;have z1:decide (d<0)=false:=bc (by omega);have z2:decide (8≤d)=false:=bc (by omega);have hzc:bo (AV.agg [AV.esl]) Y.length=List.replicate Y.length .esl:=by simp[bo,AV.cells]
 refine wnY (zI6 @aj @ae @ah @z0 @z1 @z2) ?_;refine xL (k1:=.i64) (k2:=.i64) (n:=Y.length) (m:=Y.length) rfl ev0 ev0 (by omega) (Int.le_refl _) (by omega) (by omega) ?_;rw[cw,hzc,Nat.mul_one];refine wnY @ah ?_;refine lpI (X:=Nat×List AV) (fun x=>[(4,.ptr 1 2 0),(9,.ptr 2 1 0),(10,.ptr 4 2 0),(56,an X),(57,.int .i64 X.length),(58,.int .i64 x.1)]) (fun x H' nx'=>x.1≤X.length∧5≤nx'∧H' 1=some [.int .i64 0,.esl]∧H' 2=some [an Y]∧H' 4=some [.int .i64 X.length,.msl 3 Y.length 1 0 Y.length]∧MatOk H' 3 5 nx' Y.length (ju X Y x.1) x.2) (fun x=>X.length-x.1) (0,List.replicate Y.length .esl) ⟨bR _,aO _,by(repeat rw[ac (by omega)]);rw[af],by(repeat rw[ac (by omega)]);rw[af];rfl,by rw[af];rfl,MatOk.new (by(repeat rw[ac (by omega)]);rw[af]) (fun j _=>rfl)⟩ ?_;rintro⟨k,vs⟩ H nx ⟨h1,h2,g1,g2,g4,hmat⟩;dsimp only at h1 h2 g1 g2 g4 hmat ⊢;by_cases hk:k<X.length
 rotate_left
 ·obtain rfl:k=X.length:=by omega
  have hst:Snap (ap H 1 [.int .i64 X.length,.msl 3 Y.length 1 0 Y.length]) (.msl 3 Y.length 1 0 Y.length) (bF (cK X Y)):=(hmat.same (hi':=nx) (G:=ju X Y X.length) (ac (by omega)) (fun x x1 x2 x3=>ac (by omega)) (aO _) (fun j _=>rfl)).snap;refine wnY (aI @g4 @g1) ?_;exact jF hst rfl
 have ix:=fj hk;have hsim:=hXm _ (ay hk);have hF:∀i,ju X Y (k+1) i=ju X Y k i++if Y.getD i default∈bu (X.getD k default) then [k] else []:=fun i=>CZ
 generalize X.getD k default=s at *;obtain⟨p1,p2,p3,p4⟩:=cu hsim;refine wnY @ix ?_;refine ba ev0 ev0 (vB s _ _) ?_;rintro _ H1 nx1 ⟨rfl,rfl,rfl⟩;refine wnY and_self ?_;refine mY (nx+2) (nx+3) rfl rfl ev0 (fun c0 cj hy=>?_);refine Abs.Fn.mono (vh (nx:=nx+3) (y:=nx+2) (sb:=nx+1) (s:=s) (by omega) (fun D H' nx'=>nx+3≤nx'∧H' (nx+1)=some [aC s]∧H' (nx+2)=some [c0]∧H' nx=some [.int .i64 (k:Int)]∧H' 1=some [.int .i64 0,.esl]∧H' 2=some [an Y]∧H' 4=some [.int .i64 X.length,.msl 3 Y.length 1 0 Y.length]∧∃vs,MatOk H' 3 5 nx' Y.length (fun i=>ju X Y k i++if Y.getD i default∈D then [k] else []) vs∧∀j B,j<Y.length→bZ (vs.getD j .undef)=some B→B<nx∨nx+3≤B) ?_ ?_ ?_ ?_) ?_
 ·rintro D H' nx' ⟨j1,j2,_⟩;exact j2
 ·rintro D H' H'' n1 n2 ⟨j1,j2,j3,j4,j5,j6,j7,vs,j8,j9⟩ hle hsm;exact⟨by omega,(hsm _ (by omega)).trans j2,(hsm _ (by omega)).trans j3,(hsm _ (by omega)).trans j4,(hsm _ (by omega)).trans j5,(hsm _ (by omega)).trans j6,(hsm _ (by omega)).trans j7,vs,j8.same (hsm _ (by omega)) (fun x x1 x2 x3=>hsm x x2) hle (fun _ _=>rfl),j9⟩
 ·rintro D f H' nx' ⟨j1,j2,j3,j4,j5,j6,j7,vs,j8,j9⟩ hlt hfe hDe;refine hy _ _ _ _ j3 rfl ?_;clear hy;have hfm:f∈fcs s:=by rw[hfe];exact ay hlt
  have hfD:f∉D:=fun h=>by
   rw[hDe] at h;have hnd:=DE p3;have e:=cr hlt;have h5:=(zD.1 (by rw[←e];exact hnd.sublist (List.take_sublist _ _):((fcs s).take D.length++[(fcs s).getD D.length default]).Nodup)).2.2 _ h _ (cV.2 rfl);exact h5 hfe
  have hfs:=gH.1 (Cb.1 hfm);have hfn:Shn f:=by show _≤_;omega
  clear hfe hDe hlt hfm;refine wnY and_self ?_;refine⟨j3,?_⟩;have hd:∀x,x≠nx+2→dr H' (nx+2) x=H' x:=fun x hx=>cQ hx;generalize dr H' (nx+2)=H2 at *;have q2:=(hd 2 (by omega)).trans j6;have q3:=(hd 3 (by omega)).trans j8.box;have q4:=(hd 4 (by omega)).trans j7;have qk:=(hd nx (by omega)).trans j4;obtain⟨p,hpl,hpm⟩:=yN Y f (show _≤_ by omega) hYm hfn hYa;by_cases hin:f∈Y
  rotate_left
  ·rw[bc hin] at hpl;refine wnY (zI3 @q2 @aj @ae) ?_;refine⟨rfl,j1,(ac (by omega)).trans ((hd _ (by omega)).trans j2),af,(ac (by omega)).trans qk,(ac (by omega)).trans ((hd _ (by omega)).trans j5),(ac (by omega)).trans q2,(ac (by omega)).trans q4,vs,j8.same ((ac (by omega)).trans (hd _ (by omega))) (fun x x1 x2 x3=>?_) (aO _) (fun j hj=>?_),j9⟩
   ·by_cases e:x=nx+2
    ·rw[e,af,j3]
    ·rw[ac e,hd x e]
   ·have hne:Y.getD j default≠f:=fun e=>hin (by rw[←e];exact ay hj)
    congr 1
    exact xy (by rw[eU,cV];exact⟨fun h=>h.resolve_right hne,.inl⟩)
  rw[a8 hin] at hpl;obtain⟨pl1,pl2⟩:=hpm hin;have hFD:ju X Y k p++(if Y.getD p default∈D then [k] else [])=ju X Y k p:=by rw[pl2,if_neg hfD,io]
  have hrow:Row H2 1 (vs.getD p .undef) ((ju X Y k p).map An):=by
   have:=j8.row p pl1;rw[hFD] at this;exact this.same fun b hb=>hd b (by have:=j9 p b pl1 hb;omega)
  have hvs:vs[p]?=some (vs.getD p .undef):=by
   have:=j8.len;simp[List.getD,show p<vs.length by omega]
  have hlen:=j8.len
  have hb3:∀b,bZ (vs.getD p .undef)=some b→5≤b∧b<nx'∧b≠3∧(b<nx∨nx+3≤b):=fun b hb=>by
   have h5:=j8.bnd p b pl1 hb;have h6:=j9 p b pl1 hb;exact⟨h5.1,h5.2.1,h5.2.2,h6⟩
  generalize hrv:vs.getD p .undef=rv at *;refine wnY (zI3 @q2 @aj @ae) ?_;refine A4 4 3 nx q4 q3 qk (by omega) (by omega) (by omega) fun S0 hS1 hS2 hS3 hsub=>?_;have hFl:=x7 (X:=X) (Y:=Y) (n:=k) (i:=p);refine wnY (zI5 @hS1 @hS2 @hS3 @hvs @hlen) ?_;refine eb ?_;refine wnY and_self ?_;refine⟨hsub _ (by rw[ac (by omega)];exact q4) (by rw[ac (by omega)];exact q3) (by rw[ac (by omega)];exact qk),?_⟩;refine eb ?_;refine eR (hrow.same fun b hb=>?_) ?_
  ·have:=hb3 b hb;rw[ac (by omega)]
  rintro s2 H4 nx4 hr2 i1 i2 i3 i4;have lo:∀x,x<nx'→bZ rv≠some x→H4 x=H2 x:=fun x x1 x2=>(i3 x (by omega) x2).trans (ac (by omega));have l3:H4 3=H2 3:=lo 3 (by omega) (fun h=>by have:=hb3 _ h;omega);have l4:H4 4=H2 4:=lo 4 (by omega) (fun h=>by have:=hb3 _ h;omega);have lk:H4 nx=H2 nx:=lo nx (by omega) (fun h=>by have:=hb3 _ h;omega);have lo2:∀x,x<nx+3→5≤x→nx≤x→H4 x=H2 x:=fun x x1 x2 x3=>lo x (by omega) (fun h=>by have:=hb3 _ h;omega);have lo5:∀x,x<5→H4 x=H2 x:=fun x x1=>lo x (by omega) (fun h=>by have:=hb3 _ h;omega);obtain⟨o1,o2⟩:=hr2.one;have m3:=l3.trans q3;refine jY ⟨hsub _ (l4.trans q4) m3 (lk.trans qk),?_⟩
  have hlp:bK vs p [s2]=vs.set p s2:=by
   simp only[bK,bO,fC,cf];rw[Ju,if_pos (by omega)];simp
  have zz:=aI @m3 (aI @o1 (aI @o2 (aI @hlen @hlp)));repeat' (first|apply a_n|refine zO ?_|refine nvY ?_|apply jM|refine stY ?_|fail)
  have hB2:∀b,bZ s2=some b→(bZ rv=some b∨nx'≤b)∧b<nx4:=fun b hb=>by
   rcases i4 b hb with h|h
   ·exact⟨.inl h,by have:=hb3 b h;omega⟩
   ·exact⟨.inr (by omega),by omega⟩
  have hwd:∀x,x≠3→x≠nx+2→ap (ap H4 3 (vs.set p s2)) (nx+2) [c0] x=H4 x:=fun x x1 x2=>by rw[ac x2,ac x1]
  rw[hlp];refine⟨rfl,by omega,?_,af,?_,?_,?_,?_,vs.set p s2,?_,?_⟩
  ·rw[hwd _ (by omega) (by omega),lo2 _ (by omega) (by omega) (by omega),hd _ (by omega)];exact j2
  ·rw[hwd _ (by omega) (by omega),lk];exact qk
  ·rw[hwd _ (by omega) (by omega),lo5 _ (by omega),hd _ (by omega)];exact j5
  ·rw[hwd _ (by omega) (by omega),lo5 _ (by omega)];exact q2
  ·rw[hwd _ (by omega) (by omega),l4];exact q4
  ·refine j8.put (sv:=s2) (x:=k) (i:=p) pl1 (fun j hj=>?_) ?_ (fun b hb=>?_) (by rw[ac (by omega),af]) (fun x x1 x2 x3 x4=>?_) (by omega) (by omega)
   ·by_cases e:j=p
    ·subst e;rw[if_pos rfl,pl2,if_neg hfD,if_pos (oz _ (cV.2 rfl)),io]
    ·rw[if_neg e]
     have hne:Y.getD j default ≠ f:=fun h=>e (by
      rcases rz j p with h'|h'|h'
      ·have:=dQ hYa h' pl1;rw[h,pl2,fZ] at this;omega
      ·exact h'
      ·have:=dQ hYa h' hj;rw[h,pl2,fZ] at this;omega)
     congr 1
     exact xy (by rw[eU,cV];exact⟨fun h=>h.resolve_right hne,.inl⟩)
   ·rw[hFD,dw];refine hr2.same fun b hb=>hwd b ?_ ?_
    ·have:=hB2 b hb;rcases this.1 with h|h
     ·have:=hb3 b h;omega
     ·omega
    ·have:=hB2 b hb;rcases this.1 with h|h
     ·have:=hb3 b h;omega
     ·omega
   ·rw[hrv];have:=hB2 b hb;rcases this.1 with h|h
    ·exact .inl h
    ·exact .inr ⟨h,this.2,by omega⟩
   ·rw[hrv] at x4;by_cases e:x=nx+2
    ·rw[e,af,j3]
    ·rw[hwd x x3 e,lo x x2 x4,hd x e]
  ·intro j B hj hB;rw[qD (by omega)] at hB;by_cases e:p=j
   ·rw[if_pos e] at hB;have:=hB2 B hB;rcases this.1 with h|h
    ·have:=hb3 B h;omega
    ·omega
   ·rw[if_neg e] at hB;exact j9 j B hj hB
 ·have hlk:bK [AV.int .i64 0] 0 [.int .i64 (k:Int)]=[.int .i64 (k:Int)]:=rfl;have hw:∀x,x≠nx→x≠nx+1→x≠nx+2→ap (ap (ap (ap H nx [.int .i64 0]) nx (bK [.int .i64 0] 0 [.int .i64 (k:Int)])) (nx+1) [aC s]) (nx+2) [c0] x=H x:=fun x x1 x2 x3=>by rw[ac x3,ac x2,ac x1,ac x1]
  refine⟨aO _,by rw[ac (by omega),af],af,by rw[ac (by omega),ac (by omega),af];rfl,(hw _ (by omega) (by omega) (by omega)).trans g1,(hw _ (by omega) (by omega) (by omega)).trans g2,(hw _ (by omega) (by omega) (by omega)).trans g4,vs,hmat.same (hw _ (by omega) (by omega) (by omega)) (fun x x1 x2 x3=>hw x (by omega) (by omega) (by omega)) (by omega) (fun j _=>by simp),fun j B hj hB=>by have:=hmat.bnd j B hj hB;omega⟩
 ·rintro r H' nx' ⟨j1,j2,j3,j4,j5,j6,j7,vs2,j8,j9⟩;refine .inl ⟨j3,?_⟩;refine wnY and_self ?_;refine⟨(k+1,vs2),by dsimp only;omega,⟨by dsimp only;omega,by omega,(cQ (by omega)).trans j5,(cQ (by omega)).trans j6,(cQ (by omega)).trans j7,?_⟩,ag0⟩;dsimp only
  have hrows:∀j,j<Y.length→ju X Y (k+1) j=ju X Y k j++if Y.getD j default∈fcs s then [k] else []:=fun j _=>by
   rw[hF];congr 1;exact xy Cb.symm
  exact⟨(cQ (by omega)).trans j8.box,j8.len,fun j hj=>by rw[hrows j hj];exact(j8.row j hj).same fun b hb=>cQ (by have:=j9 j b hj hb;omega),fun j B hj hB=>by have:=j8.bnd j B hj hB;exact this,j8.apart⟩
end Go.Proofs.YtekdaafnjdlenaaGreat
namespace Go.Proofs.YtekdaafnjdlenaaGreat
open Go Go.Abs
def jL(L a:List Spx):List Nat:=a.map fun s=>L.idxOf s
abbrev bw(a:List Spx):Nat:=(a.getD 0 default).length
def cS(c a:List Spx):List Int×Int:=if aB c≠0 then([],aB c) else if gb a≠0 then([],gb a) else if a=[] then([],0) else if (a.all fun s=>decide (s∈ao c (bw a)))=true then(bD (jL (ao c (bw a)) a),0) else([],6)
theorem yD{l:List Nat}{n:Nat}:bD (l++[n])=bD l++[(n:Int)]:=by unfold bD;rw[dw];rfl
theorem DK{L a:List Spx}{k:Nat}(h:k<a.length):jL L (a.take (k+1))=jL L (a.take k)++[L.idxOf (a.getD k default)]:=by
 unfold jL;rw[cr h,dw];rfl
theorem GM{l:List Spx}(hn:l.Nodup){v:Spx}{k:Nat}(hk:k<l.length)(hv:l.getD k default=v):l.idxOf v=k:=by
 have hm:v∈l:=by rw[←hv];exact ay hk
 have h1:=np.2 hm;have h2:l[l.idxOf v]=v:=List.getElem_idxOf h1;have h3:l[k]=v:=by simpa[List.getD,hk] using hv
 exact(List.getElem_inj hn).1 (h2.trans h3.symm)
theorem jI{H:Hp}{s:AV}{l:List Int}{e f:Int}(h:Snap H s (aE l))(he:e=f):Snap H (.tup [s,.int .i64 e]) (.tup [aE l,.int .i64 f]):=by
 subst he;exact bM (ag h (ag (.int _ _) ak))
def xN(n:Nat)(v:List Int)(k:Nat):Int:=if v.getD k default<0∨(n:Int)≤v.getD k default then 2 else if 0<k∧v.getD k default≤v.getD (k-1) default then 14 else 0
def qf(n:Nat)(v:List Int):Int:=dN (xN n v) v.length
theorem sP{n:Nat}{v:List Int}{k:Nat}:xN n v k=if v.getD k default<0∨(n:Int)≤v.getD k default then 2 else if 0<k∧v.getD k default≤v.getD (k-1) default then 14 else 0:=rfl
def cp(X:List Spx)(v:List Int):List Spx:=v.map fun i=>X.getD i.toNat default
theorem Ad{X:List Spx}{v:List Int}{k:Nat}(h:k<v.length):cp X (v.take (k+1))=cp X (v.take k)++[X.getD (v.getD k default).toNat default]:=by
 unfold cp;rw[cr h,dw];rfl
def uw(c:List Spx)(d:Int)(v:List Int):List Spx×Int:=if aB c≠0 then([],aB c) else if d<0∨8≤d then([],2) else if qf (ao c (d+1)).length v≠0 then([],qf (ao c (d+1)).length v) else(cp (ao c (d+1)) v,0)
attribute [local irreducible] aH ai be aY aP aQ aD aR aZ bl Go.Abs.Fn aX Go.Abs.Pure aq aK Yl
theorem wI(c a:List Spx)(hc:c.length≤50)(hs:∀s∈c,Shn s)(ha:ShC a):pU 30 [b9 c,an a] (.tup [aE (cS c a).1,.int .i64 (cS c a).2]):=by
 refine pO M3 ?_;simp only[b30,aJ];have hcc:=jk c (show _≤_ by omega) hs;have hca:=ub a ha;have z0:decide ((0:Int)≠0)=false:=rfl;unfold cS;by_cases he:aB c=0
 rotate_left
 ·rw[if_pos he];have z:decide (aB c≠0)=true:=a8 he;refine wnY (zI3 @aj @ae @z) ?_;exact jI (.eslsl _) rfl
 rw[if_neg (fun h=>h he)];rw[he] at hcc;by_cases h2:gb a=0
 rotate_left
 ·rw[if_pos h2];have z:decide (gb a≠0)=true:=a8 h2;refine wnY (zI4 @aj @ae @z @z0) ?_;exact jI (.eslsl _) rfl
 rw[if_neg (fun h=>h h2)];rw[h2] at hca;by_cases h3:a=[]
 ·rw[if_pos h3];subst h3;have al:dz (an [])=some (.int .i64 0):=rfl;refine wnY (zI4 @aj @ae @al @z0) ?_;exact jI (.eslsl _) rfl
 rw[if_neg h3];have hpos:=gK.2 h3;have z3:decide ((a.length:Int)=0)=false:=bc (by omega);obtain⟨p1,p2,p3,p4⟩:=fT h2;have p5:=cu (p2 _ (ay hpos));have i0:=Mg hpos;have hS:=kM c (bw a) hc hs;unfold fh at hS;rw[if_neg (fun h=>h he),if_neg (by unfold bw;omega),cw] at hS;have eL:jr c (bw a)=ao c (bw a):=by unfold ao;rw[if_neg (by unfold bw;omega),cw]
 rw[eL] at hS;have hLs:=sE (jo (d:=(bw a:Nat)) he);have hLl:=m8 (d:=(bw a:Nat)) hc he;have hLa:=kf (c:=c) (d:=(bw a:Nat));generalize ao c (bw a)=L at *;unfold bw at hS;refine wkY (zI7 @aj @ae @ah @au @i0 @z0 @z3) ?_;refine b0 (X:=AV×Nat) (fun x=>[(8,an L),(10,x.1),(40,an a),(41,.int .i64 a.length),(42,.int .i64 x.2)]) (fun x H nx=>x.2≤a.length∧(∀i,i<x.2→decide (a.getD i default∈L)=true)∧Row H 1 x.1 ((bD (jL L (a.take x.2))).map (AV.int .i64))∧∀b,bZ x.1=some b→b<nx) (fun x=>a.length-x.2) (.esl,0) ⟨bR _,fun i h=>absurd h (by omega),Row.nil,fun b hb=>(by cases hb)⟩ ag0 ?_;rintro⟨sv,k⟩ H nx ⟨k1,k2,k3,k4⟩;dsimp only at k1 k2 k3 k4 ⊢;by_cases hk:k<a.length
 rotate_left
 ·rw[gz (by omega)] at k3;rw[if_pos (jU fun i hi=>k2 i (by omega))];refine wnY and_self ?_;exact jI k3.snapI rfl
 have ix:=fj hk;have hsx:=ha.2 _ (ay hk);obtain⟨p,hpl,hpm⟩:=yN L (a.getD k default) (show _≤_ by omega) hLs hsx hLa;by_cases hin:a.getD k default∈L
 rotate_left
 ·rw[bc hin] at hpl
  have hall:¬(a.all fun s=>decide (s∈L))=true:=by
   rw[iY hk (bc hin)];decide
  rw[if_neg hall];refine wnY @ix ?_;exact jI (.eslsl _) rfl
 rw[a8 hin] at hpl;obtain⟨p1',p2'⟩:=hpm hin;have hidx:=GM (hLa.nodup ji) p1' p2';have hpt:=DK (L:=L) hk;rw[hidx] at hpt;have hnl:(bD (jL L (a.take k))).length=k:=by unfold bD jL;rw[bz,bz,iz];omega
 refine wnY @ix ?_;refine eR (k3.same fun b hb=>?_) ?_
 ·have:=k4 b hb;rw[ac (by omega)]
 rintro s2 E e hrow hle1 hle2 hsame hb2;refine wnY and_self ?_;refine⟨(s2,k+1),by dsimp only;omega,⟨by dsimp only;omega,fun i hi=>?_,?_,fun b hb=>?_⟩,ag0⟩
 ·rcases jq.1 hi with h'|rfl
  ·exact k2 i h'
  ·exact a8 hin
 ·dsimp only;rw[hpt,yD,dw];exact hrow
 ·rcases hb2 b hb with h|h
  ·have:=k4 b h;omega
  ·omega
end Go.Proofs.YtekdaafnjdlenaaGreat
namespace Go.Proofs.YtekdaafnjdlenaaGreat
open Go Go.Abs
theorem ixV{l:List Int}{k:Nat}(h:k<l.length):ey 1 (aE l) (.int .i64 (k:Int))=some (.iptr [.int .i64 (l.getD k default)] 0):=by
 rw[mJ,if_pos ⟨by omega,by omega⟩,cw]
theorem ez{l:List Int}:dz (aE l)=some (.int .i64 l.length):=uh
attribute [local irreducible] aH ai be aY aP aQ aD aR aZ bl Go.Abs.Fn aX Go.Abs.Pure aq aK Yl
theorem Ik{n:Nat}{v:List Int}{k:Nat}(h:xN n v k=0):0≤v.getD k default∧v.getD k default<n∧(0<k→v.getD (k-1) default<v.getD k default):=by
 unfold xN at h;split at h
 ·exact absurd h (by decide)
 split at h
 ·exact absurd h (by decide)
 ·rename_i h1 h2;exact⟨by omega,by omega,fun h0=>by omega⟩
set_option maxHeartbeats 1000000 in
theorem w7(c:List Spx)(d:Int)(v:List Int)(hc:c.length≤50)(hs:∀s∈c,Shn s)(hv:v.length≤100000):pU 34 [b9 c,.int .i64 d,aE v] (.tup [an (uw c d v).1,.int .i64 (uw c d v).2]):=by
 refine pO My ?_;simp only[b34,aJ];have hcc:=jk c (show _≤_ by omega) hs;have z0:decide ((0:Int)≠0)=false:=rfl;unfold uw;by_cases he:aB c=0
 rotate_left
 ·rw[if_pos he];have z:decide (aB c≠0)=true:=a8 he;refine wnY (zI3 @aj @ae @z) ?_;exact eA (.eslsl _) rfl
 rw[if_neg (fun h=>h he)];rw[he] at hcc;by_cases hd:d<0∨8≤d
 ·rw[if_pos hd];have zz:=aI @aj (aI @ae @z0);repeat' (first|refine zW ?_|apply a_n|apply a_r|refine zO ?_|refine vY ?_|refine cY ?_ (hp:=hcc) (hs:=by(first|refine aA ?_ rfl|apply aM);(repeat' (first|exact ak|apply bg|apply aN|exact bN _));first|done|fail)|refine bxY ?_|refine gTY ?_|refine gFY ?_|refine cTY ?_|refine cFY ?_|(refine zGY ?_ ?_<;>(intro _hg;try (exfalso;omega)))|refine bI rfl ?_|refine r2Y ?_|fail)
  all_goals first|exact eA (.eslsl _) rfl|(exfalso;omega)
 rw[if_neg hd];have hX:=D3 c d (by omega) hc hs;rw[Cg he (by omega) (by omega)] at hX;have hXl:=m8 (d:=d+1) hc he;have hXm:=jo (d:=d+1) he;generalize ao c (d+1)=X at *;have z1:decide (d<0)=false:=bc (by omega);have z2:decide (8≤d)=false:=bc (by omega);refine wnY (zI5 @aj @ae @z0 @z1 @z2) ?_;refine b0 (X:=AV×Nat) (fun x=>[(2,aE v),(9,an X),(11,x.1),(34,aE v),(35,.int .i64 v.length),(36,.int .i64 x.2)]) (fun x H nx=>x.2≤v.length∧(∀i,i<x.2→xN X.length v i=0)∧Row H 1 x.1 ((cp X (v.take x.2)).map aC)∧∀b,bZ x.1=some b→b<nx) (fun x=>v.length-x.2) (.esl,0) ⟨bR _,fun i h=>absurd h (by omega),Row.nil,fun b hb=>(by cases hb)⟩ ag0 ?_;rintro⟨sv,k⟩ H nx ⟨k1,k2,k3,k4⟩;dsimp only at k1 k2 k3 k4 ⊢;by_cases hk:k<v.length
 rotate_left
 ·have hz:qf X.length v=0:=dt fun i hi=>k2 i (by omega);rw[if_neg (fun h=>h hz)];rw[gz (by omega)] at k3;have hpl:(cp X v).length=v.length:=by unfold cp;rw[bz]
  have hcp:=vR (cp X v) (by omega) fun s hs=>by
   unfold cp at hs;obtain⟨i,hi,rfl⟩:=bE.1 hs;by_cases hl:i.toNat<X.length
   ·exact zu hXm _ (ay hl)
   ·rw[show X.getD i.toNat default=[] by unfold List.getD;rw[List.getElem?_eq_none (by omega)];rfl];exact bR _
  obtain⟨Hf,H4,hfz,hsn,hoth⟩:=Jc k3;have z6:decide ((k:Int)<v.length)=false:=bc (by omega);refine dH ?_;have zz:=@z6;repeat' (first|apply a_n|refine zO ?_|refine vY ?_|fail)
  refine dH ?_;clear zz;have zz:=@z6;repeat' (first|apply a_n|apply a_x|refine zO ?_|refine cFY ?_|fail)
  refine dH ?_;refine pE Hf H4 [(11,an (cp X v))] hfz ⟨.inr hsn,trivial⟩ ?_;refine wnY and_self ?_;exact eA (bh _).snap rfl
 have ix:=ixV hk;have hsp:=sP (n:=X.length) (v:=v) (k:=k)
 have hfin:∀e:Int,e≠0→xN X.length v k=e→(if qf X.length v≠0 then(([]:List Spx),qf X.length v) else(cp X v,0))=([],e):=fun e h0 he=>by
  have h5:qf X.length v=e:=by
   unfold qf;rw[di hk k2 (by rw[he];exact h0),he]
  rw[if_pos (by rw[h5];exact h0),h5]
 by_cases g1:v.getD k default<0
 ·rw[if_pos (.inl g1)] at hsp;rw[hfin 2 (by decide) hsp];have z1:decide (v.getD k default<0)=true:=a8 g1;refine wnY (aI @ix @z1) ?_;exact eA (.eslsl _) rfl
 have z3:decide (v.getD k default<0)=false:=bc g1;by_cases g2:(X.length:Int)≤v.getD k default
 ·rw[if_pos (.inr g2)] at hsp;rw[hfin 2 (by decide) hsp];have z4:decide ((X.length:Int)≤v.getD k default)=true:=a8 g2;refine wnY (zI4 @ix @z3 @z4 @ah) ?_;exact eA (.eslsl _) rfl
 have z4:decide ((X.length:Int)≤v.getD k default)=false:=bc g2;rw[if_neg (by omega)] at hsp
 have iw:ey 1 (an X) (.int .i64 (v.getD k default))=some (.iptr [aC (X.getD (v.getD k default).toNat default)] 0):=by
  rw[rl,if_pos ⟨by omega,by omega⟩]
 have hpt:=Ad (X:=X) hk;have hnl:(cp X (v.take k)).length=k:=by unfold cp;rw[bz,iz];omega
 have hstep:∀ (s2:AV) (E:Hp) (e:Nat),xN X.length v k=0→Row E 1 s2 ((cp X (v.take k)).map aC ++ [aC (X.getD (v.getD k default).toNat default)])→(∀ i,i < k + 1→xN X.length v i=0)∧Row E 1 s2 ((cp X (v.take (k + 1))).map aC):=fun s2 E e hz hr=>⟨fun i hi=>by
  rcases jq.1 hi with h'|rfl
  ·exact k2 i h'
  ·exact hz,by rw[hpt,dw];exact hr⟩
 generalize X.getD (v.getD k default).toNat default=x at *;by_cases hk0:0<k
 rotate_left
 ·rw[if_neg (fun h=>hk0 h.1)] at hsp;have zk:decide (0<(k:Int))=false:=bc (by omega);refine wnY (zI8 @ix @iw @z3 @z4 @zk @ah @bf @aU) ?_;refine eR (k3.same fun b hb=>?_) ?_
  ·have:=k4 b hb;rw[ac (by omega)]
  rintro s2 E e hrow hle1 hle2 hsame hb2;refine wnY and_self ?_
  exact ⟨(s2,k + 1),by dsimp only; omega,⟨by dsimp only; omega,(hstep s2 E e hsp hrow).1,(hstep s2 E e hsp hrow).2,fun b hb=>by
   rcases hb2 b hb with h|h
   ·have:=k4 b h;omega
   ·omega⟩,ag0⟩
 have zk:decide (0<(k:Int))=true:=a8 (by omega)
 have iy:ey 1 (aE v) (.int .i64 ((k:Int)-1))=some (.iptr [.int .i64 (v.getD (k-1) default)] 0):=by
  have:=ixV (l:=v) (k:=k-1) (by omega)
  rwa [show((k-1:Nat):Int)=(k:Int)-1 by omega] at this
 by_cases g3:v.getD k default≤v.getD (k-1) default
 ·rw[if_pos ⟨hk0,g3⟩] at hsp;rw[hfin 14 (by decide) hsp];have z5:decide (v.getD k default≤v.getD (k-1) default)=true:=a8 g3;refine wnY (zI7 @ix @iy @z3 @z4 @zk @z5 @ah) ?_;exact eA (.eslsl _) rfl
 ·rw[if_neg (fun h=>g3 h.2)] at hsp;have z5:decide (v.getD k default≤v.getD (k-1) default)=false:=bc g3;refine wnY (j0 @ix @iy @iw @z3 @z4 @zk @z5 @ah @bf @aU) ?_;refine eR (k3.same fun b hb=>?_) ?_
  ·have:=k4 b hb;rw[ac (by omega)]
  rintro s2 E e hrow hle1 hle2 hsame hb2;refine wnY and_self ?_
  exact ⟨(s2,k + 1),by dsimp only; omega,⟨by dsimp only; omega,(hstep s2 E e hsp hrow).1,(hstep s2 E e hsp hrow).2,fun b hb=>by
   rcases hb2 b hb with h|h
   ·have:=k4 b h;omega
   ·omega⟩,ag0⟩
end Go.Proofs.YtekdaafnjdlenaaGreat
namespace Go.Proofs.YtekdaafnjdlenaaGreat
open Go Go.Abs
def dZ(l:List Int):Spx:=l.map fun c=>⟨c,0⟩
theorem Dy{l:List Int}{k:Nat}(h:k<l.length):dZ (l.take (k+1))=dZ (l.take k)++[⟨l.getD k default,0⟩]:=by
 unfold dZ;rw[cr h,dw];rfl
attribute [local irreducible] aH ai be aY aP aQ aD aR aZ bl Go.Abs.Fn aX Go.Abs.Pure aq aK Yl
end Go.Proofs.YtekdaafnjdlenaaGreat
namespace Go.Proofs.YtekdaafnjdlenaaGreat
open Go Go.Abs
structure PairV where
 a:List Spx
 b:List Spx
 d:Int
attribute [local irreducible] aH ai be aY aP aQ aD aR aZ bl Go.Abs.Fn aX Go.Abs.Pure aq aK Yl
theorem uf(l m:List Int)(hl:l.length≤1000000)(hm:m.length≤1000000):pU 17 [aE l,aE m] (.bool (decide (l=m))):=by
 refine pO MS ?_;simp only[b17,aJ]
 repeat' (first|refine zW ?_|apply a_n|apply a_r|refine zO ?_|refine vZ ?_|(refine zGZ ?_ ?_<;>(intro _hg;try (exfalso;omega)))|refine bI rfl ?_|refine r1Z ?_|fail)
 ·refine ci ?_
  symm;rw[decide_eq_false_iff_not];rintro rfl;omega
 refine nG (X:=Nat) (fun k=>[(0,aE l),(1,aE m),(12,.int .i64 l.length),(13,.int .i64 k)]) (fun k=>k≤l.length∧∀i,i<k→l.getD i default=m.getD i default) (fun k=>l.length-k) 0 ⟨bR _,by simp⟩ ag0 ?_;rintro k ⟨h1,h2⟩
 repeat' (first|refine zW ?_|apply a_n|apply a_x|apply a_r|refine zO ?_|refine vZ ?_|(refine zGZ ?_ ?_<;>(intro _hg;try (exfalso;omega)))|refine bI rfl ?_|refine r1Z ?_|fail)
 ·refine ci ?_
  symm;rw[decide_eq_false_iff_not];rintro rfl;exact absurd rfl ‹_›
 ·refine⟨k+1,⟨by omega,fun i hi=>?_⟩,by omega,ag0,rfl,rfl⟩;rcases jq.1 hi with h|rfl
  ·exact h2 i h
  ·omega
 ·refine ci ?_
  symm;rw[xm]
  refine List.ext_getElem (by omega) (fun i h3 h4=>?_);have:=h2 i (by omega);simpa[List.getD,h3,h4] using this
end Go.Proofs.YtekdaafnjdlenaaGreat
namespace Go.Proofs.YtekdaafnjdlenaaGreat
open Go Go.Abs
theorem pp{H:Hp}{b n:Nat}{l:List Spx}(h:H b=some (l.map aC))(hn:n=l.length):Snap H (.msl b n 1 0 n) (an l):=by
 subst hn;have:=Row.box (H:=H) (sz:=1) b l.length (l.map aC) h (by simp);rw[Nat.mul_one] at this;exact kw this
theorem Ea{H:Hp}{b n:Nat}{cs:List AV}{l:List (List Int)}(hb:H b=some cs)(hn:cs.length=n)(h:aK H cs (l.map aE)):Snap H (.msl b n 1 0 n) (bF l):=by
 have hl:=h.1;refine jW (l:=l.map aE) hb hn (by omega) (by omega) (fun y hy=>?_) (fun i a c ha hc=>?_)
 ·obtain⟨z,_,rfl⟩:=bE.1 hy;rfl
 ·rw[cf] at ha;exact h.2 i a c ha hc
attribute [local irreducible] aH ai be aY aP aQ aD aR aZ bl Go.Abs.Fn aX Go.Abs.Pure aq aK Yl
end Go.Proofs.YtekdaafnjdlenaaGreat
namespace Go.Proofs.YtekdaafnjdlenaaGreat
open Go Go.Abs
theorem vw{a:List Spx}(h:a.length≤1000000)(hs:∀s∈a,bT s=0):ShC a:=⟨show _≤_ by omega,sE hs⟩
attribute [local irreducible] aH ai be aY aP aQ aD aR aZ bl Go.Abs.Fn aX Go.Abs.Pure aq aK Yl
end Go.Proofs.YtekdaafnjdlenaaGreat
namespace Go.Proofs.YtekdaafnjdlenaaGreat
open Go Go.Abs
theorem AZ{s:Spx}:(bu s).length≤s.length:=by
 rw[←oG.length_eq];unfold fcs;split
 ·exact bR _
 ·rw[rO];exact aO _
theorem sJ:∀(a o:List Spx),(∀s∈a,s.length≤8)→(jX a o).length≤o.length+a.length*8
 |[],o,_=>Nat.le_add_right _ _
 |s::a,o,h=>by
  have h1:=sJ a (jf bH o (bu s)) fun t ht=>h t (dL _ ht);have h2:=Bs (K:=bH) (a:=o) (b:=bu s);have h3:=AZ (s:=s);have h4:=h s cJ;show(jX a (jf bH o (bu s))).length≤_;rw[bO];omega
theorem sV{a:List Spx}(h:∀s∈a,s.length≤8):(bk a).length≤a.length*8:=by
 have:=sJ a [] h;rw[fC,cf] at this;exact this
theorem DD{a:List Spx}(ha:gb a=0)(hl:a.length≤500):gb (bk a)=0:=by
 obtain⟨p1,p2,p3,p4⟩:=fT ha;have:=sV (yK p2);exact Bi (by omega) (mP p2) (nc (gj p2)) (v6 (gj p2) p4)
theorem DS{a:List Spx}(ha:gb a=0)(hl:a.length≤500):dx a=(bk a,0):=by
 have:=sV (yK (fT ha).2.1);unfold dx;rw[if_neg (fun h=>h ha),if_neg (by omega)]
attribute [local irreducible] aH ai be aY aP aQ aD aR aZ bl Go.Abs.Fn aX Go.Abs.Pure aq aK Yl
end Go.Proofs.YtekdaafnjdlenaaGreat
namespace Go.Proofs.YtekdaafnjdlenaaGreat
open Go Go.Abs
theorem mw:∀(n:Nat)(a b:List Int),a.length+b.length≤n→bd a→bd b→(bX a b).length+2*(a.filter fun x=>decide (x∈b)).length=a.length+b.length
 |_,[],b,_,_,_=>by rw[kT];simp
 |_,x::a,[],_,_,_=>by
  rw[gG,GR.2 (fun z _=>by simp)];rfl
 |0,x::a,y::b,h,_,_=>by simp only[bO] at h;omega
 |n+1,x::a,y::b,h,ha,hb=>by
  simp only[bO] at h ⊢;obtain⟨a1,a2⟩:=hU.1 ha;obtain⟨b1,b2⟩:=hU.1 hb;rw[og];by_cases g1:x<y
  ·have hx:x∉y::b:=fun q=>by
     rcases cR.1 q with rfl|q
     ·omega
     ·have:=b1 x q;omega
   have ih:=mw n a (y::b) (by simp only[bO];omega) a2 hb;rw[if_pos g1,bO,zw (by simpa using hx)];simp only[bO] at ih;omega
  rw[if_neg g1];by_cases g2:y<x
  ·have hf:(x::a).filter (fun z=>decide (z∈y::b))=(x::a).filter fun z=>decide (z∈b):=by
     refine List.filter_congr fun z hz=>decide_eq_decide.2 ?_;rw[cR];refine⟨fun h=>h.resolve_left ?_,.inr⟩;rintro rfl;rcases cR.1 hz with rfl|hz
     ·omega
     ·have:=a1 z hz;omega
   have ih:=mw n (x::a) b (by simp only[bO];omega) ha b2;rw[if_pos g2,bO,hf];simp only[bO] at ih;omega
  rw[if_neg g2];obtain rfl:x=y:=by omega
  have hf:a.filter (fun z=>decide (z∈x::b))=a.filter fun z=>decide (z∈b):=by
   refine List.filter_congr fun z hz=>decide_eq_decide.2 ?_;rw[cR];refine⟨fun h=>h.resolve_left ?_,.inr⟩;rintro rfl;have:=a1 z hz;omega
  have ih:=mw n a b (by omega) a2 b2;rw[zN (by simp),bO,hf];omega
theorem rh{a b:List Int}(ha:a.Nodup)(hb:b.Nodup):(a.filter fun x=>decide (x∈b)).length=(b.filter fun x=>decide (x∈a)).length:=
 ((List.perm_ext_iff_of_nodup (ha.sublist Ar) (hb.sublist Ar)).2 fun x=>by
  simp only[fG,iq];exact And.comm).length_eq
theorem bd.nodup{l:List Int}(h:bd l):l.Nodup:=uH (fun{x y}(h:x<y) e=>by omega) h
theorem Dh{l:List Nat}{n:Nat}:(n:Int)∈bD l↔n∈l:=by
 unfold bD;rw[bE];exact⟨fun⟨m,h1,h2⟩=>by rwa [←(by omega:m=n)],fun h=>⟨n,h,rfl⟩⟩
theorem jn{l:List Nat}{x:Int}:x∈bD l↔ ∃i:Nat,i∈l∧(i:Int)=x:=by unfold bD;exact bE
theorem ew{l:List Nat}(h:l.Pairwise (· < ·)):bd (bD l):=by
 unfold bD bd;rw[List.pairwise_map];exact uH (fun{a b}(h:a<b)=>by omega) h
theorem sx{X Y:List Spx}{n i:Nat}:(ju X Y n i).Pairwise (· < ·):=List.pairwise_lt_range.sublist Ar
theorem xM{X Y:List Spx}{n i j:Nat}:j∈ju X Y n i↔j<n∧Y.getD i default∈bu (X.getD j default):=by
 unfold ju;simp only[fG,eo,iq]
theorem fF{X Y:List Spx}:(cK X Y).length=Y.length:=by unfold cK;simp
theorem Fy{X Y:List Spx}{i:Nat}(h:i<Y.length):(cK X Y).getD i default=bD (ju X Y X.length i):=by
 unfold cK;simp[List.getD,h]
theorem kN{X Y:List Spx}(hX:X.length≤4096)(hY:Y.length≤4096):ia X.length (cK X Y):=by
 refine⟨by omega,by omega,by rw[fF];exact hY,fun r hr=>?_⟩;unfold cK at hr;obtain⟨i,hi,rfl⟩:=bE.1 hr;refine⟨fun v hv=>?_,?_,ui (ew sx)⟩
 ·unfold bD at hv;obtain⟨j,hj,rfl⟩:=bE.1 hv;have:=(xM.1 hj).1;omega
 ·unfold bD;rw[bz];exact fB x7 hX
def ir(a b:List Int):Bool:=decide ((a.length+b.length-(bX a b).length)/2%2=1)
def eV(R:List (List Int))(x:List Int):List Nat:=(List.range R.length).filter fun i=>ir (R.getD i default) x
theorem ug{X:List Spx}(hX:∀s∈X,bQ cl s){f:Spx}:∀{w:List Nat},(∀j∈w,j<X.length)→(w.filter fun j=>decide (f∈bu (X.getD j default))).length=lD (w.map fun j=>X.getD j default) f
 |[],_=>rfl
 |j::w,h=>by
  have ih:=ug hX (f:=f) (w:=w) fun i hi=>h i (dL _ hi);have hn:=pt (hX _ (a5 (h j cJ)));rw[dT,qc];by_cases hf:f∈bu (X.getD j default)
  ·have h1:=List.count_pos_iff.2 hf;have h2:=List.nodup_iff_count.1 hn f;rw[zN (by simpa using hf),bO,ih];omega
  ·rw[zw (by simpa using hf),ih,Hk hf,cf]
theorem Df{X Y:List Spx}(hX:∀s∈X,bQ cl s){w:List Nat}(hw:w.Pairwise (· < ·))(hb:∀j∈w,j<X.length){i:Nat}:i∈eV (cK X Y) (bD w)↔i<Y.length∧Y.getD i default∈bk (w.map fun j=>X.getD j default):=by
 have hsub:∀s∈w.map (fun j=>X.getD j default),bQ cl s:=fun s hs=>by
  obtain⟨j,hj,rfl⟩:=bE.1 hs;exact hX _ (a5 (hb j hj))
 unfold eV;rw[fG,eo,fF];refine and_congr_right fun hi=>?_;rw[Fy hi,(gD hsub).2,←ug hX hb];have h1:=mw _ _ _ (aO _) (ew (sx (X:=X) (Y:=Y) (n:=X.length) (i:=i))) (ew hw);have h2:=rh (ew (sx (X:=X) (Y:=Y) (n:=X.length) (i:=i))).nodup (ew hw).nodup
 have h3:((bD w).filter fun x=>decide (x∈bD (ju X Y X.length i))).length=(w.filter fun j=>decide (Y.getD i default∈bu (X.getD j default))).length:=by
  rw[show bD w=w.map fun(n:Nat)=>(n:Int) from rfl,List.filter_map,bz]
  congr 1
  refine List.filter_congr fun j hj=>?_;show decide ((j:Int)∈bD _)=_;refine decide_eq_decide.2 ?_;rw[Dh,xM];exact⟨fun h=>h.2,fun h=>⟨hb j hj,h⟩⟩
 unfold ir;rw[iq];omega
theorem kp{Y:List Spx}{f:Spx}(h:f∈Y):Y.idxOf f<Y.length∧Y.getD (Y.idxOf f) default=f:=by
 have hl:=np.2 h;exact⟨hl,by simp[List.getD,hl]⟩
theorem v5{Y:List Spx}(hY:Y.Nodup){i:Nat}(h:i<Y.length):Y.idxOf (Y.getD i default)=i:=by
 have h1:=kp (a5 h);have e1:Y[Y.idxOf (Y.getD i default)]'h1.1=Y[i]:=(List.getElem_idxOf h1.1).trans (by simp[List.getD,h]);exact(List.getElem_inj hY).1 e1
theorem DA{Y a:List Spx}(hY:bQ bH Y)(ha:bQ bH a)(h:∀s∈a,s∈Y):(a.map fun s=>Y.idxOf s).Pairwise (· < ·):=by
 rw[List.pairwise_map];refine List.Pairwise.imp_of_mem (fun{s t} hs ht hst=>?_) ha;obtain⟨h1,h2⟩:=kp (h s hs);obtain⟨h3,h4⟩:=kp (h t ht);rcases rz (Y.idxOf s) (Y.idxOf t) with q|q|q
 ·exact q
 ·rw[q,h4] at h2;subst h2;exact absurd hst (ji.ord.irr _)
 ·have:=dQ hY q h1;rw[h2,h4] at this;exact absurd hst (ji.ord.asym _ _ this)
theorem AN{X Y:List Spx}(hX:∀s∈X,bQ cl s)(hY:bQ bH Y){w:List Nat}(hw:w.Pairwise (· < ·))(hb:∀j∈w,j<X.length)(hin:∀s∈bk (w.map fun j=>X.getD j default),s∈Y):
    bD (eV (cK X Y) (bD w))=bD ((bk (w.map fun j=>X.getD j default)).map fun s=>Y.idxOf s):=by
 have hsub:∀s∈w.map (fun j=>X.getD j default),bQ cl s:=fun s hs=>by
  obtain⟨j,hj,rfl⟩:=bE.1 hs;exact hX _ (a5 (hb j hj))
 refine CH (ew (List.pairwise_lt_range.sublist Ar)) (ew (DA hY (nc hsub) hin)) fun x=>?_;rw[jn,jn];refine exists_congr fun i=>and_congr_left fun _=>?_;rw[Df hX hw hb,bE]
 exact ⟨fun ⟨h1,h2⟩=>⟨_,h2,v5 (hY.nodup ji) h1⟩,fun ⟨s,h1,h2⟩=>by
  obtain⟨h3,h4⟩:=kp (hin s h1);rw[←h2,h4];exact⟨h3,h1⟩⟩
attribute [local irreducible] aH ai be aY aP aQ aD aR aZ bl Go.Abs.Fn aX Go.Abs.Pure aq aK Yl
theorem Ew(a b:List Int)(ha:a.length≤1000000)(hb:b.length≤1000000):pU 116 [aE a,aE b] (.bool (ir a b)):=by
 refine pO LB ?_;simp only[KI,aJ];have hs:=vP a b (by omega) (by omega);have hl:=oQ _ a b (aO _);unfold ir;generalize bX a b=S at *
 have hq:∀tb tf,br .quo tb tf (.int .i64 ((a.length:Int)+b.length-S.length)) (.int .i64 2)=some (.int .i64 (((a.length+b.length-S.length)/2:Nat):Int)):=fun tb tf=>by
  rw[o0 (by omega) (by omega) (by omega)]
  congr 2;omega
 have hr:∀tb tf,br .rem tb tf (.int .i64 (((a.length+b.length-S.length)/2:Nat):Int)) (.int .i64 2)=some (.int .i64 (((a.length+b.length-S.length)/2%2:Nat):Int)):=fun tb tf=>by
  rw[Bt (by omega) (by omega)]
  congr 2
 have z:decide ((((a.length+b.length-S.length)/2%2:Nat):Int)=1)=decide ((a.length+b.length-S.length)/2%2=1):=decide_eq_decide.2 (by omega);refine wnY (zI4 @ez @hq @hr @z) ?_;exact .bool _
theorem DL{l:List (List Int)}{k:Nat}(h:k<l.length):ey 1 (bF l) (.int .i64 (k:Int))=some (.iptr [aE (l.getD k default)] 0):=by
 rw[n5,if_pos ⟨by omega,by omega⟩,cw]
theorem eG{l:List (List Int)}:dz (bF l)=some (.int .i64 l.length):=qS
theorem Gg{n:Nat}{v:List Int}(h:qf n v=0):∃w:List Nat,v=bD w∧w.Pairwise (· < ·)∧∀j∈w,j<n:=by
 have hall:=gB h;have hk:=fun k(hk:k<v.length)=>Ik (hall k hk)
 have hm:∀x∈v,0≤x∧x<n:=fun x hx=>by
  obtain⟨k,h1,h2⟩:=jV hx;have:=hk k h1;have e:v.getD k default=x:=by simp[List.getD,h1,h2]
  rw[e] at this;exact⟨this.1,this.2.1⟩
 have hasc:bd v:=by
  have hchain:∀j i,i<j→j<v.length→v.getD i default<v.getD j default:=fun j=>by
   induction j with
   |zero=>intro i hi;omega
   |succ j ih=>
    intro i hi hj;have q:=(hk (j+1) hj).2.2 (by omega);rw[qg] at q;rcases(by omega:i<j∨i=j) with h|rfl
    ·have:=ih i h (by omega);omega
    ·exact q
  unfold bd;rw[jT];intro i j hi hj hij;have:=hchain j i hij hj;simpa[List.getD,hi,hj] using this
 refine⟨v.map Int.toNat,?_,?_,fun j hj=>?_⟩
 ·unfold bD;rw[List.map_map]
  symm
  refine(pe fun x hx=>?_).trans (List.map_id v);have:=(hm x hx).1;show((x.toNat:Nat):Int)=x;omega
 ·rw[List.pairwise_map];exact List.Pairwise.imp_of_mem (fun{x y} hx hy hxy=>by have:=(hm x hx).1;omega) hasc
 ·obtain⟨x,hx,rfl⟩:=bE.1 hj;have:=hm x hx;omega
theorem CF{X:List Spx}{w:List Nat}:cp X (bD w)=w.map fun j=>X.getD j default:=by
 unfold cp bD;rw[List.map_map];exact pe fun j _=>rfl
theorem uK{c:List Spx}{k:Nat}{v:List Int}(hc:aB c=0)(hc50:c.length≤50)(hk:k<8)(hv:v.length≤400)(h:qf (ao c (k+1)).length v=0):
    ∃a b,uw c k v=(a,0)∧cS c a=(v,0)∧dx a=(b,0)∧gb a=0∧ShC a∧ShC b∧oJ c k=(((((ao c (k+1)).length:Nat):Int),cK (ao c (k+1)) (ao c k)),0)∧cS c b=(bD (eV (cK (ao c (k+1)) (ao c k)) v),0)∧b=bk a∧gb b=0∧(∀s∈a,s.length=k+1)∧(∀s∈b,s.length=k)∧(∀s∈b,s∈ao c k)∧bD (eV (cK (ao c (k+1)) (ao c k)) v)=bD (jL (ao c k) b):=by
 obtain⟨w,rfl,hw,hb⟩:=Gg h;have hXs:=jo (d:=(k:Int)+1) hc;have hXa:=kf (c:=c) (d:=(k:Int)+1);have hXm:=fun s=>jP (c:=c) (d:=(k:Int)+1) (s:=s);have hXf:=fun s f=>AB (c:=c) (d:=(k:Int)) (s:=s) (f:=f);have hYa:=kf (c:=c) (d:=(k:Int));have hYm:=fun s=>jP (c:=c) (d:=(k:Int)) (s:=s);have hwl:w.length≤400:=by unfold bD at hv;rwa [bz] at hv
 have e1:uw c k (bD w)=(w.map fun j=>(ao c (k+1)).getD j default,0):=by
  unfold uw;rw[if_neg (fun h=>h hc),if_neg (by omega),if_neg (fun q=>q h),CF]
 have e5:oJ c k=(((((ao c (k+1)).length:Nat):Int),cK (ao c (k+1)) (ao c k)),0):=by
  unfold oJ;rw[if_neg (fun h=>h hc),if_neg (by omega)]
 have hvec:∀a:List Spx,gb a=0→(a=[]∨ ∃d:Nat,bw a=d∧∀s∈a,s∈ao c d)→cS c a=(bD (jL (ao c (bw a)) a),0):=fun a ha hr=>by
  unfold cS;rw[if_neg (fun h=>h hc),if_neg (fun h=>h ha)];rcases hr with rfl|⟨d,hd,hr⟩
  ·rw[if_pos rfl];rfl
  ·by_cases h0:a=[]
   ·subst h0;rw[if_pos rfl];rfl
   ·rw[if_neg h0,if_pos (eh.2 fun s hs=>a8 (by rw[hd];exact hr s hs))]
 have hXe:ao c (((k+1:Nat)):Int)=ao c ((k:Int)+1):=by rw[show(((k+1:Nat)):Int)=(k:Int)+1 by omega]
 generalize ao c ((k:Int)+1)=X at *
 have hsub:∀s∈w.map (fun j=>X.getD j default),s∈X:=fun s hs=>by
  obtain⟨j,hj,rfl⟩:=bE.1 hs;exact ay (hb j hj)
 have hlen:∀s∈w.map (fun j=>X.getD j default),s.length=k+1:=fun s hs=>by
  have:=((hXm s).1 (hsub s hs)).2.1;omega
 have hasc:bQ bH (w.map fun j=>X.getD j default):=by
  unfold bQ;rw[List.pairwise_map];exact List.Pairwise.imp_of_mem (fun{i j} hi hj hij=>dQ hXa hij (hb j hj)) hw
 have hsim:∀s∈w.map (fun j=>X.getD j default),bT s=0:=fun s hs=>hXs s (hsub s hs)
 have hpos:jL X (w.map fun j=>X.getD j default)=w:=by
  unfold jL;rw[List.map_map];refine(pe fun j hj=>?_).trans (List.map_id w);exact v5 (hXa.nodup ji) (hb j hj)
 have hap:=AN (X:=X) (Y:=ao c k) (gj hXs) hYa hw hb (fun s hs=>by
  obtain⟨t,t1,t2⟩:=jh (fun s hs=>gj hXs s (hsub s hs)) hs;exact hXf t s (hsub t t1) t2)
 have hin:∀s∈bk (w.map fun j=>X.getD j default),s∈ao c k:=fun s hs=>by
  obtain⟨t,t1,t2⟩:=jh (fun s hs=>gj hXs s (hsub s hs)) hs;exact hXf t s (hsub t t1) t2
 have hwl2:(w.map fun j=>X.getD j default).length≤400:=by rw[bz];exact hwl
 have hl0:0<w.length→bw (w.map fun j=>X.getD j default)=k+1:=fun h0=>hlen _ (ay (by rw[bz];exact h0));have hw0:w.length=0→(w.map fun j=>X.getD j default)=[]:=fun h0=>by rw[fk.1 h0];rfl
 have hpos2:w.length=0→w=[]:=fun h0=>fk.1 h0;generalize (w.map fun j=>X.getD j default)=a at *;have hca:gb a=0:=Bi (n:=k+1) (by omega) hsim hasc hlen;have hcb:=DD hca (by omega);have hsame:=v6 (gj hsim) hlen;refine⟨a,bk a,e1,?_,DS hca (by omega),hca,vw (by omega) hsim,vw (by have:=(fT hcb).1;omega) (mP hsim),e5,?_,rfl,hcb,hlen,fun s hs=>by have:=hsame s hs;omega,hin,hap⟩
 ·by_cases h0:w.length=0
  ·rw[hvec a hca (.inl (hw0 h0)),hw0 h0,hpos2 h0];rfl
  ·have h1:bw a=k+1:=hl0 (by omega);rw[hvec a hca (.inr ⟨k+1,h1,fun s hs=>by rw[hXe];exact hsub s hs⟩),h1,hXe,hpos]
 ·by_cases h0:bk a=[]
  ·rw[hvec _ hcb (.inl h0),hap,h0];rfl
  ·have h1:bw (bk a)=k:=by
     have:=hsame _ (ay (gK.2 h0));unfold bw;omega
   rw[hvec _ hcb (.inr ⟨k,h1,hin⟩),hap,h1];rfl
end Go.Proofs.YtekdaafnjdlenaaGreat
namespace Go.Proofs.YtekdaafnjdlenaaGreat
open Go Go.Abs
def trF(R:List (List Int))(n q:Nat):List Nat:=(List.range n).filter fun i=>decide ((q:Int)∈R.getD i default)
theorem Ey{R:List (List Int)}{n q:Nat}:trF R (n+1) q=trF R n q++if (q:Int)∈R.getD n default then [n] else []:=by
 unfold trF;rw[List.range_succ,ws]
 congr 1
 by_cases h:(q:Int)∈R.getD n default
 ·rw[if_pos h,zN (by simpa using h)];rfl
 ·rw[if_neg h,zw (by simpa using h)];rfl
theorem B0{R:List (List Int)}{n q:Nat}:(trF R n q).length≤n:=by
 unfold trF;exact fB (List.length_filter_le _ _) (by simp)
def trL(c:Nat)(R:List (List Int)):List (List Int):=(List.range c).map fun q=>bD (trF R R.length q)
attribute [local irreducible] aH ai be aY aP aQ aD aR aZ bl Go.Abs.Fn aX Go.Abs.Pure aq aK Yl
set_option maxHeartbeats 2000000 in
theorem yE(c:Nat)(R:List (List Int))(hm:ia c R):pU 133 [dV c R] (.tup [dV R.length (trL c R),.int .i64 0]):=by
 refine pO K5 ?_;simp only[LL,aJ];have h1:=lh c R hm;have z0:decide ((0:Int)≠0)=false:=rfl;have dm:Dat (.agg [.int .i64 c,bF R]):=dl c R;obtain⟨m1,m2,m3,m4⟩:=hm;have hzc:bo (AV.agg [AV.esl]) c=List.replicate c .esl:=by simp[bo,AV.cells]
 unfold dV;refine wnY (aI @z0 @eG) ?_;refine xL (k1:=.i64) (k2:=.i64) (n:=c) (m:=c) rfl ev0 ev0 (by omega) (Int.le_refl _) (by omega) (by omega) ?_;rw[cw,hzc,Nat.mul_one];refine wnY @eG ?_;refine lpI (X:=Nat×List AV) (fun x=>[(2,.ptr 1 2 0),(5,.ptr 3 2 0),(24,bF R),(25,.int .i64 R.length),(26,.int .i64 x.1)]) (fun x H' nx'=>x.1≤R.length∧4≤nx'∧H' 1=some [.int .i64 0,.esl]∧H' 3=some [.int .i64 R.length,.msl 2 c 1 0 c]∧MatOk H' 2 4 nx' c (trF R x.1) x.2) (fun x=>R.length-x.1) (0,List.replicate c .esl) ⟨bR _,aO _,by(repeat rw[ac (by omega)]);rw[af],by rw[af];rfl,MatOk.new (by(repeat rw[ac (by omega)]);rw[af]) (fun j _=>rfl)⟩ ?_;rintro⟨i,vs⟩ H nx ⟨i1,i2,g1,g3,hmat⟩;dsimp only at i1 i2 g1 g3 hmat ⊢;by_cases hi:i<R.length
 rotate_left
 ·obtain rfl:i=R.length:=by omega
  have hst:Snap (ap H 1 [.int .i64 R.length,.msl 2 c 1 0 c]) (.msl 2 c 1 0 c) (bF (trL c R)):=(hmat.same (hi':=nx) (G:=trF R R.length) (ac (by omega)) (fun x x1 x2 x3=>ac (by omega)) (aO _) (fun j _=>rfl)).snap;refine wnY (aI @g1 @g3) ?_;exact jF hst rfl
 have ix:=DL hi;have hrow:=m4 _ (a5 hi);have hF:∀q,trF R (i+1) q=trF R i q++if (q:Int)∈R.getD i default then [i] else []:=fun q=>Ey
 generalize R.getD i default=r at *
 have hrasc:∀j,j<r.length→r.getD j default∉r.take j:=fun j hj hm=>by
  have hchain:∀b a,a<b→b<r.length→r.getD a default<r.getD b default:=fun b=>by
   induction b with
   |zero=>intro a ha;omega
   |succ b ih=>
    intro a ha hb;have q:=hrow.2.2 b hb;rcases(by omega:a<b∨a=b) with h|rfl
    ·have:=ih a h (by omega);omega
    ·exact q
  obtain⟨a,ha,e⟩:=jV hm;rw[iz] at ha;have h5:=hchain j a (by omega) hj;have e2:r.getD a default=r.getD j default:=by rw[←e];simp[List.getD,show a<r.length by omega]
  omega
 refine wnY @ix ?_;refine lpI (X:=Nat×List AV) (fun x=>[(2,.ptr 1 2 0),(5,.ptr 3 2 0),(6,.int .i64 i),(24,bF R),(25,.int .i64 R.length),(26,.int .i64 i),(31,aE r),(32,.int .i64 r.length),(33,.int .i64 x.1)]) (fun x H' nx'=>x.1≤r.length∧nx≤nx'∧H' 1=some [.int .i64 0,.esl]∧H' 3=some [.int .i64 R.length,.msl 2 c 1 0 c]∧MatOk H' 2 4 nx' c (fun q=>trF R i q++if (q:Int)∈r.take x.1 then [i] else []) x.2) (fun x=>r.length-x.1) (0,vs) ⟨bR _,aO _,g1,g3,hmat.same rfl (fun _ _ _ _=>rfl) (aO _) (fun j _=>by simp)⟩ ?_;clear hmat g1 g3;rintro⟨j,vs⟩ H' nx' ⟨j1,j2,g1,g3,hmat⟩;dsimp only at j1 g1 g3 hmat ⊢;by_cases hj:j<r.length
 rotate_left
 ·rw[gz (by omega)] at hmat;refine wnY and_self ?_;exact⟨(i+1,vs),by dsimp only;omega,⟨by dsimp only;omega,by omega,g1,g3,hmat.same rfl (fun _ _ _ _=>rfl) (aO _) (fun q _=>hF q)⟩,ag0⟩
 have iy:=ixV hj;have hjr:=hrow.1 _ (a5 hj);have htk:=cr hj;have hnm:=hrasc j hj;generalize r.getD j default=v at *;obtain⟨p,rfl⟩:∃p:Nat,v=p:=⟨v.toNat,by omega⟩
 have p1:p<c:=by omega
 refine wnY @iy ?_;refine pP 3 2 g3 hmat.box (by omega) fun S0 hS1 hS2 hsub=>?_;have hFp:trF R i p++(if (p:Int)∈r.take j then [i] else [])=trF R i p:=by rw[if_neg hnm,io]
 have hrow2:=hmat.row p p1;rw[hFp] at hrow2
 have hvs:vs[p]?=some (vs.getD p .undef):=by
  have:=hmat.len;simp[List.getD,show p<vs.length by omega]
 have hlen:=hmat.len;have hb3:∀b,bZ (vs.getD p .undef)=some b→4≤b∧b<nx'∧b≠2:=fun b hb=>hmat.bnd p b p1 hb;have hFl:=B0 (R:=R) (n:=i) (q:=p);generalize hrv:vs.getD p .undef=rv at *;refine wnY (zI4 @hS1 @hS2 @hvs @hlen) ?_;refine eb ?_;refine wnY and_self ?_;refine⟨hsub _ (by rw[ac (by omega)];exact g3) (by rw[ac (by omega)];exact hmat.box),?_⟩;refine eb ?_;refine eR (hrow2.same fun b hb=>?_) ?_
 ·have:=hb3 b hb;rw[ac (by omega)]
 rintro s2 H4 nx4 hr2 k1 k2 k3 k4;have lo:∀x,x<nx'→bZ rv≠some x→H4 x=H' x:=fun x x1 x2=>(k3 x (by omega) x2).trans (ac (by omega));have l5:∀x,x<4→H4 x=H' x:=fun x hx=>lo x (by omega) (fun h=>by have:=hb3 _ h;omega);have q2:=(l5 2 (by omega)).trans hmat.box;have q3:=(l5 3 (by omega)).trans g3;obtain⟨o1,o2⟩:=hr2.one;refine jY ⟨hsub _ q3 q2,?_⟩
 have hlp:bK vs p [s2]=vs.set p s2:=by
  simp only[bK,bO,fC,cf];rw[Ju,if_pos (by omega)];simp
 have zz:=aI @q2 (aI @o1 (aI @o2 (aI @hlen @hlp)));repeat' (first|apply a_n|refine zO ?_|refine vY ?_|refine nvY ?_|apply jM|refine stY ?_|fail)
 refine⟨(j+1,vs.set p s2),by dsimp only;omega,⟨by dsimp only;omega,by omega,?_,?_,?_⟩,ag0⟩
 ·rw[ac (by omega),l5 _ (by omega)];exact g1
 ·rw[ac (by omega)];exact q3
 ·dsimp only;refine hmat.put (sv:=s2) (x:=i) p1 (fun q hq=>?_) ?_ (fun b hb=>?_) (by rw[af,hlp]) (fun x x1 x2 x3 x4=>?_) (by omega) (by omega)
  ·rw[htk];by_cases e:q=p
   ·subst e;rw[if_pos rfl,if_neg hnm,if_pos (oz _ (cV.2 rfl)),io]
   ·rw[if_neg e]
    congr 1
    refine xy ?_;rw[eU,cV];exact⟨fun h=>h.resolve_right (by omega),.inl⟩
  ·rw[hFp,dw]
   exact hr2.same fun b hb=>ac (by
    rcases k4 b hb with h|h
    ·have:=hb3 b h;omega
    ·omega)
  ·rw[hrv];rcases k4 b hb with h|h
   ·exact .inl h
   ·exact .inr ⟨by omega,by omega,by omega⟩
  ·rw[ac x3,lo x x2 (by rw[hrv] at x4;exact x4)]
end Go.Proofs.YtekdaafnjdlenaaGreat
namespace Go.Proofs.YtekdaafnjdlenaaGreat
open Go Go.Abs
theorem iu(v:Int)(ks:List Int):dg (.one .int) (.int .i64 v) (ks.map (AV.int .i64))=some (if v∈ks then some (ks.idxOf v) else none):=
 mW _ (AV.int .i64) (fun a b=>rfl) v ks
theorem Mi(v:Int):∀{l:List Int},bd l→∃b,b≤l.length∧(∀i,i<b→l.getD i default<v)∧∀i,b≤i→i<l.length→v≤l.getD i default
 |[],_=>⟨0,aO _,fun i h=>absurd h (by omega),fun i _ h=>absurd h (by simp)⟩
 |x::l,h=>by
  obtain⟨h1,h2⟩:=hU.1 h;by_cases hx:x<v
  ·obtain⟨b,b1,b2,b3⟩:=Mi v h2;refine⟨b+1,by simp;omega,fun i hi=>?_,fun i hi hl=>?_⟩
   ·match i with
    |0=>exact hx
    |i+1=>exact b2 i (by omega)
   ·match i with
    |0=>omega
    |i+1=>exact b3 i (by omega) (by simp at hl;omega)
  ·refine⟨0,bR _,fun i h=>absurd h (by omega),fun i _ hl=>?_⟩
   match i with
   |0=>show v≤x;omega
   |i+1=>
    have:=h1 (l.getD i default) (ay (by simp at hl;omega));show v≤l.getD i default;omega
theorem Iu{v:Int}{l:List Int}{b:Nat}(h1:∀i,i<b→l.getD i default<v)(h2:∀i,b≤i→i<l.length→v≤l.getD i default)(ha:bd l):(decide (b<l.length)&&decide (l.getD b default=v))=decide (v∈l):=by
 by_cases hm:v∈l
 ·obtain⟨i,hi,e⟩:=jV hm;have e':l.getD i default=v:=by simp[List.getD,hi,e]
  have hbi:b=i:=by
   rcases rz b i with h|h|h
   ·have h3:=h2 b (aO _) (by omega);have h4:=jT.1 ha b i (by omega) hi h;have e5:l.getD b default=l[b]:=by simp[List.getD,show b<l.length by omega]
    omega
   ·exact h
   ·have:=h1 i h;omega
  subst hbi;rw[a8 hi,a8 hm,a8 e'];rfl
 ·rw[bc hm];by_cases hlt:b<l.length
  ·rw[a8 hlt,Bool.true_and,bc];intro h;exact hm (by rw[←h];exact ay hlt)
  ·rw[bc hlt,Bool.false_and]
attribute [local irreducible] aH ai be aY aP aQ aD aR aZ bl Go.Abs.Fn aX Go.Abs.Pure aq aK Yl
theorem Gu(x y:Int):pU 187 [.int .i64 x,.int .i64 y] (.bool (decide (x<y))):=by
 have h1:=jb x;have h2:=jb y;refine pO HI ?_;simp only[Jb,aJ];refine wnZ and_self ?_;exact .bool _
theorem AH(l:List Int)(v:Int)(hl:l.length≤1000000000)(ha:bd l):∃b:Nat,pU 163 [aE l,.int .i64 v] (.tup [.int .i64 b,.bool (decide (v∈l))]):=by
 obtain⟨b,hb,h1,h2⟩:=Mi v ha;refine⟨b,?_⟩;rw[←Iu h1 h2 ha];refine pO Kv ?_;simp only[K8,aJ];refine wnZ @ez ?_;refine nG (X:=Nat×Nat) (fun x=>[(0,aE l),(1,.int .i64 v),(6,.int .i64 l.length),(7,.int .i64 x.1),(8,.int .i64 x.2)]) (fun x=>x.1≤b∧b≤x.2∧x.2≤l.length) (fun x=>x.2-x.1) (0,l.length) ⟨bR _,hb,aO _⟩ ag0 ?_;rintro⟨i,j⟩ ⟨g1,g2,g3⟩;dsimp only at g1 g2 g3 ⊢;by_cases hij:i<j
 ·have hh:(i+j)/2<l.length:=by omega
  have hc:=Gu (l.getD ((i+j)/2) default) v;have ix:=ixV hh;by_cases hn:l.getD ((i+j)/2) default<v
  ·rw[a8 hn] at hc;have hbb:(i+j)/2<b:=Nat.lt_of_not_le fun h=>by have:=h2 _ h hh;omega
   refine wnZ (zI4 @ez @gd @BR @ix) ?_;exact⟨((i+j)/2+1,j),⟨by omega,by omega,by omega⟩,by dsimp only;omega,ag0,rfl,rfl⟩
  ·rw[bc hn] at hc;have hbb:b≤(i+j)/2:=Nat.le_of_not_lt fun h=>hn (h1 _ h);refine wnZ (zI4 @ez @gd @BR @ix) ?_;exact⟨(i,(i+j)/2),⟨by omega,by omega,by omega⟩,by dsimp only;omega,ag0,rfl,rfl⟩
 ·have ei:i=b:=by omega
  have ej:j=b:=by omega
  clear hij g1 g2 g3;subst ei;have dij:decide ((i:Int)<(j:Int))=false:=bc (by omega);by_cases hlt:i<l.length
  ·have hc:=jb (l.getD i default);have ix:=ixV hlt;have hna:=jb v
   have hn2:∀n:Int,pU 188 [.int .i64 n] (.bool false):=fun n=>by
    refine pO Kb ?_;simp only[K3,aJ];refine wnZ and_self ?_;exact ci (by simp)
   have dlt:decide ((i:Int)<(l.length:Int))=true:=a8 (by omega);by_cases hv:l.getD i default=v
   ·have dv:decide (l.getD i default=v)=true:=a8 hv;rw[dv,a8 hlt,Bool.true_and];refine wnZ (zI5 @ez @ix @dlt @dij @dv) ?_;exact bM (ag (.int _ _) (ag (.bool _) ak))
   ·have dv:decide (l.getD i default=v)=false:=bc hv;rw[dv,Bool.and_false];have zz:=aI @ez (aI @ix (aI @dlt (aI @dij @dv)));repeat' (first|refine zW ?_|apply a_n|apply a_x|refine zO ?_|refine vZ ?_|refine cZ ?_ (hp:=by exact hn2 _)|refine gTZ ?_|refine gFZ ?_|refine cFZ ?_|refine bI rfl ?_|refine r2Z ?_|fail)
    exact bM (ag (.int _ _) (ag (.bool _) ak))
  ·have dlt:decide ((i:Int)<(l.length:Int))=false:=bc (by omega);rw[bc hlt,Bool.false_and];refine wnZ (zI3 @ez @dlt @dij) ?_;exact bM (ag (.int _ _) (ag (.bool _) ak))
theorem F9(l:List Int)(v:Int)(hl:l.length≤1000000000)(ha:bd l):pU 146 [aE l,.int .i64 v] (.bool (decide (v∈l))):=by
 obtain⟨b,hb⟩:=AH l v hl ha;refine pO L2 ?_;simp only[LP,aJ];refine wnZ and_self ?_;exact .bool _
end Go.Proofs.YtekdaafnjdlenaaGreat
namespace Go.Proofs.YtekdaafnjdlenaaGreat
open Go Go.Abs
def BL(c n:Nat)(x:Ln):Prop:=(∀z∈x.1,0≤z∧z<(c:Int))∧∀j∈x.2,0≤j∧j<(n:Int)
theorem eZ{a:List Int}{c:Nat}(ha:bd a)(h:∀z∈a,0≤z∧z<(c:Int)):a.length≤c:=by
 have hn:a.Nodup:=uH (fun{x y}(q:x<y) e=>by omega) ha
 have:=yQ hn (l₂:=(List.range c).map fun(k:Nat)=>(k:Int)) fun z hz=>by
  have:=h z hz;exact bE.2 ⟨z.toNat,eo.2 (by omega),by show((z.toNat:Nat):Int)=z;omega⟩
 simpa using this
theorem BL.len{c n:Nat}{x:Ln}(h:BL c n x)(ha:cq x):x.1.length≤c∧x.2.length≤n:=⟨eZ ha.1 h.1,eZ ha.2 h.2⟩
theorem BL.add{c n:Nat}{x l:Ln}(hx:BL c n x)(hl:BL c n l)(ax:cq x)(al:cq l):BL c n (d4 x l):=by
 refine⟨fun z hz=>?_,fun z hz=>?_⟩
 ·rcases(dq ax.1 al.1).1 hz with q|q
  ·exact hx.1 z q.1
  ·exact hl.1 z q.1
 ·rcases(dq ax.2 al.2).1 hz with q|q
  ·exact hx.2 z q.1
  ·exact hl.2 z q.1
theorem AS{c n:Nat}{p:Ln→Bool}:∀{M:List Ln}{x:Ln},(∀l∈M,cq l∧BL c n l)→cq x→BL c n x→BL c n (rdL M p x)
 |[],_,_,_,h=>h
 |l::M,x,hM,hx,h=>by
  unfold rdL;rw[List.foldl_cons];have hl:=hM l cJ;have hM':=fun m hm=>hM m (dL _ hm);show BL c n (rdL M p (if p l=true then d4 x l else x));split
  ·exact AS hM' (eM hx hl.1) (h.add hl.2 hx hl.1)
  ·exact AS hM' hx h
theorem yO:∀{i:Nat}{a b:List Int},i≤a.length→(∀j,j<i→∀z∈b,a.getD j default<z)→∀j,j<i→(bX a b).getD j default=a.getD j default
 |0,_,_,_,_,j,hj=>absurd hj (by omega)
 |i+1,[],_,h,_,_,_=>absurd h (by simp)
 |i+1,x::a,[],h,_,j,_=>by rw[gG]
 |i+1,x::a,y::b,h,hz,j,hj=>by
  have h0:x<y:=hz 0 (by omega) y cJ;rw[og,if_pos h0]
  match j with
  |0=>rfl
  |j+1=>exact yO (i:=i) (a:=a) (b:=y::b) (by simpa using h) (fun k hk z hz'=>hz (k+1) (by omega) z hz') j (by omega)
theorem wj:∀{i:Nat}{a b:List Int},i≤a.length→(∀j,j<i→∀z∈b,a.getD j default<z)→i≤(bX a b).length
 |0,_,_,_,_=>bR _
 |i+1,[],_,h,_=>absurd h (by simp)
 |i+1,x::a,[],h,_=>by rw[gG];exact h
 |i+1,x::a,y::b,h,hz=>by
  have h0:x<y:=hz 0 (by omega) y cJ;rw[og,if_pos h0,bO];have:=wj (i:=i) (a:=a) (b:=y::b) (by simpa using h) (fun k hk z hz'=>hz (k+1) (by omega) z hz');omega
theorem DF{M:List Ln}{p q:Ln→Bool}{l:Ln}(h:∀m∈M,q m=true→p m=true)(hl:l∈M)(h1:p l=true)(h2:q l=false):M.countP q<M.countP p:=by
 induction M with
 |nil=>cases hl
 |cons m M ih=>
  rw[List.countP_cons,List.countP_cons];have hle:M.countP q≤M.countP p:=List.countP_mono_left fun x hx=>h x (dL _ hx);rcases cR.1 hl with rfl|hl
  ·rw[if_pos h1,if_neg (by rw[h2];decide)];omega
  ·have:=ih (fun x hx=>h x (dL _ hx)) hl;have h3:=h m cJ;by_cases hq:q m=true
   ·rw[if_pos hq,if_pos (h3 hq)];omega
   ·rw[if_neg hq];split<;>omega
def nL(M:List Ln)(x:Ln):Nat:=M.countP fun l=>decide (ld l.1∈x.1)
theorem JB{M:List Ln}{x l:Ln}(hM:RedU M)(hx:cq x)(hl:l∈M)(h:ld l.1∈x.1):nL M (d4 x l)<nL M x:=by
 have hla:=hM.asc l hl;refine DF (l:=l) (fun m hm hq=>?_) hl (a8 h) (bc fun hq=>?_)
 ·have hq:=oT hq;refine a8 ?_;rcases(dq hx.1 hla.1).1 hq with q|q
  ·exact q.1
  ·have:=hM.own m hm l hl q.1;rw[←this];exact h
 ·rcases(dq hx.1 hla.1).1 hq with q|q
  ·exact q.2 (dj (hM.ne l hl))
  ·exact q.2 h
def bV(M:List Ln):List Int:=M.map fun l=>ld l.1
def eF(x:Ln):AV:=.agg [aE x.1,aE x.2]
def LM(H:Hp)(m:Nat)(M:List Ln):Prop:=H m=some [.omap ((bV M).map (AV.int .i64)) (M.map eF)]
theorem vF{M:List Ln}{v:Int}(h:v∈bV M):∃l∈M,ld l.1=v∧(M.map eF).getD ((bV M).idxOf v) .undef=eF l:=by
 have hi:=np.2 h;have h2:(bV M)[(bV M).idxOf v]=v:=List.getElem_idxOf hi;generalize (bV M).idxOf v=i at *;have hi':i<M.length:=by unfold bV at hi;simpa using hi
 refine⟨M[i],nq hi',?_,?_⟩
 ·have h3:(bV M)[i]'hi=ld M[i].1:=List.getElem_map ..;rw[←h3];exact h2
 ·simp[List.getD,hi']
theorem mQ{M:List Ln}{v:Int}:v∈bV M↔ ∃l∈M,ld l.1=v:=by unfold bV;rw[bE]
theorem JI{T:Tm}{S:Hp}{m:Nat}{ks:List Int}{vs:List AV}{mo ko:Opd}{v:Int}{z:AV}{ok:Bool}(h1:ov T mo=.mp m)(h2:S m=some [.omap (ks.map (AV.int .i64)) vs])(h3:ov T ko=.int .i64 v):ilk T S (.mget (.one .int) z ok mo ko)=some (Go.Abs.mget z ok (if v∈ks then some (ks.idxOf v) else none) vs):=by
 show lkS _ _ _ (ov T mo) (ov T ko) S=_;rw[h1,h3];simp only[lkS,h2,iu];rfl
attribute [local irreducible] aH ai be aY aP aQ aD aR aZ bl Go.Abs.Fn aX Go.Abs.Pure aq aK Yl
set_option maxHeartbeats 1000000 in
theorem FB(M:List Ln)(c n:Nat)(hc:c≤4096)(hn:n≤4096)(hM:RedU M)(hMb:∀l∈M,BL c n l)(x:Ln)(hx:cq x)(hxb:BL c n x){a:AV}{Hf HA H:Hp}(hfz:Fz Hf HA H)(hs:Snap Hf a (eF x)){nx m lb:Nat}(hlb:lb<nx)(hm:m<nx)(hne:m≠lb)(h1:H lb=some [.mp m])(h2:LM H m M):
    Abs.Fn Tryz.prog 149 [a,.ptr lb 1 0] HA nx fun r H' nx'=>r=eF (e6 M x)∧(∀b,b<nx→H' b=H b)∧nx≤nx':=by
 refine fO JV ?_;simp only[KE,aJ];have hx0:eF x=.agg [aE x.1,aE x.2]:=rfl;refine dH ?_;refine pE Hf H [(0,eF x),(1,.ptr lb 1 0)] hfz ⟨.inr hs,.inl rfl,trivial⟩ ?_;rw[hx0];clear hs hfz;refine wnY @h1 ?_;refine lpI (X:=Ln×Nat) (fun y=>[(1,.ptr lb 1 0),(2,.ptr nx 2 0),(3,.ptr (nx+1) 2 0),(4,.int .i64 y.2)]) (fun y H' nx'=>y.2≤y.1.1.length∧nx+2≤nx'∧cq y.1∧BL c n y.1∧e6 M y.1=e6 M x∧(∀j,j<y.2→∀l∈M,ld l.1≠y.1.1.getD j default)∧H' nx=some [aE y.1.1,aE y.1.2]∧H' (nx+1)=some [.esl,.esl]∧∀b,b<nx→H' b=H b) (fun y=>nL M y.1*10000+(y.1.1.length-y.2)) (x,0) ⟨bR _,aO _,hx,hxb,rfl,fun j h=>absurd h (by omega),by rw[ac (by omega),af],by rw[af],fun b hb=>by rw[ac (by omega),ac (by omega)]⟩ ?_;clear hx hxb hx0;rintro⟨y,i⟩ H' nx' ⟨g1,g2,g3,g4,g5,g6,g7,g8,g9⟩;dsimp only at g1 g2 g3 g4 g5 g6 g7 g8 g9 ⊢;obtain⟨l1,l2⟩:=g4.len g3;have k1:H' lb=some [.mp m]:=(g9 lb hlb).trans h1;have k2:LM H' m M:=(g9 m hm).trans h2;by_cases hi:i<y.1.length
 rotate_left
 ·have hr:e6 M y=y:=Dj hM g3 fun l hl hz=>by
    obtain⟨j,hj,e⟩:=jV hz;refine g6 j (by omega) l hl ?_;rw[←e];simp[List.getD,hj]
  have z:decide ((i:Int)<y.1.length)=false:=bc (by omega);rw[←g5,hr];refine wnY (zI4 @ez @z @g7 @g8) ?_;exact⟨rfl,fun b hb=>by rw[ac (by omega)];exact g9 b hb,by omega⟩
 have z:decide ((i:Int)<y.1.length)=true:=a8 (by omega);have ix:=ixV hi;have hvm:=ay hi;generalize hv:y.1.getD i default=v at *;refine wnY (zI4 @ez @z @ix @g7) ?_;refine A4 lb m nx k1 k2 g7 (by omega) (by omega) (by omega) fun S hS1 hS2 hS3 hsub=>?_;refine wnY (zI4 @hS1 @hS2 @hS3 @ix) ?_;simp only[dT,List.map_nil,List.getD_cons_succ,List.getD_cons_zero];by_cases hk:v∈bV M
 rotate_left
 ·have hmg:Go.Abs.mget (.agg [.esl,.esl]) true (if v∈bV M then some ((bV M).idxOf v) else none) (M.map eF)=.tup [.agg [.esl,.esl],.bool false]:=by rw[if_neg hk];rfl
  refine JE (JI ev0 hS2 ev0) ?_;rw[hmg];refine wnY and_self ?_;refine eb ?_;refine wnY and_self ?_;refine⟨hsub _ (by rw[ac (by omega)];exact k1) (by rw[ac (by omega)];exact k2) (by rw[ac (by omega)];exact g7),?_⟩;refine wnY and_self ?_;refine⟨(y,i+1),by dsimp only;omega,⟨by dsimp only;omega,by omega,g3,g4,g5,fun j hj l hl=>?_,by rw[ac (by omega),ac (by omega)];exact g7,by rw[ac (by omega),ac (by omega)];exact g8,fun b hb=>by rw[ac (by omega),ac (by omega)];exact g9 b hb⟩,ag0⟩;dsimp only;rcases(by omega:j<i∨j=i) with q|rfl
  ·exact g6 j q l hl
  ·rw[hv];exact fun e=>hk (mQ.2 ⟨l,hl,e⟩)
 obtain⟨l,hl,hld,hgd⟩:=vF hk
 have hmg:Go.Abs.mget (.agg [.esl,.esl]) true (if v∈bV M then some ((bV M).idxOf v) else none) (M.map eF)=.tup [.agg [aE l.1,aE l.2],.bool true]:=by
  rw[if_pos hk];show AV.tup [(M.map eF).getD ((bV M).idxOf v) .undef,.bool true]=_;rw[hgd];rfl
 refine JE (JI ev0 hS2 ev0) ?_;rw[hmg];refine wnY and_self ?_;refine eb ?_;refine wnY and_self ?_;refine⟨hsub _ (by rw[ac (by omega)];exact k1) (by rw[ac (by omega)];exact k2) (by rw[ac (by omega)];exact g7),?_⟩;refine wnY and_self ?_;have hla:=hM.asc l hl;have hlb':=hMb l hl;obtain⟨l3,l4⟩:=hlb'.len hla;have hs1:=vP y.1 l.1 (by omega) (by omega);have hs2:=vP y.2 l.2 (by omega) (by omega)
 have hlt:∀j,j<i→∀w∈l.1,y.1.getD j default<w:=fun j hj w hw=>by
  have h5:=nI hla.1 hw;have h6:=jT.1 g3.1 j i (by omega) hi hj;have e1:y.1.getD j default=y.1[j]:=by simp[List.getD,show j<y.1.length by omega]
  have e2:y.1.getD i default=y.1[i]:=by simp[List.getD,hi]
  omega
 have hp1:=yO (i:=i) (a:=y.1) (b:=l.1) (by omega) hlt;have hp2:=wj (i:=i) (a:=y.1) (b:=l.1) (by omega) hlt;have hnl:=JB hM g3 hl (by rw[hld];exact hvm);have ha':=eM g3 hla;have hb':=g4.add hlb' g3 hla;obtain⟨l5,_⟩:=hb'.len ha';have hrx:=C8 hM g3 hl;have e7:ap (ap H' nx' [AV.esl,AV.esl]) nx' (bK [AV.esl,AV.esl] 0 [aE l.1,aE l.2]) nx'=some [aE l.1,aE l.2]:=by rw[af];rfl
 have e8:ap (ap H' nx' [AV.esl,AV.esl]) nx' (bK [AV.esl,AV.esl] 0 [aE l.1,aE l.2]) nx=some [aE y.1,aE y.2]:=by rw[ac (by omega),ac (by omega)];exact g7
 have e9:∀b,b≠nx→b<nx'→ap (ap H' nx' [AV.esl,AV.esl]) nx' (bK [AV.esl,AV.esl] 0 [aE l.1,aE l.2]) b=H' b:=fun b h1 h2=>by rw[ac (by omega),ac (by omega)]
 generalize ap (ap H' nx' [AV.esl,AV.esl]) nx' (bK [AV.esl,AV.esl] 0 [aE l.1,aE l.2])=H2 at *;have hadd:d4 y l=(bX y.1 l.1,bX y.2 l.2):=rfl;generalize bX y.1 l.1=s1 at *;generalize bX y.2 l.2=s2 at *;refine wkY (aI @e7 @e8) ?_;refine⟨((s1,s2),i),?_,⟨hp2,by omega,by rw[←hadd];exact ha',by rw[←hadd];exact hb',by rw[←hadd,hrx];exact g5,fun j hj l' hl'=>by dsimp only;rw[hp1 j hj];exact g6 j hj l' hl',by rw[af];rfl,by rw[ac (by omega),e9 _ (by omega) (by omega)];exact g8,fun b hb=>by rw[ac (by omega),e9 _ (by omega) (by omega)];exact g9 b hb⟩,ag0⟩;rw[hadd] at hnl l5;dsimp only at hnl l5 ⊢;omega
end Go.Proofs.YtekdaafnjdlenaaGreat
namespace Go.Proofs.YtekdaafnjdlenaaGreat
open Go Go.Abs
open Nat (reduceEqDiff reduceAdd reduceLeDiff)
def cLs(l:List Ln):List AV:=l.flatMap fun x=>[aE x.1,aE x.2]
def lY(l:List Ln):AV:=iT 2 eF l
theorem Fq{l:List Ln}{x:Ln}:cLs (l++[x])=cLs l++[aE x.1,aE x.2]:=by unfold cLs;simp
theorem Ci{l:List Ln}:(cLs l).length=l.length*2:=by
 induction l with
 |nil=>rfl
 |cons x l ih=>show([aE x.1,aE x.2]++cLs l).length=_;rw[du,ih,bO];simp;omega
theorem GI{l:List Ln}:cLs l=(l.map eF).flatMap AV.cells:=by
 induction l with
 |nil=>rfl
 |cons x l ih=>show [aE x.1,aE x.2]++cLs l=_;rw[ih];rfl
theorem G5{H:Hp}{s:AV}{l:List Ln}(h:Row H 2 s (cLs l)):Snap H s (lY l):=by
 refine Row.snap (elems:=l.map eF) (by rw[←GI];exact h) (fun y hy=>?_) (by omega) (fun y hy c hx=>?_)
 ·obtain⟨n,_,rfl⟩:=bE.1 hy;rfl
 ·obtain⟨n,_,rfl⟩:=bE.1 hy;simp only[eF,AV.cells,cR,List.not_mem_nil,or_false] at hx;rcases hx with rfl|rfl<;>exact cP _
theorem yz{M:List Ln}(hM:RedU M):(bV M).Nodup:=by
 unfold bV;refine List.pairwise_map.2 (List.Pairwise.imp_of_mem (fun{x y} hx hy hne e=>?_) hM.nodup);have:=dj (hM.ne y hy);rw[←e] at this;exact hne (hM.own x hx y hy this).symm
def vsS(M:List Ln)(y:Ln)(seen:List Nat):List AV:=(List.range M.length).map fun i=>eF (if i∈seen then jp y (M.getD i default) else M.getD i default)
theorem Gn{M:List Ln}{y:Ln}:vsS M y []=M.map eF:=by
 refine List.ext_getElem (by simp[vsS]) fun i h1 h2=>?_;have h2:i<M.length:=by simpa using h2
 simp[vsS,List.getD,h2]
theorem Bk{M:List Ln}{y:Ln}{seen:List Nat}{i:Nat}(hi:i<M.length)(h:i∉seen):(vsS M y seen).getD i .undef=eF (M.getD i default):=by
 simp[vsS,List.getD,hi,h]
theorem Ce{M:List Ln}{y:Ln}{seen:List Nat}{i:Nat}:(vsS M y seen).set i (eF (jp y (M.getD i default)))=vsS M y (seen++[i]):=by
 refine List.ext_getElem (by simp[vsS]) fun j h1 h2=>?_;have h2:j<M.length:=by simpa[vsS] using h2
 rw[List.getElem_set];by_cases e:i=j
 ·subst e;simp[vsS]
 ·have e':¬j=i:=fun h=>e h.symm;simp[vsS,e,e']
theorem EN{M:List Ln}{y:Ln}{seen:List Nat}{i:Nat}(hi:i<M.length)(hs:i∉seen)(h:ld y.1∉(M.getD i default).1):vsS M y (seen++[i])=vsS M y seen:=by
 rw[←Ce,show jp y (M.getD i default)=M.getD i default by unfold jp;rw[if_neg h],←Bk (y:=y) hi hs];refine List.ext_getElem (by simp) fun j h1 h2=>?_;rw[List.getElem_set];split
 ·rename_i e;subst e;simp[List.getD,h2]
 ·rfl
theorem G0{M:List Ln}{y:Ln}{seen:List Nat}(h:∀i,i<M.length→i∈seen):vsS M y seen=(M.map (jp y)).map eF:=by
 refine List.ext_getElem (by simp[vsS]) fun i h1 h2=>?_;have h2:i<M.length:=by simpa using h2
 simp[vsS,List.getD,h2,h i h2]
theorem AF{R:List (List Int)}{c k:Nat}(hR:∀r∈R,bd r)(hv:∀r∈R,∀z∈r,0≤z∧z<(c:Int))(hk:k≤R.length):∀l∈(stE R k).1,BL c R.length l:=fun l hl=>by
 have hs:=gf hR hk;refine⟨jB (fun r hr=>hR r (kP hr)) (fun r hr=>hv r (kP hr)) (hs.inS l hl),fun j hj=>?_⟩;have:=(hs.ok l hl).2 j hj;omega
theorem xz{R:List (List Int)}(hR:∀r∈R,bd r){k:Nat}(hk:k≤R.length):(stE R k).1.length≤k∧(stE R k).2.length≤k:=by
 have:=(gf hR hk).len;omega
attribute [local irreducible] aH ai be aY aP aQ aD aR aZ bl Go.Abs.Fn aX Go.Abs.Pure aq aK Yl
theorem ED(l:List Int)(hl:l.length≤1000000000):PureF Tryz.prog 150 [aE l] (aE l):=by
 refine qO Lh ?_;simp only[LC,aJ];refine wnZ and_self ?_;refine wx (k:=l.length) (by((try simp only[b5,ZA,reduceEqDiff,↓reduceIte,reduceAdd,reduceLeDiff]);(try with_reducible rfl));exact AG) (fun h=>?_) (fun h=>?_) (fun h=>?_)
 ((all_goals (try have zz:=and_self));(repeat' (first|refine zW ?_|apply a_n|apply a_r|refine zO ?_|refine vZ ?_|refine b0Z ?_|refine a0Z ?_|refine cTZ ?_|refine cFZ ?_|refine bI rfl ?_|refine r1Z ?_|fail));(all_goals (try clear zz)))
 ·exact v7 af (by omega) rfl
 ·exact CI h
 ·exact v7 af (by omega) rfl
end Go.Proofs.YtekdaafnjdlenaaGreat
namespace Go.Proofs.YtekdaafnjdlenaaGreat
open Go Go.Abs
theorem G2{l:List Int}(h:l≠[]):ey 1 (aE l) (.int .i64 0)=some (.iptr [.int .i64 (ld l)] 0):=by
 have:=ixV (l:=l) (k:=0) (gK.2 h);exact this
theorem za{M:List Ln}{y:Ln}(hM:RedU M)(hy:cq y)(h0:y.1≠[])(hn:∀l∈M,ld l.1∉y.1):bV (M.map (jp y))=bV M:=by
 unfold bV;rw[List.map_map];exact pe fun l hl=>(t5 hM hy h0 hn hl).2.2.2
theorem Fo{M:List Ln}(hM:RedU M){l:Ln}{v:Int}(hl:l∈M)(e:ld l.1=v):(M.find? fun l=>decide (ld l.1=v))=some l:=by
 cases h:M.find? fun l=>decide (ld l.1=v) with
 |none=>
  have:=List.find?_eq_none.1 h l hl;exact absurd (a8 e) this
 |some m=>
  have h1:=oT (List.find?_some (p:=fun l:Ln=>decide (ld l.1=v)) h);have h2:=List.mem_of_find?_eq_some h;have:=dj (hM.ne m h2);rw[h1,←e] at this;rw[hM.own l hl m h2 this]
theorem AK{M:List Ln}{v:Int}(h:v∉bV M):(M.find? fun l=>decide (ld l.1=v))=none:=
 List.find?_eq_none.2 fun l hl hd=>h (mQ.2 ⟨l,hl,oT hd⟩)
theorem z8{M:List Ln}{c:Nat}:(lM M c).length≤c:=by
 induction c with
 |zero=>simp[lM]
 |succ c ih=>
  rw[p8,du];have:(M.find? fun l=>decide (ld l.1=(c:Int))).toList.length≤1:=by cases M.find? fun l=>decide (ld l.1=(c:Int))<;>simp
  omega
theorem py{H:Hp}{s:AV}{l:List (List Int)}(h:Row H 1 s (l.map aE)):Snap H s (bF l):=by
 rw[GY];exact h.snapL' (fun _=>rfl) (fun x _=>cP x)
theorem dp{c:Int}{R:List (List Int)}:dV c R=.agg [.int .i64 c,bF R]:=rfl
attribute [local irreducible] aH ai be aY aP aQ aD aR aZ bl Go.Abs.Fn aX Go.Abs.Pure aq aK Yl
set_option maxHeartbeats 2000000 in
theorem vM(c:Nat)(R:List (List Int))(hc:c≤4096)(hl:R.length≤4096)(hR:∀r∈R,bd r)(hv:∀r∈R,∀z∈r,0≤z∧z<(c:Int)):pU 115 [dV c R] (.tup [lY (lL R c),bF (stE R R.length).2]):=by
 refine pO KW ?_;simp only[Lc,aJ];rw[dp];refine dH ?_
 repeat' (first|apply a_n|refine zO ?_|refine vY ?_|refine bxY ?_|fail)
 refine dH ?_;refine wnY and_self ?_;refine vj ?_;refine rL (cs:=[.nilm]) rfl rfl rfl ?_
 repeat' (first|apply a_n|refine zO ?_|refine stY ?_|fail)
 refine dH ?_
 repeat' (first|apply a_n|refine zO ?_|refine vY ?_|fail)
 refine dH ?_
 repeat' (first|apply a_n|refine zO ?_|refine vY ?_|fail)
 refine co (fun T H nx=>T 1=.ptr 0 2 0∧T 4=.ptr 2 1 0∧3≤nx∧H 0=some [.int .i64 c,bF R]∧H 2=some [.mp 1]∧LM H 1 (stE R R.length).1∧∃dv,T 6=dv∧Row H 1 dv ((stE R R.length).2.map aE)∧∀b,bZ dv=some b→2<b∧b<nx) ?_ ?_
 ·refine wnY @eG ?_;refine lpI (X:=AV×Nat) (fun x=>[(1,.ptr 0 2 0),(4,.ptr 2 1 0),(5,.func 149 [.ptr 2 1 0]),(6,x.1),(19,bF R),(20,.int .i64 R.length),(21,.int .i64 x.2)]) (fun x H nx=>x.2≤R.length∧3≤nx∧H 0=some [.int .i64 c,bF R]∧H 2=some [.mp 1]∧LM H 1 (stE R x.2).1∧Row H 1 x.1 ((stE R x.2).2.map aE)∧∀b,bZ x.1=some b→2<b∧b<nx) (fun x=>R.length-x.2) (.esl,0) ⟨bR _,aO _,rfl,rfl,rfl,Row.nil,fun b h=>(by cases h)⟩ ?_;rintro⟨dv,k⟩ H nx ⟨h1,h2,h3,h4,h5,h6,h7⟩;dsimp only at h1 h2 h3 h4 h5 h6 h7 ⊢;by_cases hk:k<R.length
  rotate_left
  ·obtain rfl:k=R.length:=by omega
   refine wnY and_self ?_;exact⟨rfl,rfl,h2,h3,h4,h5,dv,rfl,h6,h7⟩
  have ix:=DL hk;have hrow:=hR _ (ay hk);have hrv:=hv _ (ay hk);have hst:=gf hR (i:=k) (by omega);have hbl:=AF hR hv (k:=k) (by omega);have hsl:=xz hR (k:=k) (by omega);have hss:stE R (k+1)=if (e6 (stE R k).1 (R.getD k default,[(k:Int)])).1=[] then((stE R k).1,(stE R k).2++[(e6 (stE R k).1 (R.getD k default,[(k:Int)])).2]) else(lr (stE R k).1 (e6 (stE R k).1 (R.getD k default,[(k:Int)])),(stE R k).2):=rfl
  generalize R.getD k default=r at *;generalize stE R k=MD at *;obtain⟨M,D⟩:=MD;dsimp only at *;have hrl:=eZ hrow hrv;have hcl:=ED r (by omega);refine wnY @ix ?_;refine fQ ev0 ev0 hcl (ag (cP _ _) ak) ?_;refine wnY @ix ?_;have hM:=hst.red;have hax:cq (r,[(k:Int)]):=⟨hrow,List.pairwise_singleton _ _⟩
  have hbx:BL c R.length (r,[(k:Int)]):=⟨hrv,fun j hj=>by rw[cV.1 hj];omega⟩
  refine ba ev0 ev0 (FB M c R.length hc hl hM hbl (r,[(k:Int)]) hax hbx (Fz.one af) (ul (ag (cP _ _) (ag (d8 (n:=1) (len:=1) (l:=[(k:Int)]) nf rfl rfl) ak))) (m:=1) (lb:=2) (by omega) (by omega) (by omega) (by rw[cQ (by omega),ac (by omega)];exact h4) (by unfold LM;rw[cQ (by omega),ac (by omega)];exact h5)) ?_;rintro _ H1 nx1 ⟨rfl,g1,g2⟩;have hay:cq (e6 M (r,[(k:Int)])):=iO (fun l hl=>hM.asc l hl) hax;have hby:BL c R.length (e6 M (r,[(k:Int)])):=AS (fun l hl=>⟨hM.asc l hl,hbl l hl⟩) hax hbx;have hno:∀l∈M,ld l.1∉(e6 M (r,[(k:Int)])).1:=fun l hl=>mV hM hax hl;generalize e6 M (r,[(k:Int)])=y at *;have lo:∀b,b<nx→H1 b=H b:=fun b hb=>(g1 b (by omega)).trans (by rw[cQ (by omega),ac (by omega)]);have e1:eF y=.agg [aE y.1,aE y.2]:=rfl;rw[e1];by_cases h0:y.1=[]
  ·rw[if_pos h0] at hss;have z:decide ((y.1.length:Int)=0)=true:=by rw[h0];rfl
   refine wnY (aI @ez @z) ?_;refine eR (h6.same fun b hb=>?_) ?_
   ·have:=h7 b hb;rw[ac (by omega),ac (by omega),ac (by omega)];exact lo b (by omega)
   rintro s2 H2 nx2 hr2 i1 i2 i3 i4;have lo2:∀b,b<nx→bZ dv≠some b→H2 b=H b:=fun b hb hn=>(i3 b (by omega) hn).trans (by rw[ac (by omega),ac (by omega),ac (by omega)];exact lo b hb);have hd:∀b,b≤2→bZ dv≠some b:=fun b hb e=>by have:=h7 b e;omega
   refine wnY and_self ?_;refine⟨(s2,k+1),by dsimp only;omega,⟨by dsimp only;omega,by omega,(lo2 0 (by omega) (hd 0 (by omega))).trans h3,(lo2 2 (by omega) (hd 2 (by omega))).trans h4,?_,?_,fun b hb=>?_⟩,ag0⟩
   ·dsimp only;rw[hss];exact(lo2 1 (by omega) (hd 1 (by omega))).trans h5
   ·dsimp only;rw[hss,dw];exact hr2
   ·rcases i4 b hb with h|h
    ·have:=h7 b h;omega
    ·omega
  rw[if_neg h0] at hss;have z:decide ((y.1.length:Int)=0)=false:=bc (by have:=gK.2 h0;omega);refine wnY (aI @ez @z) ?_;have hd:∀b,b≤2→bZ dv≠some b:=fun b hb e=>by have:=h7 b e;omega
  have q0:ap (ap H1 nx1 [AV.esl,AV.esl]) nx1 (bK [AV.esl,AV.esl] 0 [aE y.1,aE y.2]) 0=some [.int .i64 c,bF R]:=by rw[ac (by omega),ac (by omega)];exact(lo 0 (by omega)).trans h3
  have q2:ap (ap H1 nx1 [AV.esl,AV.esl]) nx1 (bK [AV.esl,AV.esl] 0 [aE y.1,aE y.2]) 2=some [.mp 1]:=by rw[ac (by omega),ac (by omega)];exact(lo 2 (by omega)).trans h4
  have q1:LM (ap (ap H1 nx1 [AV.esl,AV.esl]) nx1 (bK [AV.esl,AV.esl] 0 [aE y.1,aE y.2])) 1 M:=by unfold LM;rw[ac (by omega),ac (by omega)];exact(lo 1 (by omega)).trans h5
  have qy:ap (ap H1 nx1 [AV.esl,AV.esl]) nx1 (bK [AV.esl,AV.esl] 0 [aE y.1,aE y.2]) nx1=some [aE y.1,aE y.2]:=by rw[af];rfl
  have qd:Row (ap (ap H1 nx1 [AV.esl,AV.esl]) nx1 (bK [AV.esl,AV.esl] 0 [aE y.1,aE y.2])) 1 dv (D.map aE):=h6.same fun b hb=>by
   have:=h7 b hb;rw[ac (by omega),ac (by omega)];exact lo b (by omega)
  generalize ap (ap H1 nx1 [AV.esl,AV.esl]) nx1 (bK [AV.esl,AV.esl] 0 [aE y.1,aE y.2])=H2 at *;clear lo g1;refine wnY @q2 ?_;refine IT ev0 q1 ?_;refine wnY and_self ?_;have hkl:(bV M).length=M.length:=by unfold bV;rw[bz]
  have hkn:=yz hM;have ix0:=G2 h0;obtain⟨yl1,yl2⟩:=hby.len hay;refine lpI (X:=List Nat) (fun x=>[(1,.ptr 0 2 0),(4,.ptr 2 1 0),(5,.func 149 [.ptr 2 1 0]),(6,dv),(9,.ptr nx1 2 0),(19,bF R),(20,.int .i64 R.length),(21,.int .i64 k),(43,.itr (nx1+1))]) (fun seen H nx'=>H (nx1+1)=some [.oiter 1 ((bV M).map (AV.int .i64)).length seen]∧nx1+2≤nx'∧seen.Nodup∧(∀i∈seen,i<M.length)∧H 0=some [.int .i64 c,bF R]∧H 2=some [.mp 1]∧H nx1=some [aE y.1,aE y.2]∧H 1=some [.omap ((bV M).map (AV.int .i64)) (vsS M y seen)]∧Row H 1 dv (D.map aE)) (fun seen=>M.length-seen.length) [] ⟨af,aO _,List.nodup_nil,fun i h=>(by cases h),(ac (by omega)).trans q0,(ac (by omega)).trans q2,(ac (by omega)).trans qy,by rw[Gn];exact(ac (by omega)).trans q1,qd.same fun b hb=>by have:=h7 b hb;rw[ac (by omega)]⟩ ?_;clear q0 q2 q1 qy qd;rintro seen H3 nx3 ⟨r1,r2,r3,r4,q0,q2,qy,q1,qd⟩
  have hsl:seen.length≤M.length:=by
   have:=yQ r3 (l₂:=List.range M.length) fun i hi=>eo.2 (r4 i hi);simpa using this
  refine wnY and_self ?_;refine Jo ev0 r1 q1 rfl (fun i hi hns=>?_) (fun hall=>?_)
  ·have hi:i<M.length:=by rw[bz,hkl] at hi;exact hi
   have ek:((bV M).map (AV.int .i64)).getD i .undef=.int .i64 (ld (M.getD i default).1):=by
    unfold bV;simp[List.getD,hi]
   have evv:(vsS M y seen).getD i .undef=.agg [aE (M.getD i default).1,aE (M.getD i default).2]:=Bk hi hns
   have hidx:(bV M).idxOf (ld (M.getD i default).1)=i:=by
    have h5:i<(bV M).length:=by rw[hkl];exact hi
    have h6:(bV M)[i]=ld (M.getD i default).1:=by
     have:(bV M)[i]=ld M[i].1:=List.getElem_map ..;rw[this];simp[List.getD,hi]
    have h7:=np.2 (show ld (M.getD i default).1∈bV M by rw[←h6];exact nq h5);have h8:(bV M)[(bV M).idxOf (ld (M.getD i default).1)]=(bV M)[i]:=by rw[List.getElem_idxOf h7,h6]
    exact(List.getElem_inj hkn).1 h8
   have hkm:ld (M.getD i default).1∈bV M:=mQ.2 ⟨_,ay hi,rfl⟩;have hla:=hM.asc _ (ay hi);have hlb:=hbl _ (ay hi);obtain⟨ll1,ll2⟩:=hlb.len hla;have hset:=Ce (M:=M) (y:=y) (seen:=seen) (i:=i);have hsame:=EN (M:=M) (y:=y) (seen:=seen) (i:=i) hi hns;have r3':(seen++[i]).Nodup:=zD.2 ⟨r3,by simp,fun x hx z hz e=>by rw[e,cV.1 hz] at hx;exact hns hx⟩
   have r4':∀x∈seen++[i],x<M.length:=fun x hx=>by
    rcases eU.1 hx with q|q
    ·exact r4 x q
    ·rw[cV.1 q];exact hi
   have hsl2:(seen++[i]).length≤M.length:=by
    have:=yQ r3' (l₂:=List.range M.length) fun i hi=>eo.2 (r4' i hi);simpa using this
   rw[du,List.length_singleton] at hsl2;generalize M.getD i default=l at *;have hhas:=F9 l.1 (ld y.1) (by omega) hla.1;refine wnY (aI @ek @evv) ?_;refine IS (i:=i) ev0 af (by rw[ac (by omega)];exact q1) rfl (by simp) (by rw[bz,hkl];exact hi) ?_;refine wnY (aI @ek @evv) ?_;have w0:ap (ap (ap H3 (nx1+1) [AV.oiter 1 ((bV M).map (AV.int .i64)).length (seen++[i])]) nx3 [AV.esl,AV.esl]) nx3 (bK [AV.esl,AV.esl] 0 [aE l.1,aE l.2]) 0=some [.int .i64 c,bF R]:=by rw[ac (by omega),ac (by omega),ac (by omega)];exact q0
   have w2:ap (ap (ap H3 (nx1+1) [AV.oiter 1 ((bV M).map (AV.int .i64)).length (seen++[i])]) nx3 [AV.esl,AV.esl]) nx3 (bK [AV.esl,AV.esl] 0 [aE l.1,aE l.2]) 2=some [.mp 1]:=by rw[ac (by omega),ac (by omega),ac (by omega)];exact q2
   have w1:ap (ap (ap H3 (nx1+1) [AV.oiter 1 ((bV M).map (AV.int .i64)).length (seen++[i])]) nx3 [AV.esl,AV.esl]) nx3 (bK [AV.esl,AV.esl] 0 [aE l.1,aE l.2]) 1=some [.omap ((bV M).map (AV.int .i64)) (vsS M y seen)]:=by rw[ac (by omega),ac (by omega),ac (by omega)];exact q1
   have wy:ap (ap (ap H3 (nx1+1) [AV.oiter 1 ((bV M).map (AV.int .i64)).length (seen++[i])]) nx3 [AV.esl,AV.esl]) nx3 (bK [AV.esl,AV.esl] 0 [aE l.1,aE l.2]) nx1=some [aE y.1,aE y.2]:=by rw[ac (by omega),ac (by omega),ac (by omega)];exact qy
   have wl:ap (ap (ap H3 (nx1+1) [AV.oiter 1 ((bV M).map (AV.int .i64)).length (seen++[i])]) nx3 [AV.esl,AV.esl]) nx3 (bK [AV.esl,AV.esl] 0 [aE l.1,aE l.2]) nx3=some [aE l.1,aE l.2]:=by rw[af];rfl
   have wi:ap (ap (ap H3 (nx1+1) [AV.oiter 1 ((bV M).map (AV.int .i64)).length (seen++[i])]) nx3 [AV.esl,AV.esl]) nx3 (bK [AV.esl,AV.esl] 0 [aE l.1,aE l.2]) (nx1+1)=some [.oiter 1 ((bV M).map (AV.int .i64)).length (seen++[i])]:=by rw[ac (by omega),ac (by omega),af]
   have wd:Row (ap (ap (ap H3 (nx1+1) [AV.oiter 1 ((bV M).map (AV.int .i64)).length (seen++[i])]) nx3 [AV.esl,AV.esl]) nx3 (bK [AV.esl,AV.esl] 0 [aE l.1,aE l.2])) 1 dv (D.map aE):=qd.same fun b hb=>by
    have:=h7 b hb;rw[ac (by omega),ac (by omega),ac (by omega)]
   generalize ap (ap (ap H3 (nx1+1) [AV.oiter 1 ((bV M).map (AV.int .i64)).length (seen++[i])]) nx3 [AV.esl,AV.esl]) nx3 (bK [AV.esl,AV.esl] 0 [aE l.1,aE l.2])=H4 at *;clear q0 q2 q1 qy qd;by_cases hin:ld y.1∈l.1
   ·rw[a8 hin] at hhas;have hs1:=vP l.1 y.1 (by omega) (by omega);have hs2:=vP l.2 y.2 (by omega) (by omega);have hcl:eF (jp y l)=.agg [aE (bX l.1 y.1),aE (bX l.2 y.2)]:=by unfold jp;rw[if_pos hin];rfl
    rw[hcl] at hset;clear hcl;generalize bX l.1 y.1=s1 at *;generalize bX l.2 y.2=s2 at *;refine wkY (zI3 @wy @wl @ix0) ?_;refine A4 2 nx3 nx1 w2 wl wy (by omega) (by omega) (by omega) fun S hS1 hS2 hS3 hsub=>?_;refine wnY (zI3 @hS1 @hS2 @hS3) ?_;simp only[dT,List.map_nil,List.getD_cons_succ,List.getD_cons_zero];refine eb ?_;refine wnY and_self ?_;refine⟨hsub _ w2 wl wy,?_⟩;refine eb ?_;refine wnY and_self ?_;refine⟨hsub _ w2 wl wy,?_⟩;refine wnY and_self ?_;have hmf:=iu (ld l.1) (bV M);rw[if_pos hkm,hidx] at hmf;refine pJ ev0 w1 ev0 ev0 rfl hmf ?_;refine wnY and_self ?_;refine⟨seen++[i],by rw[du,List.length_singleton];omega,⟨(ac (by omega)).trans wi,by omega,r3',r4',(ac (by omega)).trans w0,(ac (by omega)).trans w2,(ac (by omega)).trans wy,?_,wd.same fun b hb=>by have:=h7 b hb;rw[ac (by omega)]⟩,ag0⟩;rw[af,←hset];rfl
   ·rw[bc hin] at hhas;refine wkY (zI3 @wy @wl @ix0) ?_;exact⟨seen++[i],by rw[du,List.length_singleton];omega,⟨wi,by omega,r3',r4',w0,w2,wy,by rw[hsame hin];exact w1,wd⟩,ag0⟩
  ·have hall:∀i,i<M.length→i∈seen:=fun i hi=>hall i (by rw[bz,hkl];exact hi) (by rw[bz,hkl];exact hi);rw[G0 hall,←za hM hay h0 hno] at q1
   have hkk:ld y.1∉bV (M.map (jp y)):=by
    rw[za hM hay h0 hno,mQ];rintro⟨l,hl,e⟩;exact hno l hl (by rw[e];exact dj h0)
   refine wnY (zI3 @q2 @qy @ix0) ?_;refine pP 2 nx1 q2 qy (by omega) fun S hS1 hS2 hsub=>?_;have zz:=aI @hS1 (aI @hS2 @ix0);repeat' (first|apply a_n|refine zO ?_|refine nvY ?_|apply jM|fail)
   simp only[dT,List.map_nil,List.getD_cons_succ,List.getD_cons_zero]
   skip
   have hmf:=iu (ld y.1) (bV (M.map (jp y)));rw[if_neg hkk] at hmf;refine pJ ev0 q1 ev0 ev0 rfl hmf ?_;refine wnY and_self ?_;refine⟨(dv,k+1),by dsimp only;omega,⟨by dsimp only;omega,by omega,(ac (by omega)).trans q0,(ac (by omega)).trans q2,?_,?_,fun b hb=>by have:=h7 b hb;omega⟩,ag0⟩
   ·dsimp only;rw[hss];unfold LM;rw[af];unfold lr bV;simp[cH,ga,eF]
   ·dsimp only;rw[hss];exact qd.same fun b hb=>by have:=h7 b hb;rw[ac (by omega)]
 rintro T H nx ⟨t1,t4,h2,h3,h4,h5,dv,t6,h6,h7⟩;have hst:=gf hR (aO R.length);have hbl:=AF hR hv (aO R.length);have hsl:=xz hR (aO R.length);unfold lL;generalize stE R R.length=MD at *;obtain⟨M,D⟩:=MD;dsimp only at *;have hM:=hst.red;refine wnY (zI5 @t1 @t4 @t6 @h3 @h4) ?_;refine b0 (X:=AV×Nat) (fun x=>[(4,.ptr 2 1 0),(6,dv),(12,x.1),(77,.int .i64 c),(78,.int .i64 x.2)]) (fun x H' nx'=>x.2≤c∧nx≤nx'∧H' 2=some [.mp 1]∧LM H' 1 M∧Row H' 1 dv (D.map aE)∧Row H' 2 x.1 (cLs (lM M x.2))∧∀b,bZ x.1=some b→nx≤b∧b<nx') (fun x=>c-x.2) (.esl,0) ⟨bR _,aO _,h4,h5,h6,Row.nil,fun b h=>(by cases h)⟩ (have zz:=aI @t4 @t6;agZ) ?_;clear h3 h4 h5 h6;rintro⟨ov,k⟩ H' nx' ⟨g1,g2,g3,g4,g5,g6,g7⟩;dsimp only at g1 g2 g3 g4 g5 g6 g7 ⊢;by_cases hk:k<c
 rotate_left
 ·obtain rfl:k=c:=by omega
  refine wnY and_self ?_;exact bM (ag (G5 g6) (ag (py g5) ak))
 have hos:=p8 (M:=M) (c:=k);have hol:=z8 (M:=M) (c:=k);have hmf:=iu (k:Int) (bV M);refine wnY @g3 ?_;by_cases hm:(k:Int)∈bV M
 rotate_left
 ·rw[if_neg hm] at hmf;refine ja ev0 g4 ev0 rfl hmf ?_;have hmg:Go.Abs.mget (.agg [.esl,.esl]) true none (M.map eF)=.tup [.agg [.esl,.esl],.bool false]:=rfl;rw[hmg];refine wnY and_self ?_;rw[AK hm] at hos;have hos:lM M (k+1)=lM M k:=by rw[hos];simp
  refine⟨(ov,k+1),by dsimp only;omega,⟨by dsimp only;omega,by omega,by rw[ac (by omega),ac (by omega)];exact g3,?_,g5.same fun b hb=>by have:=h7 b hb;rw[ac (by omega),ac (by omega)],?_,fun b hb=>by have:=g7 b hb;omega⟩,ag0⟩
  ·unfold LM;rw[ac (by omega),ac (by omega)];exact g4
  ·dsimp only;rw[hos];exact g6.same fun b hb=>by have:=g7 b hb;rw[ac (by omega),ac (by omega)]
 obtain⟨l,hl,hld,hgd⟩:=vF hm;rw[if_pos hm] at hmf;refine ja ev0 g4 ev0 rfl hmf ?_
 have hmg:Go.Abs.mget (.agg [.esl,.esl]) true (some ((bV M).idxOf (k:Int))) (M.map eF)=.tup [.agg [aE l.1,aE l.2],.bool true]:=by
  show AV.tup [(M.map eF).getD ((bV M).idxOf (k:Int)) .undef,.bool true]=_;rw[hgd];rfl
 rw[hmg];rw[Fo hM hl hld] at hos;have hos:lM M (k+1)=lM M k++[l]:=hos;refine wnY and_self ?_;refine nt rfl ev0 (g6.same fun b hb=>?_) ev0 qt rfl rfl (by omega) (by rw[Ci];omega) (by rw[Ci];omega) ?_
 ·have:=g7 b hb;rw[ac (by omega),ac (by omega),ac (by omega)]
 rintro s2 H2 nx2 hr2 i1 i2 i3 i4;have hdo:∀b,b<nx→bZ ov≠some b:=fun b hb e=>by have:=g7 b e;omega
 have lo2:∀b,b<nx→H2 b=H' b:=fun b hb=>(i3 b (by omega) (hdo b hb)).trans (by rw[ac (by omega),ac (by omega),ac (by omega)]);refine wnY and_self ?_;refine⟨(s2,k+1),by dsimp only;omega,⟨by dsimp only;omega,by omega,(lo2 2 (by omega)).trans g3,(lo2 1 (by omega)).trans g4,g5.same fun b hb=>by have:=h7 b hb;rw[lo2 b (by omega)],?_,fun b hb=>?_⟩,ag0⟩
 ·dsimp only;rw[hos,Fq];exact hr2
 ·rcases i4 b hb with h|h
  ·have:=g7 b h;omega
  ·omega
end Go.Proofs.YtekdaafnjdlenaaGreat
namespace Go.Proofs.YtekdaafnjdlenaaGreat
open Go Go.Abs
theorem C0{r:List Int}(h:∀i,i+1<r.length→r.getD i default<r.getD (i+1) default):bd r:=by
 have hchain:∀b a,a<b→b<r.length→r.getD a default<r.getD b default:=fun b=>by
  induction b with
  |zero=>intro a ha;omega
  |succ b ih=>
   intro a ha hb;have q:=h b hb;rcases(by omega:a<b∨a=b) with h|rfl
   ·have:=ih a h (by omega);omega
   ·exact q
 refine jT.2 fun i j hi hj hij=>?_;have:=hchain j i hij hj;simpa[List.getD,hi,hj] using this
theorem fJ{c:Int}{R:List (List Int)}(h:ia c R):∀r∈R,bd r:=fun r hr=>C0 (h.2.2.2 r hr).2.2
theorem K2{l:List Ln}{k:Nat}(h:k<l.length):ey 2 (lY l) (.int .i64 (k:Int))=some (.iptr [aE (l.getD k default).1,aE (l.getD k default).2] 0):=by
 unfold lY;rw[mG,if_pos ⟨by omega,by omega⟩,cw];rfl
theorem tZ{l:List Ln}:dz (lY l)=some (.int .i64 l.length):=kO
theorem kr{R:List (List Int)}{c:Nat}:(lL R c).length≤c:=z8
theorem r_4{T:Tm}{H:Hp}{K:AV→Prop}{a b c d:RV}{x y z u:AV}(ha:rv T H a=some x)(hb:rv T H b=some y)(hc:rv T H c=some z)(hd:rv T H d=some u)(h:K (.tup [x,y,z,u])):bl T H K [a,b,c,d]:=by
 show xx T H [a,b,c,d] fun xs=>K (.tup xs);simp only[xx,ha,hb,hc,hd];exact h
attribute [local irreducible] aH ai be aY aP aQ aD aR aZ bl Go.Abs.Fn aX Go.Abs.Pure aq aK Yl
theorem n4(c:Nat)(R:List (List Int))(hm:ia c R):pU 134 [dV c R] (.tup [dV c (en R c),.int .i64 0]):=by
 refine pO LX ?_;simp only[KT,aJ];have h1:=lh c R hm;have z0:decide ((0:Int)≠0)=false:=rfl;have hd:Dat (.agg [.int .i64 c,bF R]):=dl c R;have hec:=vM c R (by have:=hm.2.1;omega) hm.2.2.1 (fJ hm) (fun r hr z hz=>(hm.2.2.2 r hr).1 z hz);have hll:=kr (R:=R) (c:=c);have hmc:=hm.2.1;rw[dp] at hec ⊢;unfold en;generalize lL R c=L at *;refine wnY (aI @z0 @tZ) ?_;refine lpI (X:=AV×Nat) (fun x=>[(2,.ptr 1 2 0),(5,.ptr 2 2 0),(24,lY L),(25,.int .i64 L.length),(26,.int .i64 x.2)]) (fun x H nx=>x.2≤L.length∧3≤nx∧H 1=some [.int .i64 0,.esl]∧H 2=some [.int .i64 c,x.1]∧Row H 1 x.1 (((L.take x.2).map Prod.fst).map aE)∧∀b,bZ x.1=some b→2<b∧b<nx) (fun x=>L.length-x.2) (.esl,0) ⟨bR _,aO _,rfl,rfl,Row.nil,fun b h=>(by cases h)⟩ ?_;rintro⟨sv,k⟩ H nx ⟨g1,g2,g3,g4,g5,g6⟩;dsimp only at g1 g2 g3 g4 g5 g6 ⊢;by_cases hk:k<L.length
 rotate_left
 ·rw[gz (by omega)] at g5;obtain⟨o1,o2⟩:=g5.one;refine wnY (zI4 @g3 @g4 @o1 @o2) ?_;refine jF (py (g5.same fun b hb=>?_)) rfl;have:=g6 b hb;rw[ac (by omega)]
 have ix:=K2 hk;have hts:=cr hk;have hlt:(L.take k).length≤k:=by rw[iz];omega
 generalize L.getD k default=l at *;refine wnY (aI @ix @g4) ?_;refine nt rfl ev0 (g5.same fun b hb=>?_) ev0 i9 rfl rfl nM (by rw[bz,bz];omega) (by rw[bz,bz];omega) ?_
 ·have:=g6 b hb;rw[ac (by omega),ac (by omega),ac (by omega)]
 rintro s2 H2 nx2 hr2 i1 i2 i3 i4;have hdo:∀b,b≤2→bZ sv≠some b:=fun b hb e=>by have:=g6 b e;omega
 have lo2:∀b,b≤2→H2 b=H b:=fun b hb=>(i3 b (by omega) (hdo b hb)).trans (by rw[ac (by omega),ac (by omega),ac (by omega)])
 have hn2:∀b,bZ s2=some b→2<b∧b<nx2:=fun b hb=>by
  rcases i4 b hb with h|h
  ·have:=g6 b h;omega
  ·omega
 have k4:=(lo2 2 (by omega)).trans g4;obtain⟨o1,o2⟩:=hr2.one;refine wnY (zI3 @k4 @o1 @o2) ?_;refine⟨(s2,k+1),by dsimp only;omega,⟨by dsimp only;omega,by omega,by rw[ac (by omega)];exact(lo2 1 (by omega)).trans g3,by rw[af];rfl,?_,hn2⟩,ag0⟩;dsimp only;rw[hts,dw,dw];exact hr2.same fun b hb=>by have:=hn2 b hb;rw[ac (by omega)]
theorem A0(c:Nat)(R:List (List Int))(hm:ia c R):pU 97 [dV c R] (.tup [.int .i64 (en R c).length,.int .i64 0]):=by
 refine pO MQ ?_;simp only[b97,aJ];have he:=n4 c R hm;have hd:Dat (.agg [.int .i64 c,bF R]):=dl c R;rw[dp,dp] at he;rw[dp];generalize en R c=E at *;refine wnY @eG ?_;exact bM (ag (.int _ _) (ag (.int _ _) ak))
def Hu(D:List (List Int))(b:List Int):Option (List Int):=D.find? fun y=>ir y b
def lS(L:List Ln)(b:List Int):List Int:=(L.filter fun l=>ir l.2 b).map fun l=>ld l.1
def qF(R:List (List Int))(c:Nat)(b:List Int):List Int×List Int×Bool:=match Hu (stE R R.length).2 b with
 |some y=>([],y,false)
 |none=>(lS (lL R c) b,[],true)
theorem Dk{L:List Ln}{x:Ln}{b:List Int}:lS (L++[x]) b=lS L b++if ir x.2 b=true then [ld x.1] else []:=by
 unfold lS;rw[ws,dw]
 congr 1
 by_cases h:ir x.2 b=true
 ·rw[if_pos h,zN (by simpa using h)];rfl
 ·rw[if_neg h,zw (by simpa using h)];rfl
theorem CW{D:List (List Int)}{p:List Int→Bool}{k:Nat}(h:∀i,i<k→p (D.getD i default)=false)(hk:k<D.length)(hp:p (D.getD k default)=true):D.find? p=some (D.getD k default):=by
 induction D generalizing k with
 |nil=>simp at hk
 |cons y D ih=>
  match k with
  | 0 => have hp : p y = true := hp
         show List.find? p (y::D)=some y;rw[List.find?_cons_of_pos hp]
  |k+1=>
   have h0:¬p y=true:=by have:=h 0 (by omega);rw[show(y::D).getD 0 default=y from rfl] at this;rw[this];decide
   rw[List.find?_cons_of_neg h0];exact ih (k:=k) (fun i hi=>h (i+1) (by omega)) (by simpa using hk) hp
theorem GF(c:Nat)(R:List (List Int))(b:List Int)(hm:ia c R)(hbr:∀v∈b,0≤v∧v<(R.length:Int))(hba:bd b):pU 59 [dV c R,aE b] (.tup [aE (qF R c b).1,aE (qF R c b).2.1,.bool (qF R c b).2.2,.int .i64 0]):=by
 refine pO Nn ?_;simp only[b59,aJ];have hmR:=fJ hm;have hmv:∀r∈R,∀z∈r,0≤z∧z<(c:Int):=fun r hr z hz=>(hm.2.2.2 r hr).1 z hz;have hbl:=eZ hba hbr;have h1:=lh c R hm
 have h2:=pH b (R.length:Int) (by have:=hm.2.2.1; omega) hbr (fun i hi=>by
  have:=jT.1 hba i (i+1) (by omega) hi (by omega);simpa[List.getD,show i<b.length by omega,hi] using this)
 have z0:decide ((0:Int)≠0)=false:=rfl;have hd:Dat (.agg [.int .i64 c,bF R]):=dl c R;have hec:=vM c R (by have:=hm.2.1;omega) hm.2.2.1 hmR hmv;have hll:=kr (R:=R) (c:=c);have hmc:=hm.2.1;have hrl:=hm.2.2.1;have hsl:=xz hmR (aO R.length);have hok:=gf hmR (aO R.length)
 have hel:∀l∈lL R c,l.1≠[]∧l.2.length≤4096:=fun l hl=>by
  have hl':=((kU hmR hmv).2.2 l).1 hl;refine⟨hok.red.ne l hl',?_⟩;have:=((AF hmR hmv (aO R.length)) l hl').len (hok.red.asc l hl');omega
 have hdl:∀y∈(stE R R.length).2,y.length≤4096:=fun y hy=>by
  have h3:=hok.dep y hy;have h4:y.length≤R.length:=eZ h3.1.2 h3.2.2;omega
 rw[dp] at hec ⊢;unfold qF;generalize lL R c=L at *;generalize (stE R R.length).2=D at *;refine dH ?_
 repeat' (first|apply a_n|refine zO ?_|refine vY ?_|refine bxY ?_|fail)
 refine dH ?_;refine wnY (zI3 @z0 @tZ @eG) ?_;refine lpI (X:=Nat) (fun k=>[(1,aE b),(10,lY L),(35,bF D),(36,.int .i64 D.length),(37,.int .i64 k)]) (fun k H nx=>k≤D.length∧∀i,i<k→ir (D.getD i default) b=false) (fun k=>D.length-k) 0 ⟨bR _,fun i h=>absurd h (by omega)⟩ ?_;rintro k H nx ⟨g1,g2⟩;by_cases hk:k<D.length
 ·have ix:=DL hk;have hyl:=hdl _ (ay hk);have hod:=Ew (D.getD k default) b (by omega) (by omega);by_cases ho:ir (D.getD k default) b=true
  ·have hsy:Hu D b=some (D.getD k default):=CW (p:=fun y=>ir y b) g2 hk ho;rw[hsy];rw[ho] at hod;generalize D.getD k default=y at *;refine wnY @ix ?_;refine r_4 rfl rfl rfl rfl ?_;exact bM (ag (.eslsl 1) (ag (cP y).snap (ag (.bool _) (ag (.int _ _) ak))))
  ·have ho:ir (D.getD k default) b=false:=by simpa using ho
   have hg2:∀i,i<k+1→ir (D.getD i default) b=false:=fun i hi=>by
    rcases(by omega:i<k∨i=k) with h|rfl
    ·exact g2 i h
    ·exact ho
   rw[ho] at hod;generalize D.getD k default=y at *;refine wnY @ix ?_;exact⟨k+1,by omega,⟨by omega,hg2⟩,ag0⟩
 have hsy:Hu D b=none:=by
  refine List.find?_eq_none.2 fun y hy=>?_;obtain⟨i,hi,e⟩:=jV hy;have:=g2 i (by omega);rw[show D.getD i default=y by simp[List.getD,hi,e]] at this;rw[this];decide
 rw[hsy];clear hsy g2;refine wnY @tZ ?_;refine lpI (X:=AV×Nat) (fun x=>[(1,aE b),(14,x.1),(46,lY L),(47,.int .i64 L.length),(48,.int .i64 x.2)]) (fun x H nx=>x.2≤L.length∧Row H 1 x.1 ((lS (L.take x.2) b).map (AV.int .i64))∧∀b,bZ x.1=some b→b<nx) (fun x=>L.length-x.2) (.esl,0) ⟨bR _,Row.nil,fun b h=>(by cases h)⟩ ?_;rintro⟨sv,k⟩ H nx ⟨g1,g2,g3⟩;dsimp only at g1 g2 g3 ⊢;by_cases hk:k<L.length
 rotate_left
 ·rw[gz (by omega)] at g2;refine wnY and_self ?_;refine r_4 rfl rfl rfl rfl ?_;exact bM (ag g2.snapI (ag (.eslsl 1) (ag (.bool _) (ag (.int _ _) ak))))
 have ix:=K2 hk;have hts:=cr hk;obtain⟨hn,hl2⟩:=hel _ (ay hk)
 have hxl:(lS (L.take k) b).length≤k:=by
  unfold lS;rw[bz];refine fB (List.length_filter_le _ _) ?_;rw[iz];omega
 have hsx:=Dk (L:=L.take k) (x:=L.getD k default) (b:=b);rw[←hts] at hsx;generalize L.getD k default=l at *;have hod:=Ew l.2 b (by omega) (by omega);have ix0:=G2 hn;by_cases ho:ir l.2 b=true
 ·rw[ho] at hod;rw[if_pos ho] at hsx;refine wnY (aI @ix @ix0) ?_;refine eR (g2.same fun b hb=>?_) ?_
  ·have:=g3 b hb;rw[ac (by omega),ac (by omega),ac (by omega)]
  rintro s2 H2 nx2 hr2 i1 i2 i3 i4;refine wnY and_self ?_;refine⟨(s2,k+1),by dsimp only;omega,⟨by dsimp only;omega,?_,fun b hb=>?_⟩,ag0⟩
  ·dsimp only;rw[hsx,dw];exact hr2
  ·rcases i4 b hb with h|h
   ·have:=g3 b h;omega
   ·omega
 ·have ho:ir l.2 b=false:=by simpa using ho
  rw[ho] at hod;rw[ho,if_neg (by decide),io] at hsx;refine wnY (aI @ix @ix0) ?_;refine⟨(sv,k+1),by dsimp only;omega,⟨by dsimp only;omega,?_,fun b hb=>by have:=g3 b hb;omega⟩,ag0⟩;dsimp only;rw[hsx];exact g2.same fun b hb=>by have:=g3 b hb;rw[ac (by omega),ac (by omega)]
end Go.Proofs.YtekdaafnjdlenaaGreat
namespace Go.Proofs.YtekdaafnjdlenaaGreat
open Go Go.Abs
open Nat (reduceEqDiff reduceAdd reduceLeDiff)
theorem lf{c:List Spx}(h:aB c=0):∀s∈c,Shn s:=fun s hs=>show _≤_ by
 have:=(cu ((d9 h).2.1 s hs)).2.1;omega
def sL(c:List Spx):Nat→Int
 |0=>0
 |k+1=>if (k+1)%2=1 then sL c k+((jr c (k+1)).length:Int) else sL c k-((jr c (k+1)).length:Int)
theorem BF{c:List Spx}(h:∀k,(jr c k).length≤3500):∀k:Nat,-(3500*(k:Int))≤sL c k∧sL c k≤3500*(k:Int)
 |0=>⟨by show -(3500*((0:Nat):Int))≤(0:Int);omega,by show(0:Int)≤3500*((0:Nat):Int);omega⟩
 |k+1=>by
  have:=BF h k;have h2:=h (k+1);unfold sL;split<;>omega
def oe(c:List Spx):Nat→Int×Int
 |0=>(8,0)
 |k+1=>(min (oe c k).1 ((c.getD k default).length:Int),max (oe c k).2 ((c.getD k default).length:Int))
theorem BX{c:List Spx}{m:Int}(h0:0≤m)(h:∀s∈c,(s.length:Int)≤m):∀{k:Nat},k≤c.length→0≤(oe c k).2∧(oe c k).2≤m
 |0,_=>⟨Int.le_refl _,h0⟩
 |k+1,hk=>by
  have:=BX h0 h (k:=k) (by omega);have h2:=h _ (ay (l:=c) (i:=k) (by omega));unfold oe;dsimp only;omega
def tt(c:List Spx):Int:=(oe c c.length).2
def Fb(c:List Spx):Bool:=decide ((oe c c.length).2=0) || decide ((oe c c.length).1=(oe c c.length).2)
theorem Ja{c:List Spx}(hc:aB c=0){k:Nat}(hk:8<k):jr c k=[]:=by
 refine wZ.2 fun s hs=>?_;obtain⟨t,ht,h⟩:=xZ.1 hs;obtain⟨h1,h2⟩:=eH.1 h;have:=(cu ((d9 hc).2.1 t ht)).2.1;have:=h1.length_le;omega
theorem cI{c:List Spx}(hc:aB c=0)(hl:c.length≤50){d:Int}:(ao c d).length≤3500:=by
 unfold ao;split
 ·simp
 ·exact oq hl fun s hs=>(cu ((d9 hc).2.1 s hs)).2.1
theorem xI{c:List Spx}(hc:aB c=0){d:Int}(h:8<d):ao c d=[]:=by
 unfold ao;rw[if_neg (by omega)];exact Ja hc (by omega)
theorem yT{Y:List Spx}:cK [] Y=List.replicate Y.length []:=by
 refine List.ext_getElem (by simp[cK]) fun i h1 h2=>?_;simp[cK,bD,ju]
theorem Dg{H:Hp}{b n:Nat}(h:H b=some (List.replicate n .esl)):Snap H (.msl b n 1 0 n) (bF (List.replicate n [])):=by
 refine Ea h (by simp) ⟨by simp,fun i x y hx hy=>?_⟩;obtain⟨h1,rfl⟩:=bS.1 hx;obtain⟨h2,rfl⟩:=bS.1 hy;simp only[List.getElem_map,List.getElem_replicate];exact .eslsl 1
attribute [local irreducible] aH ai be aY aP aQ aD aR aZ bl Go.Abs.Fn aX Go.Abs.Pure aq aK Yl
theorem Cf(c:List Spx)(hc:aB c=0)(hl:c.length≤50):pU 37 [b9 c] (.tup [.int .i64 (sL c 8),.int .i64 0]):=by
 refine pO Kw ?_;simp only[b37,aJ];have hcc:=jk c (show _≤_ by omega) (lf hc);rw[hc] at hcc;have z0:decide ((0:Int)≠0)=false:=rfl;have hbd:=fun k:Nat=>BF (c:=c) (fun k=>oq (k:=k) hl fun s hs=>(cu ((d9 hc).2.1 s hs)).2.1) k;have hll:=fun k=>oq (k:=k) hl fun s hs=>(cu ((d9 hc).2.1 s hs)).2.1;have hf:=fun k(hk:1≤k∧k≤8)=>zY c k hl (d9 hc).2.1 hk;refine wnY (zI3 @z0 @aj @ae) ?_;refine lpI (X:=Nat) (fun k=>[(1,.ptr 0 1 0),(5,.int .i64 (sL c k)),(6,.int .i64 (k+1:Nat))]) (fun k H nx=>k≤8∧H 0=some [an c]) (fun k=>8-k) 0 ⟨bR _,rfl⟩ ?_;rintro k H nx ⟨g1,g2⟩;by_cases hk:k<8
 rotate_left
 ·obtain rfl:k=8:=by omega
  refine wnY and_self ?_;exact bM (ag (.int _ _) (ag (.int _ _) ak))
 have hf1:=hf (k+1) ⟨by omega,by omega⟩;have hl1:=hll (k+1);have hb1:=hbd k;have hb2:=hbd (k+1);have hes:sL c (k+1)=if (k+1)%2=1 then sL c k+((jr c (k+1)).length:Int) else sL c k-((jr c (k+1)).length:Int):=rfl
 have hr:∀tb tf,br .rem tb tf (.int .i64 ((k+1:Nat):Int)) (.int .i64 2)=some (.int .i64 (((k+1)%2:Nat):Int)):=fun tb tf=>by
  rw[Bt (by omega) (by omega)]
  congr 2
 generalize jr c (k+1)=L at *;generalize sL c k=E0 at *;by_cases hodd:(k+1)%2=1
 ·rw[if_pos hodd] at hes;rw[hes] at hb2;have zr:decide ((((k+1)%2:Nat):Int)=1)=true:=a8 (by omega);refine wnY (zI5 @g2 @z0 @hr @zr @ah) ?_;exact⟨k+1,by omega,⟨by omega,g2⟩,by rw[hes,show((k+1+1:Nat):Int)=((k+1:Nat):Int)+1 by omega];simp (disch:=omega) only[agr,ZG,reduceEqDiff,↓reduceIte]⟩
 ·rw[if_neg hodd] at hes;rw[hes] at hb2;have zr:decide ((((k+1)%2:Nat):Int)=1)=false:=bc (by omega);refine wnY (zI5 @g2 @z0 @hr @zr @ah) ?_;exact⟨k+1,by omega,⟨by omega,g2⟩,by rw[hes,show((k+1+1:Nat):Int)=((k+1:Nat):Int)+1 by omega];simp (disch:=omega) only[agr,ZG,reduceEqDiff,↓reduceIte]⟩
theorem yn(c:List Spx)(hc:Shn c)(hs:∀s∈c,Shn s):pU 94 [b9 c] (.tup [.int .i64 (tt c-1),.bool (Fb c)]):=by
 refine pO ME ?_;simp only[b94,aJ];unfold tt Fb;have hc':c.length≤17592186044416:=hc;refine wnY (zI3 @aj @ae @ah) ?_;refine lpI (X:=Nat) (fun k=>[(4,.int .i64 (oe c k).1),(5,.int .i64 (oe c k).2),(9,an c),(10,.int .i64 c.length),(11,.int .i64 k)]) (fun k H nx=>k≤c.length) (fun k=>c.length-k) 0 (bR _) ?_;rintro k H nx h1;have hb:=BX (m:=17592186044416) (by omega) (fun s h=>by have:s.length≤_:=hs s h;omega) h1;by_cases hk:k<c.length
 rotate_left
 ·obtain rfl:k=c.length:=by omega
  generalize oe c c.length=P at *;obtain⟨a,m⟩:=P;dsimp only at hb ⊢;by_cases h0:m=0
  ·have z:decide (m=0)=true:=a8 h0;rw[z,Bool.true_or];refine wnY @z ?_;exact bM (ag (.int _ _) (ag (.bool _) ak))
  ·have z:decide (m=0)=false:=bc h0;rw[z,Bool.false_or];refine wnY @z ?_;exact bM (ag (.int _ _) (ag (.bool _) ak))
 have ix:=fj hk;have hsl:(c.getD k default).length≤17592186044416:=hs _ (ay hk);have e:oe c (k+1)=(min (oe c k).1 ((c.getD k default).length:Int),max (oe c k).2 ((c.getD k default).length:Int)):=rfl;generalize c.getD k default=s at *;refine wnY (aI @ix @au) ?_;exact⟨k+1,by omega,by omega,by rw[e];simp (disch:=omega) only[agr,ZG,reduceEqDiff,↓reduceIte]⟩
theorem o5(c:List Spx)(hc:aB c=0)(hl:c.length≤50):pU 96 [b9 c] (.tup [.int .i64 (tt c-1),.bool (Fb c),.int .i64 0]):=by
 refine pO M4 ?_;simp only[b96,aJ];have hcc:=jk c (show _≤_ by omega) (lf hc);rw[hc] at hcc;have hd:=yn c (show _≤_ by omega) (lf hc);have z0:decide ((0:Int)≠0)=false:=rfl;refine wnY (zI3 @z0 @aj @ae) ?_;refine bM (ag (.int _ _) (ag (.bool _) (ag (.int _ _) ak)))
theorem rS(c:List Spx)(d:Nat)(hc:aB c=0)(hl:c.length≤50)(hd:d≤8):pU 98 [b9 c,.int .i64 d] (.tup [.int .i64 (ao c ((d:Int)+1)).length,.int .i64 0]):=by
 refine pO Nk ?_;simp only[b98,aJ];by_cases h8:d=8
 ·rw[xI hc (by omega)];subst h8;refine wnY (aI @aj @ae) ?_;exact bM (ag (.int _ _) (ag (.int _ _) ak))
 have hs:=kM c ((d:Int)+1) hl (lf hc)
 have e:fh c ((d:Int)+1)=(ao c ((d:Int)+1),0):=by
  unfold fh ao;rw[if_neg (fun q=>q hc),if_neg (by omega),if_neg (by omega)]
 rw[e] at hs;dsimp only at hs;have hll:=cI hc hl (d:=(d:Int)+1);generalize ao c ((d:Int)+1)=X at *;have z1:decide ((d:Int)<0)=false:=bc (by omega);have z2:decide ((8:Int)≤d)=false:=bc (by omega);refine wnY (zI5 @aj @ae @ah @z1 @z2) ?_;exact bM (ag (.int _ _) (ag (.int _ _) ak))
theorem mM(c:List Spx)(d:Nat)(hc:aB c=0)(hl:c.length≤50)(hd:d≤8):pU 58 [b9 c,.int .i64 d] (.tup [dV (ao c ((d:Int)+1)).length (cK (ao c ((d:Int)+1)) (ao c d)),.int .i64 0]):=by
 refine pO MF ?_;simp only[b58,aJ];by_cases h8:d=8
 ·rw[xI hc (by omega),yT];subst h8;have hs:pU 98 [b9 c,.int .i64 (((8:Nat):Int)-1)] (.tup [.int .i64 (ao c ((8:Nat):Int)).length,.int .i64 0]):=rS c 7 hc hl (by omega);have hll:=cI hc hl (d:=((8:Nat):Int));generalize (ao c ((8:Nat):Int)).length=n at *;have hzc:bo (AV.agg [AV.esl]) n=List.replicate n .esl:=by simp[bo,AV.cells]
  refine wnY (aI @aj @ae) ?_;refine xL (k1:=.i64) (k2:=.i64) (n:=n) (m:=n) rfl ev0 ev0 (by omega) (Int.le_refl _) (by omega) (by omega) ?_;rw[cw,hzc,Nat.mul_one];refine wnY and_self ?_;exact jF (Dg (by rw[ac (by omega),af])) rfl
 have hm:=Jx c d hl (lf hc)
 have e:oJ c d=(((((ao c ((d:Int)+1)).length:Nat):Int),cK (ao c ((d:Int)+1)) (ao c d)),0):=by
  unfold oJ;rw[if_neg (fun q=>q hc),if_neg (by omega)]
 rw[e] at hm;dsimp only at hm;generalize cK (ao c ((d:Int)+1)) (ao c d)=R at *;generalize (ao c ((d:Int)+1)).length=n at *;rw[dp] at hm ⊢;have z2:decide ((d:Int)<8)=true:=a8 (by omega);refine wnY (zI3 @aj @ae @z2) ?_;exact jF (mH _).snap rfl
end Go.Proofs.YtekdaafnjdlenaaGreat
namespace Go.Proofs.YtekdaafnjdlenaaGreat
open Go Go.Abs
def rkF(c:List Spx)(d:Nat):Nat:=(en (cK (ao c ((d:Int)+1)) (ao c d)) (ao c ((d:Int)+1)).length).length
def btF(c:List Spx)(d:Nat):Int:=((ao c ((d:Int)+1)).length:Int)-(rkF c d:Int)-(rkF c (d+1):Int)
def btL(c:List Spx)(m:Nat):List Int:=(List.range m).map (btF c)
theorem xq{c:List Spx}{d:Nat}:rkF c d≤(ao c ((d:Int)+1)).length:=by
 unfold rkF en;rw[bz];exact kr
def rkK(n:Nat):List Int:=bD (List.range n)
theorem kF{n d:Nat}:(d:Int)∈rkK n↔d<n:=by
 unfold rkK;rw[jn];exact⟨fun⟨i,h1,h2⟩=>by have:=eo.1 h1;omega,fun h=>⟨d,eo.2 h,rfl⟩⟩
theorem rP{n d:Nat}(h:d<n):(rkK n).idxOf (d:Int)=d:=by
 have hn:(rkK n).Nodup:=uH (fun{x y}(q:x<y) e=>by omega) (ew List.pairwise_lt_range);have h1:=np.2 (kF.2 h);have hl:d<(rkK n).length:=by unfold rkK bD;simpa using h
 have h2:(rkK n)[d]=(d:Int):=by
  have h4:(rkK n)[d]=(((List.range n)[d]'(by simpa using h):Nat):Int):=List.getElem_map ..;rw[h4,List.getElem_range]
 have h3:(rkK n)[(rkK n).idxOf (d:Int)]=(rkK n)[d]:=by rw[List.getElem_idxOf h1,h2]
 exact(List.getElem_inj hn).1 h3
theorem xP{n:Nat}:rkK (n+1)=rkK n++[(n:Int)]:=by unfold rkK bD;rw[List.range_succ,dw];rfl
def rkV(c:List Spx)(n:Nat):List AV:=(List.range n).map fun d=>.int .i64 (rkF c d)
theorem zB{c:List Spx}{n:Nat}:rkV c (n+1)=rkV c n++[.int .i64 (rkF c n)]:=by unfold rkV;rw[List.range_succ,dw];rfl
theorem rI{c:List Spx}{n d:Nat}(h:d<n):(rkV c n).getD d .undef=.int .i64 (rkF c d):=by unfold rkV;simp[List.getD,h]
theorem zQ{c:List Spx}{n:Nat}:btL c (n+1)=btL c n++[btF c n]:=by unfold btL;rw[List.range_succ,dw];rfl
attribute [local irreducible] aH ai be aY aP aQ aD aR aZ bl Go.Abs.Fn aX Go.Abs.Pure aq aK Yl
theorem GC(c:List Spx)(m:Nat)(hc:aB c=0)(hl:c.length≤50)(hm:tt c=m)(hm8:m≤8):pU 44 [b9 c] (.tup [aE (btL c m),.int .i64 0]):=by
 refine pO Kf ?_;simp only[b44,aJ];have hdi:=o5 c hc hl;rw[hm] at hdi;have z0:decide ((0:Int)≠0)=false:=rfl;have hed:=fun d(h:d≤8)=>mM c d hc hl h;have hsz:=fun d(h:d≤8)=>rS c d hc hl h;have hrl:=fun d:Int=>cI hc hl (d:=d);have hrk:=fun d:Nat=>A0 (ao c ((d:Int)+1)).length (cK (ao c ((d:Int)+1)) (ao c d)) (kN (by have:=hrl ((d:Int)+1);omega) (by have:=hrl d;omega));have hrf:=fun d:Nat=>xq (c:=c) (d:=d);refine wnY (zI3 @z0 @aj @ae) ?_;refine vj ?_;refine wnY and_self ?_;refine lpI (X:=Nat) (fun k=>[(1,.ptr 0 1 0),(4,.int .i64 ((m:Int)-1)),(7,.mp 1),(26,.int .i64 ((m:Int)-1+2)),(27,.int .i64 k)]) (fun k H nx=>k≤m+1∧2≤nx∧H 0=some [an c]∧H 1=some [.omap ((rkK k).map (AV.int .i64)) (rkV c k)]) (fun k=>m+1-k) 0 ⟨bR _,aO _,rfl,rfl⟩ ?_;rintro k H nx ⟨g1,g2,g3,g4⟩;by_cases hk:k<m+1
 ·have hed1:=hed k (by omega);have hrk1:=hrk k;have hr1:=hrl ((k:Int)+1);have hd1:Dat (dV (ao c ((k:Int)+1)).length (cK (ao c ((k:Int)+1)) (ao c k))):=dl _ _;change pU 97 _ (.tup [.int .i64 (rkF c k),.int .i64 0]) at hrk1;rw[dp] at hed1 hrk1 hd1;generalize cK (ao c ((k:Int)+1)) (ao c k)=R at *;generalize (ao c ((k:Int)+1)).length=n at *;have z1:decide ((k:Int)<(m:Int)-1+2)=true:=a8 (by omega);refine wnY (zI5 @g3 @z0 @z1 @aj @ae) ?_;have hmf:=iu (k:Int) (rkK k);rw[if_neg (fun q=>by have:=kF.1 q;omega)] at hmf;refine pJ ev0 ((ac (by omega)).trans ((ac (by omega)).trans g4)) ev0 ev0 rfl hmf ?_;refine wnY @z0 ?_;refine⟨k+1,by omega,⟨by omega,by omega,by rw[ac (by omega),ac (by omega),ac (by omega)];exact g3,?_⟩,ag0⟩;rw[af,xP,zB,dw];rfl
 obtain rfl:k=m+1:=by omega
 have z1:decide (((m+1:Nat):Int)<(m:Int)-1+2)=false:=bc (by omega);refine wnY @z1 ?_;refine lpI (X:=AV×Nat) (fun x=>[(1,.ptr 0 1 0),(7,.mp 1),(11,x.1),(51,.int .i64 ((m:Int)-1+1)),(52,.int .i64 x.2)]) (fun x H nx=>x.2≤m∧2≤nx∧H 0=some [an c]∧H 1=some [.omap ((rkK (m+1)).map (AV.int .i64)) (rkV c (m+1))]∧Row H 1 x.1 ((btL c x.2).map (AV.int .i64))∧∀b,bZ x.1=some b→2≤b∧b<nx) (fun x=>m-x.2) (.esl,0) ⟨bR _,g2,g3,g4,Row.nil,fun b h=>(by cases h)⟩ ?_;clear g1 g2 g3 g4;rintro⟨sv,k⟩ H nx ⟨g1,g2,g3,g4,g5,g6⟩;dsimp only at g1 g2 g3 g4 g5 g6 ⊢;by_cases hk:k<m
 rotate_left
 ·obtain rfl:k=m:=by omega
  have z1:decide ((k:Int)<(k:Int)-1+1)=false:=bc (by omega);refine wnY @z1 ?_;exact jI g5.snapI rfl
 have hsz1:=hsz k (by omega);have hr1:=hrl ((k:Int)+1);have hr2:=hrl (((k+1:Nat):Int)+1);have hf1:=hrf k;have hf2:=hrf (k+1);have hmf1:=iu (k:Int) (rkK (m+1));rw[if_pos (kF.2 (by omega)),rP (by omega)] at hmf1;have hmf2:=iu ((k+1:Nat):Int) (rkK (m+1));rw[if_pos (kF.2 (by omega)),rP (by omega)] at hmf2;rw[show((k+1:Nat):Int)=(k:Int)+1 by omega] at hmf2;have hv1:Go.Abs.mget (.int .i64 0) false (some k) (rkV c (m+1))=.int .i64 (rkF c k):=rI (by omega);have hv2:Go.Abs.mget (.int .i64 0) false (some (k+1)) (rkV c (m+1))=.int .i64 (rkF c (k+1)):=rI (by omega);have hsn:=zQ (c:=c) (n:=k);have hbl:(btL c k).length=k:=by unfold btL;simp
 have hbf:btF c k=((ao c ((k:Int)+1)).length:Int)-(rkF c k:Int)-(rkF c (k+1):Int):=rfl;rw[hbf] at hsn;generalize rkF c k=f1 at *;generalize rkF c (k+1)=f2 at *;generalize (ao c ((k:Int)+1)).length=n at *;generalize (ao c (((k+1:Nat):Int)+1)).length=n2 at *;have z1:decide ((k:Int)<(m:Int)-1+1)=true:=a8 (by omega);refine wnY (zI5 @g3 @z0 @z1 @aj @ae) ?_;refine ja ev0 g4 ev0 rfl hmf1 ?_;rw[hv1];refine wnY and_self ?_;refine ja ev0 g4 ev0 rfl hmf2 ?_;rw[hv2];refine wnY and_self ?_;refine eR (g5.same fun b hb=>?_) ?_
 ·have:=g6 b hb;rw[ac (by omega)]
 rintro s2 H2 nx2 hr3 i1 i2 i3 i4;have hdo:∀b,b<2→bZ sv≠some b:=fun b hb e=>by have:=g6 b e;omega
 have lo2:∀b,b<2→H2 b=H b:=fun b hb=>(i3 b (by omega) (hdo b hb)).trans (by rw[ac (by omega)]);refine wnY and_self ?_;refine⟨(s2,k+1),by dsimp only;omega,⟨by dsimp only;omega,by omega,(lo2 0 (by omega)).trans g3,(lo2 1 (by omega)).trans g4,?_,fun b hb=>?_⟩,ag0⟩
 ·dsimp only;rw[hsn,dw];exact hr3
 ·rcases i4 b hb with h|h
  ·have:=g6 b h;omega
  ·omega
theorem um(c:List Spx)(m:Nat)(hc:aB c=0)(hl:c.length≤50)(hm:tt c=m)(hm8:m≤8):pU 13 [b9 c] (.tup [aE (btL c m),.int .i64 0]):=by
 have hch:pU 43 [b9 c] (.int .i64 0):=by
  refine pO Ix ?_;simp only[b43,aJ];have he:=Cf c hc hl;refine wnY (aI @aj @ae) ?_;exact .int _ _
 refine pO MM ?_;simp only[b13,aJ];have hb:=GC c m hc hl hm hm8;have z0:decide ((0:Int)≠0)=false:=rfl;refine wnY (zI3 @z0 @aj @ae) ?_;exact jI (cP _).snap rfl
end Go.Proofs.YtekdaafnjdlenaaGreat
namespace Go.Proofs.YtekdaafnjdlenaaGreat
open Go Go.Abs
theorem zJ{a:List Spx}(h:a≠[]):ey 1 (an a) (.int .i64 0)=some (.iptr [aC (a.getD 0 default)] 0):=by
 have:=fj (l:=a) (k:=0) (gK.2 h);exact this
attribute [local irreducible] aH ai be aY aP aQ aD aR aZ bl Go.Abs.Fn aX Go.Abs.Pure aq aK Yl
theorem n6(c:List Spx)(hc:aB c=0)(hl:c.length≤50):pU 43 [b9 c] (.int .i64 0):=by
 refine pO Ix ?_;simp only[b43,aJ];have he:=Cf c hc hl;refine wnY (aI @aj @ae) ?_;exact .int _ _
theorem L7(s t:Spx)(hs:Shn s)(ht:Shn t):pU 69 [aC s,aC t] (.bool (decide (s=t))):=by
 refine pO Nh ?_;simp only[b69,aJ];have hc:=gI s t hs ht;have e:decide (bH s t=0)=decide (s=t):=decide_eq_decide.2 ⟨fun h=>pu h,fun h=>by rw[h];exact fZ t⟩;refine wnY @e ?_;exact .bool _
theorem Lg(a b:List Spx)(ha:ShC a)(hb:ShC b):pU 68 [an a,an b,.func 69 []] (.bool (decide (a=b))):=by
 refine pO M6 ?_;simp only[b68,aJ];by_cases hl:a.length=b.length
 rotate_left
 ·have z:decide ((a.length:Int)≠b.length)=true:=a8 (by omega);rw[bc (fun e=>hl (by rw[e]))];refine wnY (aI @ah @z) ?_;exact .bool _
 have z:decide ((a.length:Int)≠b.length)=false:=by rw[hl];exact bc (fun h=>h rfl)
 have hal:=ha.1;refine wnY (aI @ah @z) ?_;refine nG (X:=Nat) (fun k=>[(0,an a),(1,an b),(2,.func 69 []),(15,an a),(16,.int .i64 a.length),(17,.int .i64 k)]) (fun k=>k≤a.length∧∀i,i<k→a.getD i default=b.getD i default) (fun k=>a.length-k) 0 ⟨bR _,fun i h=>absurd h (by omega)⟩ ag0 ?_;rintro k ⟨h1,h2⟩;by_cases hk:k<a.length
 rotate_left
 ·obtain rfl:k=a.length:=by omega
  have e:a=b:=List.ext_getElem hl fun i i1 i2=>by
   have:=h2 i i1;simpa[List.getD,i1,i2] using this
  rw[a8 e];refine wnY and_self ?_;exact .bool _
 have ix:=fj hk;have iy:=fj (l:=b) (k:=k) (by omega);have hcl:=L7 _ _ (ha.2 _ (ay hk)) (hb.2 _ (ay (l:=b) (i:=k) (by omega)));by_cases e:a.getD k default=b.getD k default
 ·rw[a8 e] at hcl
  have hn:∀i,i<k+1→a.getD i default=b.getD i default:=fun i hi=>by
   rcases(by omega:i<k∨i=k) with h|rfl
   ·exact h2 i h
   ·exact e
  generalize a.getD k default=s at *;generalize b.getD k default=t at *;refine wnY (aI @ix @iy) ?_;exact⟨k+1,⟨by omega,hn⟩,by omega,ag0,rfl,rfl⟩
 ·rw[bc e] at hcl;rw[bc (fun q=>e (by rw[q]))];generalize a.getD k default=s at *;generalize b.getD k default=t at *;refine wnY (aI @ix @iy) ?_;exact .bool _
end Go.Proofs.YtekdaafnjdlenaaGreat
namespace Go.Proofs.YtekdaafnjdlenaaGreat
open Go Go.Abs
def lA(R:List (List Int))(y:List Int):List Int:=y.foldl (fun a i=>bX a (R.getD i.toNat default)) []
theorem vG{R:List (List Int)}{y:List Int}{i:Int}:lA R (y++[i])=bX (lA R y) (R.getD i.toNat default):=by unfold lA;rw[List.foldl_append];rfl
theorem BS{R:List (List Int)}{c:Nat}(hR:∀r∈R,bd r)(hv:∀r∈R,∀z∈r,0≤z∧z<(c:Int)){y:List Int}(hy:∀i∈y,0≤i∧i<(R.length:Int)):∀k,k≤y.length→bd (lA R (y.take k))∧∀z∈lA R (y.take k),0≤z∧z<(c:Int)
 |0,_=>⟨pr,fun z h=>(by cases h)⟩
 |k+1,hk=>by
  obtain⟨h1,h2⟩:=BS hR hv hy k (by omega);have hi:=hy _ (ay (l:=y) (i:=k) (by omega));have hm:R.getD (y.getD k default).toNat default∈R:=ay (by omega);rw[cr (show k<y.length by omega),vG];refine⟨dU h1 (hR _ hm),fun z hz=>?_⟩;rcases(dq h1 (hR _ hm)).1 hz with q|q
  ·exact h2 z q.1
  ·exact hv _ hm z q.1
def Fu(R:List (List Int))(b y:List Int):Int:=if lA R y=[] then(if ir y b=true then 0 else 18) else 18
attribute [local irreducible] aH ai be aY aP aQ aD aR aZ bl Go.Abs.Fn aX Go.Abs.Pure aq aK Yl
theorem Ec(c:Nat)(R:List (List Int))(b y:List Int)(hm:ia c R)(hbr:∀v∈b,0≤v∧v<(R.length:Int))(hba:bd b)(hyr:∀v∈y,0≤v∧v<(R.length:Int))(hya:bd y):pU 71 [dV c R,aE b,aE y] (.int .i64 (Fu R b y)):=by
 refine pO MA ?_;simp only[b71,aJ];have hmR:=fJ hm;have hmv:∀r∈R,∀z∈r,0≤z∧z<(c:Int):=fun r hr z hz=>(hm.2.2.2 r hr).1 z hz;have hbl:=eZ hba hbr;have hyl:=eZ hya hyr
 have hvec:∀ {x:List Int},x.length ≤ R.length→(∀ v ∈ x,0 ≤ v∧v < (R.length:Int))→bd x→pU 114 [aE x,.int .i64 R.length] (.int .i64 0):=fun {x} h1 h2 h3=>pH x (R.length:Int) (by have:=hm.2.2.1; omega) h2 (fun i hi=>by
  have:=jT.1 h3 i (i+1) (by omega) hi (by omega);simpa[List.getD,show i<x.length by omega,hi] using this)
 have h1:=lh c R hm;have h2:=hvec hbl hbr hba;have h3:=hvec hyl hyr hya;have z0:decide ((0:Int)≠0)=false:=rfl;have hd:Dat (.agg [.int .i64 c,bF R]):=dl c R;have hmc:=hm.2.1;have hrl:=hm.2.2.1;have hod:=Ew y b (by omega) (by omega);rw[dp];refine wnY (zI3 @z0 @eG @ez) ?_;refine Ls (X:=Nat) (fun k=>[(1,aE b),(2,aE y),(3,.ptr 0 2 0),(10,aE (lA R (y.take k))),(34,aE y),(35,.int .i64 y.length),(36,.int .i64 k)]) (fun k H nx=>k≤y.length∧H 0=some [.int .i64 c,bF R]) (fun k=>y.length-k) 0 ⟨_,_,Fz.none,⟨bR _,rfl⟩,⟨.inl rfl,.inl rfl,.inl rfl,.inr (.eslsl 1),.inl rfl,.inl rfl,.inl rfl,trivial⟩⟩ ?_;rintro k H nx ⟨g1,g2⟩;obtain⟨a1,a2⟩:=BS hmR hmv hyr k g1;have al:=eZ a1 a2;by_cases hk:k<y.length
 ·have ix:=ixV hk;have hi:=hyr _ (ay hk);have hts:=cr hk;have hsn:lA R (y.take (k+1))=bX (lA R (y.take k)) (R.getD (y.getD k default).toNat default):=by rw[hts,vG]
  have iy:ey 1 (bF R) (.int .i64 (y.getD k default))=some (.iptr [aE (R.getD (y.getD k default).toNat default)] 0):=by
   rw[n5,if_pos ⟨hi.1,hi.2⟩]
  have hrow:R.getD (y.getD k default).toNat default∈R:=ay (by omega);have hrl2:=(hm.2.2.2 _ hrow).2.1;have hsu:=vP (lA R (y.take k)) (R.getD (y.getD k default).toNat default) (by omega) (by omega);rw[←hsn] at hsu;generalize R.getD (y.getD k default).toNat default=r at *;generalize y.getD k default=i at *;generalize lA R (y.take k)=s1 at *;refine wnY (zI3 @g2 @ix @iy) ?_;exact⟨k+1,by omega,_,_,Fz.none,⟨by omega,g2⟩,Be ag0⟩
 obtain rfl:k=y.length:=by omega
 rw[List.take_length] at *;unfold Fu;by_cases hs:lA R y=[]
 ·rw[if_pos hs];have z:decide ((0:Int)<(lA R y).length)=false:=by rw[hs];rfl
  cases ho:ir y b
  ·rw[ho] at hod;refine wnY (aI @z @ez) ?_;exact .int _ _
  ·rw[ho] at hod;refine wnY (aI @z @ez) ?_;exact .int _ _
 ·rw[if_neg hs];have z:decide ((0:Int)<(lA R y).length)=true:=a8 (by have:=gK.2 hs;omega);refine wnY (aI @z @ez) ?_;exact .int _ _
end Go.Proofs.YtekdaafnjdlenaaGreat
namespace Go.Proofs.YtekdaafnjdlenaaGreat
open Go Go.Abs
open Nat (reduceEqDiff reduceAdd reduceLeDiff)
def mi(H:Hp)(s:AV)(l:List (List Int)):Prop:=s=bF l∨Row H 1 s (l.map aE)
theorem mi.src{H H':Hp}{s:AV}{l:List (List Int)}(h:mi H s l)(hs:∀b,bZ s=some b→H' b=H b):er 1 H' s=some (l.length,l.map aE):=by
 rcases h with rfl|h
 ·exact jd
 ·have h:=h.same hs;generalize hc:l.map aE=cs at h;have hl:l.length=cs.length:=by rw[←hc,bz]
  cases h with
  |nil=>rw[hl];rfl
  |box b len cs hb hn=>
   rw[Nat.mul_one] at hn;rw[fH hb (by rw[hn,Nat.mul_one]) (by omega),hl,hn,Nat.mul_one,List.drop_zero,gz (by omega)]
theorem mi.len{H:Hp}{s:AV}{l:List (List Int)}(h:mi H s l):fA s=some l.length:=by
 rcases h with rfl|h
 ·exact yk
 ·generalize hc:l.map aE=cs at h;have hl:l.length=cs.length:=by rw[←hc,bz]
  cases h with
  |nil=>rw[hl];rfl
  |box b len cs hb hn=>rw[hl,hn,Nat.mul_one];rfl
theorem mi.snap{H:Hp}{s:AV}{l:List (List Int)}(h:mi H s l):Snap H s (bF l):=by
 rcases h with rfl|h
 ·exact(mH l).snap
 ·exact py h
theorem tT{H:Hp}{s:AV}{cs:List AV}(h:Row H 1 s cs)(c:Int):ed [AV.int .i64 0,.esl] [(0,1,.int .i64 c),(1,1,s)]=some [.int .i64 c,s]:=by cases h<;>rfl
theorem B9{l:List (List Int)}:AV.ones (l.map aE)=true:=by
 unfold AV.ones;rw[eh];intro x hx;obtain⟨y,_,rfl⟩:=bE.1 hx;rfl
def Gb(x:AV):Option AV:=match x with|.ptr b n o=>some (.ptr b n o)|.iptr c o=>some (.iptr c o)|.func f c=>some (.func f c)|_=>none
theorem NK:(∀(T:Tm)(H:Hp)(x:Opd),bB T H (.nilck x)=Gb (ov T x))∧(∀b n o:Nat,Gb (.ptr b n o)=some (.ptr b n o)):=⟨fun _ _ _=>rfl,fun _ _ _=>rfl⟩
attribute [local irreducible] aH ai be aY aP aQ aD aR aZ bl Go.Abs.Fn aX Go.Abs.Pure aq aK Yl
theorem CT(s:AV)(l:List (List Int))(hl:l.length≤1000000)(H:Hp)(nx:Nat)(hr:mi H s l)(hb:∀b,bZ s=some b→b<nx):Abs.Fn Tryz.prog 135 [s] H nx fun r H' nx'=>Row H' 1 r (l.map aE)∧nx≤nx'∧(∀x,x<nx→H' x=H x)∧∀b,bZ r=some b→nx≤b∧b<nx':=by
 refine fO L0 ?_;simp only[KB,aJ];have hsrc:=hr.src (H':=H) fun _ _=>rfl;have hn:=hr.len;have fin:l.length=0→l.map aE=[]:=fun h=>by rw[fk.1 h];rfl
 repeat' (first|refine zW ?_|apply a_n|refine zO ?_|refine vY ?_|fail)
 refine wx (k:=l.length) (by((try simp only[b5,ZA,reduceEqDiff,↓reduceIte,reduceAdd,reduceLeDiff]);(try with_reducible rfl));exact hn) (fun h=>?_) (fun h=>?_) (fun h=>?_)
 ·repeat' (first|refine zW ?_|apply a_n|refine zO ?_|refine vY ?_|refine b0Y ?_|refine cFY ?_|fail)
  refine lZ rfl ev0 ev0 hsrc B9 (by omega) (by omega) ?_
  repeat' (first|apply a_n|refine zO ?_|refine vY ?_|refine bI rfl ?_|refine r1Y ?_|fail)
  refine⟨by simpa only[Nat.mul_one] using Row.box (sz:=1) nx l.length (l.map aE) (af (H:=H)) (by rw[bz,Nat.mul_one]),by omega,fun x hx=>ac (by omega),fun b hb=>by cases hb;omega⟩
 ·repeat' (first|refine zW ?_|apply a_n|apply a_r|refine zO ?_|refine vY ?_|refine cTY ?_|refine bI rfl ?_|refine r1Y ?_|fail)
  refine⟨by rw[fin h];exact Row.nil,aO _,fun x hx=>rfl,fun b hb=>(by cases hb)⟩
 ·repeat' (first|refine zW ?_|apply a_n|refine zO ?_|refine vY ?_|refine b0Y ?_|refine cFY ?_|fail)
  refine lZ rfl ev0 ev0 hsrc B9 (by omega) (by omega) ?_
  repeat' (first|apply a_n|refine zO ?_|refine vY ?_|refine bI rfl ?_|refine r1Y ?_|fail)
  refine⟨by simpa only[Nat.mul_one] using Row.box (sz:=1) nx l.length (l.map aE) (af (H:=H)) (by rw[bz,Nat.mul_one]),by omega,fun x hx=>ac (by omega),fun b hb=>by cases hb;omega⟩
set_option maxHeartbeats 1000000 in
theorem KR(c:Nat)(E:List (List Int))(rk:Nat)(v:List Int)(s:AV)(b:Nat)(H:Hp)(nx:Nat)(hm:ia c (E++[v]))(hb:H b=some [.int .i64 c,s,.int .i64 rk])(hbn:b<nx)(hr:mi H s E)(hs:∀x,bZ s=some x→x<nx):
    Abs.Fn Tryz.prog 82 [.ptr b 3 0,aE v] H nx fun r H' nx'=>nx≤nx'∧(∀x,x<nx→x≠b→H' x=H x)∧((en (E++[v]) c).length=rk∧r=.tup [.bool false,.int .i64 0]∧H' b=H b∨(en (E++[v]) c).length≠rk∧r=.tup [.bool true,.int .i64 0]∧∃rv,H' b=some [.int .i64 c,rv,.int .i64 (en (E++[v]) c).length]∧mi H' rv (E++[v])∧∀x,bZ rv=some x→nx≤x∧x<nx'):=by
 refine fO M7 ?_;simp only[b82,aJ];have hrank:=A0 c (E++[v]) hm;have hel:E.length≤4096:=by have:=hm.2.2.1;rw[du] at this;omega
 have hcl:=fun H' nx' (h1:∀ x,x < nx→H' x=H x) (h2:nx ≤ nx')=>CT s E (by omega) H' nx' (by
  rcases hr with h|h
  ·exact .inl h
  ·exact .inr (h.same fun x hx=>h1 x (hs x hx))) (fun x hx=>by have:=hs x hx;omega)
 refine dH ?_
 repeat' (first|apply a_n|refine zO ?_|refine vY ?_|fail)
 refine co (fun T H' nx'=>∃nb rv,T 0=.ptr b 3 0∧T 1=aE v∧T 6=.ptr nb 2 0∧nx≤nb∧nb<nx'∧H' nb=some [.int .i64 c,rv]∧Row H' 1 rv ((E++[v]).map aE)∧(∀x,bZ rv=some x→nx≤x∧x<nx'∧x≠nb)∧∀x,x<nx→H' x=H x) ?_ ?_
 ·refine Jg (only b [.int .i64 c,s,.int .i64 rk]) (oh hb) ?_;have hS:only b [.int .i64 c,s,.int .i64 rk] b=some [.int .i64 c,s,.int .i64 rk]:=nf;have hsub:∀H':Hp,H' b=some [.int .i64 c,s,.int .i64 rk]→Sub (only b [.int .i64 c,s,.int .i64 rk]) H':=fun H' h=>oh h;generalize only b [AV.int .i64 c,s,.int .i64 rk]=S at *;simp only[dT,List.map_nil,List.getD_cons_succ,List.getD_cons_zero];have zz:=aI @NK @hS;repeat' (first|apply a_n|refine zO ?_|refine nvY ?_|apply u4|refine HE ?_|fail)
  refine J5 (pv:=[(0,1,aE v)]) (cs:=[aE v]) ev0 rfl (by decide) rfl rfl (u4 ?_);have hsv:∀H':Hp,er 1 H' (.sl 1 [aE v])=some (1,[aE v]):=fun _=>rfl;have ones_encVs:AV.ones [aE v]=true:=rfl;have happ:E.map aE++[aE v]=(E++[v]).map aE:=by rw[dw];rfl
  refine JU ?_ ?_
  ·refine eb ?_
   repeat' (first|apply a_n|refine zO ?_|refine alY ?_|fail)
   refine⟨hsub _ (by rw[ac (by omega)];exact hb),?_⟩;refine eb ?_;refine ba ev0 ev0 (hcl _ _ (fun x hx=>ac (by omega)) (by omega)) ?_;rintro r H1 nx1 ⟨k1,k2,k3,k4⟩;have q0:H1 nx=some [AV.int .i64 0,.esl]:=(k3 nx (by omega)).trans af;have q1:∀x,x<nx→H1 x=H x:=fun x hx=>(k3 x (by omega)).trans (ac (by omega));refine jY ⟨hsub _ ((q1 b hbn).trans hb),?_⟩;refine eb ?_;refine nt rfl ev0 k1 ev0 (hsv _) ones_encVs rfl nM (by rw[bz];omega) (by rw[bz];omega) ?_;rintro s2 H2 nx2 hr2 i1 i2 i3 i4;rw[happ] at hr2;have g:∀x,x≤nx→H2 x=H1 x:=fun x hx=>i3 x (by omega) fun h=>by have:=(k4 x h).1;omega
   refine jY ⟨hsub _ ((g b (by omega)).trans ((q1 b hbn).trans hb)),?_⟩;have q2:=(g nx (aO _)).trans q0;have hge:∀x,bZ s2=some x→nx+1≤x∧x<nx2:=fun x hx=>(i4 x hx).elim (fun h=>⟨(k4 x h).1,by have:=(k4 x h).2;omega⟩) fun h=>⟨by omega,by omega⟩
   clear zz;have zz:=aI @q2 (aI (tT hr2) (aI hr2.one.1 hr2.one.2));repeat' (first|apply a_n|refine zO ?_|refine nvY ?_|apply jM|refine stY ?_|fail)
   refine⟨nx,s2,rfl,rfl,rfl,by omega,by omega,af,hr2.same (fun x hx=>ac (by have:=(hge x hx).1;omega)),fun x hx=>⟨by have:=(hge x hx).1;omega,(hge x hx).2,by have:=(hge x hx).1;omega⟩,fun x hx=>?_⟩;rw[ac (by omega)];exact(g x (by omega)).trans (q1 x hx)
  ·refine eb ?_;refine ba ev0 ev0 (hcl _ _ (fun x hx=>rfl) (by omega)) ?_;rintro r H1 nx1 ⟨k1,k2,k3,k4⟩;refine jY ⟨hsub _ ((k3 b hbn).trans hb),u4 ?_⟩;refine JU ?_ ?_
   ·refine eb ?_
    repeat' (first|apply a_n|refine zO ?_|refine alY ?_|fail)
    refine⟨hsub _ (by rw[ac (by omega)];exact(k3 b hbn).trans hb),?_⟩;refine eb ?_;refine nt rfl ev0 (k1.same fun x hx=>ac (by have:=(k4 x hx).2;omega)) ev0 (hsv _) ones_encVs rfl nM (by rw[bz];omega) (by rw[bz];omega) ?_;rintro s2 H2 nx2 hr2 i1 i2 i3 i4;rw[happ] at hr2;have g:∀x,x<nx→H2 x=H1 x:=fun x hx=>(i3 x (by omega) fun h=>by have:=(k4 x h).1;omega).trans (ac (by omega));have q2:=(i3 nx1 (by omega) fun h=>by have:=(k4 nx1 h).2;omega).trans af;refine jY ⟨hsub _ ((g b (by omega)).trans ((k3 b hbn).trans hb)),?_⟩;have hge:∀x,bZ s2=some x→nx≤x∧x<nx2∧x≠nx1:=fun x hx=>(i4 x hx).elim (fun h=>⟨(k4 x h).1,by have:=(k4 x h).2;omega,by have:=(k4 x h).2;omega⟩) fun h=>⟨by omega,by omega,by omega⟩
    clear zz;have zz:=aI @q2 (aI (tT hr2) (aI hr2.one.1 hr2.one.2));repeat' (first|apply a_n|refine zO ?_|refine nvY ?_|apply jM|refine stY ?_|fail)
    refine⟨nx1,s2,rfl,rfl,rfl,by omega,by omega,af,hr2.same (fun x hx=>ac (by have:=(hge x hx).2.2;omega)),fun x hx=>⟨(hge x hx).1,(hge x hx).2.1,by have:=(hge x hx).2.2;omega⟩,fun x hx=>?_⟩;rw[ac (by omega)];exact(g x (by omega)).trans (k3 x hx)
   ·refine eb ?_;refine nt rfl ev0 k1 ev0 (hsv _) ones_encVs rfl nM (by rw[bz];omega) (by rw[bz];omega) ?_;rintro s2 H2 nx2 hr2 i1 i2 i3 i4;rw[happ] at hr2;have g:∀x,x<nx→H2 x=H1 x:=fun x hx=>i3 x (by omega) fun h=>by have:=(k4 x h).1;omega
    refine jY ⟨hsub _ ((g b (by omega)).trans ((k3 b hbn).trans hb)),u4 ?_⟩;have hge:∀x,bZ s2=some x→nx≤x∧x<nx2:=fun x hx=>(i4 x hx).elim (fun h=>⟨(k4 x h).1,by have:=(k4 x h).2;omega⟩) fun h=>⟨by omega,by omega⟩
    clear zz;have zz:=(tT hr2);repeat' (first|apply a_n|refine zO ?_|refine nvY ?_|apply u4|refine HE ?_|fail)
    refine JO (eb ?_)
    repeat' (first|apply a_n|refine zO ?_|refine alY ?_|fail)
    refine⟨hsub _ (by rw[ac (by omega)];exact(g b hbn).trans ((k3 b hbn).trans hb)),?_⟩;clear zz;have zz:=aI hr2.one.1 hr2.one.2;repeat' (first|apply a_n|refine zO ?_|apply jM|refine stY ?_|fail)
    refine⟨nx2,s2,rfl,rfl,rfl,by omega,by omega,af,hr2.same (fun x hx=>(ac (by have:=(hge x hx).2;omega)).trans (ac (by have:=(hge x hx).2;omega))),fun x hx=>⟨(hge x hx).1,by have:=(hge x hx).2;omega,by have:=(hge x hx).2;omega⟩,fun x hx=>?_⟩;rw[ac (by omega),ac (by omega)];exact(g x (by omega)).trans (k3 x hx)
 rintro T H1 nx1 ⟨nb,wv,t0,t1,t6,h1,h2,h3,h4,h5,h6⟩;have g0:H1 b=some [.int .i64 c,s,.int .i64 rk]:=(h6 b hbn).trans hb;generalize hEv:E++[v]=E' at *;have zz:=aI @t0 (aI @t1 (aI @t6 @h3));repeat' (first|refine zW ?_|apply a_n|refine zO ?_|refine vY ?_|fail)
 refine ec (have zz:=aI @t0 (aI @t1 (aI @t6 @h3));evY) (have zz:=aI @t0 (aI @t1 (aI @t6 @h3));evY) hrank (aA (ag (ul (ag (Dat.snap Dat.int) (ag (py h4) ak))) ak) rfl) ?_;have bne:∀x,bZ wv=some x→x≠b:=fun x hx=>by have:=(h5 x hx).1;omega
 by_cases heq:(en E' c).length=rk
 ·have hi:decide ((((en E' c).length:Nat):Int)=(rk:Int))=true:=a8 (by rw[heq]);clear zz;have zz:=aI @t0 (aI @t1 (aI @t6 (aI @h3 (aI @g0 (aI @NK @hi)))));repeat' (first|refine zW ?_|apply a_n|apply a_r|refine zO ?_|refine vY ?_|refine gTY ?_|(refine zGY ?_ ?_<;>(intro _hg;try (exfalso;omega)))|refine cTY ?_|refine bI rfl ?_|refine r2Y ?_|fail)
  exact⟨by omega,fun x hx _=>h6 x hx,.inl ⟨heq,rfl,h6 b hbn⟩⟩
 ·have hi:decide ((((en E' c).length:Nat):Int)=(rk:Int))=false:=bc (fun h=>heq (by exact_mod_cast h));clear zz;have zz:=aI @t0 (aI @t1 (aI @t6 (aI @h3 (aI @g0 (aI @NK (aI @hi (aI h4.one.1 h4.one.2)))))));repeat' (first|refine zW ?_|apply a_n|refine zO ?_|refine vY ?_|refine stY ?_|refine gTY ?_|(refine zGY ?_ ?_<;>(intro _hg;try (exfalso;omega)))|refine cFY ?_|refine bI rfl ?_|refine r2Y ?_|fail)
  have e:bK [AV.int .i64 c,wv,.int .i64 rk] 2 [.int .i64 ((en E' c).length:Int)]=[.int .i64 c,wv,.int .i64 ((en E' c).length:Int)]:=rfl;refine⟨by omega,fun x hx hxb=>?_,.inr ⟨heq,rfl,wv,?_,.inr (h4.same fun x hx=>?_),fun x hx=>⟨(h5 x hx).1,(h5 x hx).2.1⟩⟩⟩
  ·rw[ac hxb,ac hxb];exact h6 x hx
  ·rw[af,e]
  ·rw[ac (bne x hx),ac (bne x hx)]
end Go.Proofs.YtekdaafnjdlenaaGreat
namespace Go.Proofs.YtekdaafnjdlenaaGreat
open Go Go.Abs
open Nat (reduceEqDiff reduceAdd reduceLeDiff)
def RL(c:Nat)(rows:List (List Int)):Prop:=∀r∈rows,bd r∧∀z∈r,0≤z∧z<(c:Int)
theorem RL.len{c:Nat}{rows:List (List Int)}(h:RL c rows):∀r∈rows,r.length≤c:=fun r hr=>eZ (h r hr).1 (h r hr).2
theorem RL.sum {c:Nat} {a b:List Int} (h1:bd a∧∀ z ∈ a,0 ≤ z∧z < (c:Int)) (h2:bd b∧∀ z ∈ b,0 ≤ z∧z < (c:Int)):bd (bX a b)∧∀ z ∈ bX a b,0 ≤ z∧z < (c:Int):=⟨dU h1.1 h2.1,fun z hz=>by
 rcases(dq h1.1 h2.1).1 hz with q|q
 ·exact h1.2 z q.1
 ·exact h2.2 z q.1⟩
theorem RL.elF{c:Nat}{rows:List (List Int)}(h:RL c rows){n k i:Nat}(hn:n<rows.length)(hi:i<rows.length):bd (elF rows n k i)∧∀z∈elF rows n k i,0≤z∧z<(c:Int):=by
 unfold Go.Proofs.YtekdaafnjdlenaaGreat.elF;split
 ·exact RL.sum (h _ (ay hi)) (h _ (ay hn))
 ·exact h _ (ay hi)
theorem RL.swL{c:Nat}{rows:List (List Int)}(h:RL c rows){n k:Nat}(hn:n<rows.length)(hk:k<rows.length):RL c (swL rows n k):=fun r hr=>by
 unfold Go.Proofs.YtekdaafnjdlenaaGreat.swL at hr;obtain⟨j,hj,rfl⟩:=bE.1 hr;exact h _ (ay (oa hn hk (eo.1 hj)))
theorem mi.one{H:Hp}{s:AV}{l:List (List Int)}(h:mi H s l):s.one=true∧s.cells=[s]:=by
 rcases h with rfl|h
 ·exact⟨rfl,rfl⟩
 ·exact h.one
attribute [local irreducible] aH ai be aY aP aQ aD aR aZ bl Go.Abs.Fn aX Go.Abs.Pure aq aK Yl
end Go.Proofs.YtekdaafnjdlenaaGreat
namespace Go.Proofs.YtekdaafnjdlenaaGreat
open Go Go.Abs
structure CmpO{α:Type}(P:Program)(f:α→AV)(K:α→α→Int)(G:α→Prop):Prop where
 cells:∀x,(f x).cells=[f x]
 one:∀x,(f x).one=true
 dat:∀x,Dat (f x)
 run:∀x y,G x→G y→Go.Abs.Pure P 187 [f x,f y] (.bool (decide (K x y<0)))
 ord:Ord K
section
variable{α:Type}[Inhabited α]{f:α→AV}{K:α→α→Int}{G:α→Prop}
attribute [local irreducible] aH ai be aY aP aQ aD aR aZ bl Go.Abs.Fn aX Go.Abs.Pure aq aK Yl
theorem Lu(hc:CmpO Tryz.prog f K G){L:List α}{H:Hp}{b nx n a e:Nat}(hH:H b=some (L.map f))(hn:L.length=n)(hG:∀x∈L,G x)(hae:a≤e)(hen:e≤n)(hn2:n≤1000000000):
    Abs.Fn Tryz.prog 189 [.msl b n 1 0 n,.int .i64 a,.int .i64 e] H nx fun r H' nx'=>nx'=nx∧∃L',H'=ap H b (L'.map f)∧PermR a e L L'∧bq K a e L':=by
 refine fO Mm ?_;simp only[KS,aJ];refine wnZ and_self ?_;refine b0 (X:=Nat×List α) (fun x=>[(0,.msl b n 1 0 n),(1,.int .i64 a),(2,.int .i64 e),(6,.int .i64 (x.1:Nat))]) (fun x H' nx'=>a+1≤x.1∧(x.1≤e∨x.1=a+1)∧H'=ap H b (x.2.map f)∧nx'=nx∧PermR a e L x.2∧bq K a x.1 x.2) (fun x=>e+1-x.1) (a+1,L) ⟨aO _,.inr rfl,k9 hH,rfl,.refl,bq.one (aO _)⟩ ag0 ?_;rintro⟨i,M0⟩ H' nx' ⟨h1,h2,rfl,rfl,hp0,hs0⟩;dsimp only at *;have hl0:M0.length=n:=by rw[hp0.len,hn]
 by_cases hi:i<e
 rotate_left
 ·refine wnZ and_self ?_;exact⟨rfl,M0,rfl,hp0,hs0.mono (aO _) (by omega)⟩
 refine wnZ and_self ?_;refine b0 (X:=Nat×List α) (fun x=>[(0,.msl b n 1 0 n),(1,.int .i64 a),(2,.int .i64 e),(6,.int .i64 (i:Nat)),(7,.int .i64 (x.1:Nat))]) (fun x H' nxx=>a≤x.1∧x.1≤i∧H'=ap H b (x.2.map f)∧nxx=nx'∧PermR a e L x.2∧gc K a i x.1 x.2) (fun x=>x.1) (i,M0) ⟨by omega,aO _,rfl,rfl,hp0,.start hs0⟩ ag0 ?_;clear hp0 hs0 hl0;rintro⟨j,M⟩ H' nxx ⟨a1,a2,rfl,rfl,hp,hal⟩;dsimp only at *;have hl:M.length=n:=by rw[hp.len,hn]
 have hGM:=hp.mem hG;by_cases hja:j=a
 ·subst hja;refine wkZ and_self ?_;exact⟨(i+1,M),by dsimp only;omega,⟨by dsimp only;omega,.inl (by dsimp only;omega),rfl,rfl,hp,hal.done hc.ord (.inl rfl)⟩,ag0⟩
 ·obtain⟨k,rfl⟩:∃k,j=k+1:=⟨j-1,by omega⟩
  have tj:((k+1:Nat):Int)-1=(k:Int):=by omega
  have lc:=hc.run (M.getD (k+1) default) (M.getD k default) (hGM _ (a5 (by omega))) (hGM _ (a5 (by omega)));have d1:=hc.dat (M.getD (k+1) default);have d2:=hc.dat (M.getD k default);generalize hKK:K (M.getD (k+1) default) (M.getD k default)=kk at lc;by_cases hlt:kk<0
  ·obtain⟨M1,hl1,lm1,lm2⟩:∃M1:List α,M1.length=n∧bK (M.map f) (k+1) [f (M.getD k default)]=M1.map f∧bK (M1.map f) k [f (M.getD (k+1) default)]=(swp M (k+1) k).map f:=
     ⟨M.set (k+1) (M.getD k default),by simp[hl],iW (by omega),by rw[iW (by simp;omega)];rfl⟩
   have lm3:=lm2;simp only[bK,bO,fC,cf] at lm1 lm2;refine wkZ (zI6 @tj @cw @lm1 @lm2 hc.cells hc.one) ?_;refine⟨(k,swp M (k+1) k),by dsimp only;omega,⟨by dsimp only;omega,by dsimp only;omega,?_,rfl,hp.trans (PermR.swap (by omega) (by omega) (by omega)),hal.step hc.ord (by omega) (by omega) (by omega) (by rw[hKK];exact hlt)⟩,(have zz:=@tj;agZ)⟩;dsimp only;rw[a6,a6,lm3]
  ·refine wkZ (zI4 @tj @cw hc.cells hc.one) ?_;exact⟨(i+1,M),by dsimp only;omega,⟨by dsimp only;omega,.inl (by dsimp only;omega),rfl,rfl,hp,hal.done hc.ord (.inr ⟨by omega,by rw[qg,hKK];exact hlt⟩)⟩,ag0⟩
end
end Go.Proofs.YtekdaafnjdlenaaGreat
namespace Go.Proofs.YtekdaafnjdlenaaGreat
open Go Go.Abs
theorem MG:Ord (fun x y:Int=>x-y):=⟨fun x=>by omega,fun x y h=>by omega,fun x y z h1 h2=>by omega⟩
attribute [local irreducible] aH ai be aY aP aQ aD aR aZ bl Go.Abs.Fn aX Go.Abs.Pure aq aK Yl
theorem Jm(x y:Int):pU 187 [.int .i64 x,.int .i64 y] (.bool (decide (x-y<0))):=by
 have e:decide (x-y<0)=decide (x<y):=decide_eq_decide.2 (by omega);rw[e];have n1:=jb x;refine pO HI ?_;simp only[Jb,aJ];refine wnZ and_self ?_;exact Dat.snap Dat.bool
theorem MC:CmpO Tryz.prog (fun x:Int=>.int .i64 x) (fun x y=>x-y) (fun _=>True):=⟨fun _=>rfl,fun _=>rfl,fun _=>.int,fun x y _ _=>Jm x y,MG⟩
theorem GX{L:List Int}{H:Hp}{b nx n lim:Nat}(hH:H b=some (L.map fun x=>.int .i64 x))(hn:L.length=n)(hn2:n≤12):
    Abs.Fn Tryz.prog 164 [.msl b n 1 0 n,.int .i64 0,.int .i64 n,.int .i64 lim] H nx fun r H' nx'=>nx'=nx∧∃L':List Int,H'=ap H b (L'.map fun x=>.int .i64 x)∧PermR 0 n L L'∧bq (fun x y:Int=>x-y) 0 n L':=by
 refine fO Lw ?_;simp only[LI,aJ];have z:decide ((n:Int)≤12)=true:=a8 (by omega);refine wnZ and_self ?_;refine b0 (X:=Unit) (fun x=>[(0,.msl b n 1 0 n),(1,.int .i64 0),(2,.int .i64 n),(3,.int .i64 lim)]) (fun x H' nx'=>H'=H∧nx'=nx) (fun x=>0) () ⟨rfl,rfl⟩ ag0 ?_;rintro _ _ _ ⟨rfl,rfl⟩;refine wnZ (aI @z @Int.sub_zero) ?_;refine ba ev0 (have zz:=@Int.natCast_zero;evZ) (Lu MC (a:=0) hH hn (fun _ _=>trivial) (bR _) (aO _) (by omega)) ?_;rintro _ _ _ ⟨rfl,L',rfl,hp,hs⟩;refine wnZ and_self ?_;exact⟨rfl,L',rfl,hp,hs⟩
def qL(m:Nat):Prop:=∀{L:List Int}{H:Hp}{b nx n:Nat},H b=some (L.map fun x=>.int .i64 x)→b<nx→L.length=n→0<n→n≤m→
    Abs.Fn Tryz.prog 147 [.msl b n 1 0 n] H nx fun r H' nx'=>∃L':List Int,PS H H' nx nx' b (L'.map fun x=>.int .i64 x)∧L'.Perm L∧L'.Pairwise (· ≤ ·)
theorem qL.le{m k:Nat}(h:qL m)(hk:k≤m):qL k:=fun a b c d e=>h a b c d (fB e hk)
theorem EJ:qL 12:=fun{L H b nx n} hH hbx hn hn0 hn2=>by
 refine fO J1 ?_;simp only[KZ,aJ];have w:IntKind.wrap .u64 (n:Int)=n:=gd (by omega) (by omega);refine wnZ @w ?_;refine ba ev0 (have zz:=@w;evZ) (FM hn0 (by omega)) ?_;rintro _ _ _ ⟨rfl,rfl,k,rfl,h3,h4⟩
 skip
 refine ba ev0 (have zz:=@Int.natCast_zero;evZ) (GX hH hn hn2) ?_;rintro _ _ _ ⟨rfl,N,rfl,hp,hs⟩;refine wnZ and_self ?_;refine⟨N,⟨af,fun i _ h2=>ac h2,aO _⟩,hp.perm,?_⟩;rw[jT];intro i j hi hj hij;have hl:N.length=n:=by rw[hp.len,hn]
 have:=hs i j (bR _) hij (by omega);simp only[List.getD,hi,hj,rH,uM] at this;omega
end Go.Proofs.YtekdaafnjdlenaaGreat